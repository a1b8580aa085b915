/-
  NARROWER THAN 'FOR EVERY INPUT', by the rows' own cells (each row's printed sentence says how): NoteUnpacks: laid · NoteBodies: laid · NoteTurned: laid · NoteCuts: laid · NotePacks: laid · CallerMost: laid · CallerPlays: laid · CallerStays: laid · CallerDeaf: laid.
  DERIVED. THE GIVEN ROWS OF THIS SEAT. 9 by the template 'for every input the law returns true; each argument reads behind the call as it read before'; 0 by the template 'total and deterministic' (their statements: YtjkffjngamagkaaDoorTotals.lean).
  GIVEN WITH THE SEED: the statements are not yours to turn. If you find one false, say at which input.
  Laid BY PROGRAM, IN A SANDBOX (cutbox-rows.mjs): the forced cells as the released guide's own fill.sh prints them over the translation ca52f87725e1db30… (all of the seat's roots in one cut). By AI agents, Wed Nov 11 2026. No macro, syntax, notation, axiom, sorry.
-/
import Derived.Test.YtjkffjngamagkaaDoorChecked
import GoSem.Claim
import GoSem.ClaimJoined
import GoSem.ClaimMapViews
import Derived.JoinedTies
import Derived.KernelRfl
namespace Go.Proofs.YtjkffjngamagkaaDoor
/- THE CELL 'sum', in the pinned program and in every row, IS THE sha256 OF THE DUMP (.gsa) THAT YtjkffjngamagkaaDoorProg.lean LOADS. Nothing in Lean hashes anything: it is a label: what it is worth is what the hold of that sum in a sandbox is worth. -/
noncomputable def Tryd.pinned : Pinned := { name := "ytjkffjngamagkaadoor", sum := "ca52f87725e1db302d1f2e9c8e503c6e61e7cee2cb096b64aa07b2359bc9dbca", checked := Tryd.checked }
namespace Rows
def none {H : Type} : Left H := { results := [], args := [] }

/- WHAT THE LISTED PACKAGE-LEVEL VARIABLES READ AS WHEN THE CALL BEGINS. Each datum BY PROGRAM (the guide's laid-datum.mjs) off the statement by which the dump's own 'gosem.cut.vars' lays the variable. In a bare row this is a premise. The card (YtjkffjngamagkaaDoorCards.lean) ties it to the program's text. -/
def laid_armillary_seal_nibble {H : Type} : DataW H := .agg [.lit (.int .u32 0), .lit (.int .u32 498536548), .lit (.int .u32 997073096), .lit (.int .u32 651767980), .lit (.int .u32 1994146192), .lit (.int .u32 1802195444), .lit (.int .u32 1303535960), .lit (.int .u32 1342533948), .lit (.int .u32 3988292384), .lit (.int .u32 4027552580), .lit (.int .u32 3604390888), .lit (.int .u32 3412177804), .lit (.int .u32 2607071920), .lit (.int .u32 2262029012), .lit (.int .u32 2685067896), .lit (.int .u32 3183342108)]
def laid_armillary_note_sorts {H : Type} : DataW H := .agg [.agg [.lit (.string []), .lit (.int .i64 0)], .agg [.lit (.string [65, 115, 107]), .lit (.int .i64 4098)], .agg [.lit (.string [82, 101, 112, 108, 121]), .lit (.int .i64 518)], .agg [.lit (.string [80, 114, 101, 112, 97, 114, 101]), .lit (.int .i64 6153)], .agg [.lit (.string [86, 111, 116, 101]), .lit (.int .i64 513)], .agg [.lit (.string [68, 101, 99, 105, 100, 101]), .lit (.int .i64 517)], .agg [.lit (.string [65, 99, 107]), .lit (.int .i64 1)], .agg [.lit (.string [80, 114, 111, 98, 101]), .lit (.int .i64 1)], .agg [.lit (.string [81, 117, 101, 114, 121]), .lit (.int .i64 8672)], .agg [.lit (.string [76, 111, 111, 107]), .lit (.int .i64 8692)], .agg [.lit (.string [83, 101, 101, 110]), .lit (.int .i64 16928)], .agg [.lit (.string [82, 101, 115, 117, 108, 116]), .lit (.int .i64 16932)], .agg [.lit (.string [80, 114, 101, 112, 97, 114, 101, 100]), .lit (.int .i64 6153)], .agg [.lit (.string [67, 111, 109, 109, 105, 116, 116, 101, 100]), .lit (.int .i64 5)], .agg [.lit (.string [65, 98, 111, 114, 116, 101, 100]), .lit (.int .i64 1)], .agg [.lit (.string [83, 119, 101, 112, 116]), .lit (.int .i64 16)], .agg [.lit (.string [69, 112, 111, 99, 104]), .lit (.int .i64 16)], .agg [.lit (.string [67, 111, 109, 109, 105, 116]), .lit (.int .i64 2055)], .agg [.lit (.string [69, 110, 100]), .lit (.int .i64 1)], .agg [.lit (.string [66, 101, 103, 105, 110]), .lit (.int .i64 7179)], .agg [.lit (.string [89, 101, 115]), .lit (.int .i64 1025)], .agg [.lit (.string [65, 99, 107, 101, 100]), .lit (.int .i64 1025)], .agg [.lit (.string [71, 111, 110, 101]), .lit (.int .i64 1)]]

/-- 'armillarylaw12.NoteUnpacks': WHATEVER THE INPUT: true; the input reads as it did. -/
def noteUnpacksSpec : ChangeSpec := { name := "noteUnpacks", fn := fun _ => fun
  | [d] => { results := [.lit (.bool true)], args := [d] }
  | _ => none }
def noteUnpacksRow : OpenClaim := { program := "ytjkffjngamagkaadoor", sum := "ca52f87725e1db302d1f2e9c8e503c6e61e7cee2cb096b64aa07b2359bc9dbca", func := "armillary/armillarylaw12.NoteUnpacks", spec := "noteUnpacks", inPlace := ["internal/bytealg.MakeNoZero"], unfollowed := true, recurses := true, named := ["armillary/note.sorts", "armillary/seal.nibble"], apart := false, laid := [("armillary/seal.nibble", laid_armillary_seal_nibble), ("armillary/note.sorts", laid_armillary_note_sorts)] }
def NoteUnpacksSaid : Prop := noteUnpacksRow.holds Tryd.pinned (OpenSpec.ofChange noteUnpacksSpec)

/-- ITS FALSE NEIGHBOUR: 'it returns false'. Refute it at one input. -/
def noteUnpacksWrong : ChangeSpec := { name := "noteUnpacks", fn := fun _ => fun
  | [d] => { results := [.lit (.bool false)], args := [d] }
  | _ => none }
def NoteUnpacksWrongFalsely : Prop := noteUnpacksRow.holds Tryd.pinned (OpenSpec.ofChange noteUnpacksWrong)

/-- 'armillarylaw12.NoteBodies': WHATEVER THE INPUT: true; the input reads as it did. -/
def noteBodiesSpec : ChangeSpec := { name := "noteBodies", fn := fun _ => fun
  | [d] => { results := [.lit (.bool true)], args := [d] }
  | _ => none }
def noteBodiesRow : OpenClaim := { program := "ytjkffjngamagkaadoor", sum := "ca52f87725e1db302d1f2e9c8e503c6e61e7cee2cb096b64aa07b2359bc9dbca", func := "armillary/armillarylaw12.NoteBodies", spec := "noteBodies", inPlace := ["internal/bytealg.MakeNoZero"], unfollowed := true, recurses := true, named := ["armillary/note.sorts", "armillary/seal.nibble"], apart := false, laid := [("armillary/seal.nibble", laid_armillary_seal_nibble), ("armillary/note.sorts", laid_armillary_note_sorts)] }
def NoteBodiesSaid : Prop := noteBodiesRow.holds Tryd.pinned (OpenSpec.ofChange noteBodiesSpec)

/-- ITS FALSE NEIGHBOUR: 'it returns false'. Refute it at one input. -/
def noteBodiesWrong : ChangeSpec := { name := "noteBodies", fn := fun _ => fun
  | [d] => { results := [.lit (.bool false)], args := [d] }
  | _ => none }
def NoteBodiesWrongFalsely : Prop := noteBodiesRow.holds Tryd.pinned (OpenSpec.ofChange noteBodiesWrong)

/-- 'armillarylaw12.NoteTurned': WHATEVER THE INPUT: true; the input reads as it did. -/
def noteTurnedSpec : ChangeSpec := { name := "noteTurned", fn := fun _ => fun
  | [d1, d2, d3] => { results := [.lit (.bool true)], args := [d1, d2, d3] }
  | _ => none }
def noteTurnedRow : OpenClaim := { program := "ytjkffjngamagkaadoor", sum := "ca52f87725e1db302d1f2e9c8e503c6e61e7cee2cb096b64aa07b2359bc9dbca", func := "armillary/armillarylaw12.NoteTurned", spec := "noteTurned", inPlace := ["internal/bytealg.MakeNoZero"], unfollowed := true, recurses := true, named := ["armillary/note.sorts", "armillary/seal.nibble"], apart := false, laid := [("armillary/seal.nibble", laid_armillary_seal_nibble), ("armillary/note.sorts", laid_armillary_note_sorts)] }
def NoteTurnedSaid : Prop := noteTurnedRow.holds Tryd.pinned (OpenSpec.ofChange noteTurnedSpec)

/-- ITS FALSE NEIGHBOUR: 'it returns false'. Refute it at one input. -/
def noteTurnedWrong : ChangeSpec := { name := "noteTurned", fn := fun _ => fun
  | [d1, d2, d3] => { results := [.lit (.bool false)], args := [d1, d2, d3] }
  | _ => none }
def NoteTurnedWrongFalsely : Prop := noteTurnedRow.holds Tryd.pinned (OpenSpec.ofChange noteTurnedWrong)

/-- 'armillarylaw12.NoteCuts': WHATEVER THE INPUT: true; the input reads as it did. -/
def noteCutsSpec : ChangeSpec := { name := "noteCuts", fn := fun _ => fun
  | [d1, d2, d3] => { results := [.lit (.bool true)], args := [d1, d2, d3] }
  | _ => none }
def noteCutsRow : OpenClaim := { program := "ytjkffjngamagkaadoor", sum := "ca52f87725e1db302d1f2e9c8e503c6e61e7cee2cb096b64aa07b2359bc9dbca", func := "armillary/armillarylaw12.NoteCuts", spec := "noteCuts", inPlace := ["internal/bytealg.MakeNoZero"], unfollowed := true, recurses := true, named := ["armillary/note.sorts", "armillary/seal.nibble"], apart := false, laid := [("armillary/seal.nibble", laid_armillary_seal_nibble), ("armillary/note.sorts", laid_armillary_note_sorts)] }
def NoteCutsSaid : Prop := noteCutsRow.holds Tryd.pinned (OpenSpec.ofChange noteCutsSpec)

/-- ITS FALSE NEIGHBOUR: 'it returns false'. Refute it at one input. -/
def noteCutsWrong : ChangeSpec := { name := "noteCuts", fn := fun _ => fun
  | [d1, d2, d3] => { results := [.lit (.bool false)], args := [d1, d2, d3] }
  | _ => none }
def NoteCutsWrongFalsely : Prop := noteCutsRow.holds Tryd.pinned (OpenSpec.ofChange noteCutsWrong)

/-- 'armillarylaw12.NotePacks': WHATEVER THE INPUT: true; the input reads as it did. -/
def notePacksSpec : ChangeSpec := { name := "notePacks", fn := fun _ => fun
  | [d] => { results := [.lit (.bool true)], args := [d] }
  | _ => none }
def notePacksRow : OpenClaim := { program := "ytjkffjngamagkaadoor", sum := "ca52f87725e1db302d1f2e9c8e503c6e61e7cee2cb096b64aa07b2359bc9dbca", func := "armillary/armillarylaw12.NotePacks", spec := "notePacks", inPlace := ["internal/bytealg.MakeNoZero"], unfollowed := true, recurses := true, named := ["armillary/note.sorts", "armillary/seal.nibble"], apart := false, laid := [("armillary/seal.nibble", laid_armillary_seal_nibble), ("armillary/note.sorts", laid_armillary_note_sorts)] }
def NotePacksSaid : Prop := notePacksRow.holds Tryd.pinned (OpenSpec.ofChange notePacksSpec)

/-- ITS FALSE NEIGHBOUR: 'it returns false'. Refute it at one input. -/
def notePacksWrong : ChangeSpec := { name := "notePacks", fn := fun _ => fun
  | [d] => { results := [.lit (.bool false)], args := [d] }
  | _ => none }
def NotePacksWrongFalsely : Prop := notePacksRow.holds Tryd.pinned (OpenSpec.ofChange notePacksWrong)

/-- 'armillarylaw19.CallerMost': WHATEVER THE INPUT: true; the input reads as it did. -/
def callerMostSpec : ChangeSpec := { name := "callerMost", fn := fun _ => fun
  | [d1, d2] => { results := [.lit (.bool true)], args := [d1, d2] }
  | _ => none }
def callerMostRow : OpenClaim := { program := "ytjkffjngamagkaadoor", sum := "ca52f87725e1db302d1f2e9c8e503c6e61e7cee2cb096b64aa07b2359bc9dbca", func := "armillary/armillarylaw19.CallerMost", spec := "callerMost", inPlace := ["internal/bytealg.MakeNoZero"], unfollowed := true, recurses := true, named := ["armillary/note.sorts", "armillary/seal.nibble"], apart := false, laid := [("armillary/seal.nibble", laid_armillary_seal_nibble), ("armillary/note.sorts", laid_armillary_note_sorts)] }
def CallerMostSaid : Prop := callerMostRow.holds Tryd.pinned (OpenSpec.ofChange callerMostSpec)

/-- ITS FALSE NEIGHBOUR: 'it returns false'. Refute it at one input. -/
def callerMostWrong : ChangeSpec := { name := "callerMost", fn := fun _ => fun
  | [d1, d2] => { results := [.lit (.bool false)], args := [d1, d2] }
  | _ => none }
def CallerMostWrongFalsely : Prop := callerMostRow.holds Tryd.pinned (OpenSpec.ofChange callerMostWrong)

/-- 'armillarylaw19.CallerPlays': WHATEVER THE INPUT: true; the input reads as it did. -/
def callerPlaysSpec : ChangeSpec := { name := "callerPlays", fn := fun _ => fun
  | [d1, d2, d3] => { results := [.lit (.bool true)], args := [d1, d2, d3] }
  | _ => none }
def callerPlaysRow : OpenClaim := { program := "ytjkffjngamagkaadoor", sum := "ca52f87725e1db302d1f2e9c8e503c6e61e7cee2cb096b64aa07b2359bc9dbca", func := "armillary/armillarylaw19.CallerPlays", spec := "callerPlays", inPlace := ["internal/bytealg.MakeNoZero"], unfollowed := true, recurses := true, named := ["armillary/note.sorts", "armillary/seal.nibble"], apart := false, laid := [("armillary/seal.nibble", laid_armillary_seal_nibble), ("armillary/note.sorts", laid_armillary_note_sorts)] }
def CallerPlaysSaid : Prop := callerPlaysRow.holds Tryd.pinned (OpenSpec.ofChange callerPlaysSpec)

/-- ITS FALSE NEIGHBOUR: 'it returns false'. Refute it at one input. -/
def callerPlaysWrong : ChangeSpec := { name := "callerPlays", fn := fun _ => fun
  | [d1, d2, d3] => { results := [.lit (.bool false)], args := [d1, d2, d3] }
  | _ => none }
def CallerPlaysWrongFalsely : Prop := callerPlaysRow.holds Tryd.pinned (OpenSpec.ofChange callerPlaysWrong)

/-- 'armillarylaw19.CallerStays': WHATEVER THE INPUT: true; the input reads as it did. -/
def callerStaysSpec : ChangeSpec := { name := "callerStays", fn := fun _ => fun
  | [d] => { results := [.lit (.bool true)], args := [d] }
  | _ => none }
def callerStaysRow : OpenClaim := { program := "ytjkffjngamagkaadoor", sum := "ca52f87725e1db302d1f2e9c8e503c6e61e7cee2cb096b64aa07b2359bc9dbca", func := "armillary/armillarylaw19.CallerStays", spec := "callerStays", inPlace := ["internal/bytealg.MakeNoZero"], unfollowed := true, recurses := true, named := ["armillary/note.sorts", "armillary/seal.nibble"], apart := false, laid := [("armillary/seal.nibble", laid_armillary_seal_nibble), ("armillary/note.sorts", laid_armillary_note_sorts)] }
def CallerStaysSaid : Prop := callerStaysRow.holds Tryd.pinned (OpenSpec.ofChange callerStaysSpec)

/-- ITS FALSE NEIGHBOUR: 'it returns false'. Refute it at one input. -/
def callerStaysWrong : ChangeSpec := { name := "callerStays", fn := fun _ => fun
  | [d] => { results := [.lit (.bool false)], args := [d] }
  | _ => none }
def CallerStaysWrongFalsely : Prop := callerStaysRow.holds Tryd.pinned (OpenSpec.ofChange callerStaysWrong)

/-- 'armillarylaw19.CallerDeaf': WHATEVER THE INPUT: true; the input reads as it did. -/
def callerDeafSpec : ChangeSpec := { name := "callerDeaf", fn := fun _ => fun
  | [d1, d2] => { results := [.lit (.bool true)], args := [d1, d2] }
  | _ => none }
def callerDeafRow : OpenClaim := { program := "ytjkffjngamagkaadoor", sum := "ca52f87725e1db302d1f2e9c8e503c6e61e7cee2cb096b64aa07b2359bc9dbca", func := "armillary/armillarylaw19.CallerDeaf", spec := "callerDeaf", inPlace := ["internal/bytealg.MakeNoZero"], unfollowed := true, recurses := true, named := ["armillary/note.sorts", "armillary/seal.nibble"], apart := false, laid := [("armillary/seal.nibble", laid_armillary_seal_nibble), ("armillary/note.sorts", laid_armillary_note_sorts)] }
def CallerDeafSaid : Prop := callerDeafRow.holds Tryd.pinned (OpenSpec.ofChange callerDeafSpec)

/-- ITS FALSE NEIGHBOUR: 'it returns false'. Refute it at one input. -/
def callerDeafWrong : ChangeSpec := { name := "callerDeaf", fn := fun _ => fun
  | [d1, d2] => { results := [.lit (.bool false)], args := [d1, d2] }
  | _ => none }
def CallerDeafWrongFalsely : Prop := callerDeafRow.holds Tryd.pinned (OpenSpec.ofChange callerDeafWrong)

/- THE SECOND FORM. 'bulk': how many values and letters a reading holds, each counted each time it is reached (what is shared counts as often as it is met; a slice's spare places count too). A statement '..UptoSaid' is the law's where the arguments, and the package variables that the reading takes, are together of bulk at most 1048576: NARROWER than '..Said'. Prove '..Said' where nothing that the law and all that it calls make is longer than what came in: it says more and counts as full. Else prove '..UptoSaid'. A law counts once. -/
mutual
def uptoBulk {H : Type} : DataW H → Nat
  | .lit (.string bytes) => bytes.length + 1
  | .lit _ => 1
  | .nil => 1
  | .ptr d => uptoBulk d + 1
  | .slice elems spare => uptoBulkAll elems + uptoBulkAll spare + 1
  | .agg parts => uptoBulkAll parts + 1
  | .iface _ d => uptoBulk d + 1
  | .map entries => uptoBulkEntries entries + 1
  | .held _ => 1
def uptoBulkAll {H : Type} : List (DataW H) → Nat
  | [] => 0
  | d :: r => uptoBulk d + uptoBulkAll r
def uptoBulkEntries {H : Type} : List (Lit × DataW H) → Nat
  | [] => 0
  | x :: r => uptoBulkEntry x + uptoBulkEntries r
def uptoBulkEntry {H : Type} : Lit × DataW H → Nat
  | (.string bytes, d) => bytes.length + uptoBulk d + 1
  | (_, d) => uptoBulk d + 1
 end
def uptoSmall : (H : Type) → List (DataW H) → Bool := fun _ ds => decide (uptoBulkAll ds ≤ 1048576)
def OpenSpec.upto (s : _root_.Go.ChangeSpec) : _root_.Go.OpenSpec := { _root_.Go.OpenSpec.ofChange s with cond := some uptoSmall }

/-- 'armillarylaw12.NoteUnpacks', WHERE WHAT IT READS IS OF BULK AT MOST 1048576: true; the input reads as it did. -/
def noteUnpacksUptoRow : OpenClaim := { program := "ytjkffjngamagkaadoor", sum := "ca52f87725e1db302d1f2e9c8e503c6e61e7cee2cb096b64aa07b2359bc9dbca", func := "armillary/armillarylaw12.NoteUnpacks", spec := "noteUnpacks", inPlace := ["internal/bytealg.MakeNoZero"], unfollowed := true, recurses := true, named := ["armillary/note.sorts", "armillary/seal.nibble"], apart := false, laid := [("armillary/seal.nibble", laid_armillary_seal_nibble), ("armillary/note.sorts", laid_armillary_note_sorts)], narrowed := true }
def NoteUnpacksUptoSaid : Prop := noteUnpacksUptoRow.holds Tryd.pinned (OpenSpec.upto noteUnpacksSpec)

/-- 'armillarylaw12.NoteBodies', WHERE WHAT IT READS IS OF BULK AT MOST 1048576: true; the input reads as it did. -/
def noteBodiesUptoRow : OpenClaim := { program := "ytjkffjngamagkaadoor", sum := "ca52f87725e1db302d1f2e9c8e503c6e61e7cee2cb096b64aa07b2359bc9dbca", func := "armillary/armillarylaw12.NoteBodies", spec := "noteBodies", inPlace := ["internal/bytealg.MakeNoZero"], unfollowed := true, recurses := true, named := ["armillary/note.sorts", "armillary/seal.nibble"], apart := false, laid := [("armillary/seal.nibble", laid_armillary_seal_nibble), ("armillary/note.sorts", laid_armillary_note_sorts)], narrowed := true }
def NoteBodiesUptoSaid : Prop := noteBodiesUptoRow.holds Tryd.pinned (OpenSpec.upto noteBodiesSpec)

/-- 'armillarylaw12.NoteTurned', WHERE WHAT IT READS IS OF BULK AT MOST 1048576: true; the input reads as it did. -/
def noteTurnedUptoRow : OpenClaim := { program := "ytjkffjngamagkaadoor", sum := "ca52f87725e1db302d1f2e9c8e503c6e61e7cee2cb096b64aa07b2359bc9dbca", func := "armillary/armillarylaw12.NoteTurned", spec := "noteTurned", inPlace := ["internal/bytealg.MakeNoZero"], unfollowed := true, recurses := true, named := ["armillary/note.sorts", "armillary/seal.nibble"], apart := false, laid := [("armillary/seal.nibble", laid_armillary_seal_nibble), ("armillary/note.sorts", laid_armillary_note_sorts)], narrowed := true }
def NoteTurnedUptoSaid : Prop := noteTurnedUptoRow.holds Tryd.pinned (OpenSpec.upto noteTurnedSpec)

/-- 'armillarylaw12.NoteCuts', WHERE WHAT IT READS IS OF BULK AT MOST 1048576: true; the input reads as it did. -/
def noteCutsUptoRow : OpenClaim := { program := "ytjkffjngamagkaadoor", sum := "ca52f87725e1db302d1f2e9c8e503c6e61e7cee2cb096b64aa07b2359bc9dbca", func := "armillary/armillarylaw12.NoteCuts", spec := "noteCuts", inPlace := ["internal/bytealg.MakeNoZero"], unfollowed := true, recurses := true, named := ["armillary/note.sorts", "armillary/seal.nibble"], apart := false, laid := [("armillary/seal.nibble", laid_armillary_seal_nibble), ("armillary/note.sorts", laid_armillary_note_sorts)], narrowed := true }
def NoteCutsUptoSaid : Prop := noteCutsUptoRow.holds Tryd.pinned (OpenSpec.upto noteCutsSpec)

/-- 'armillarylaw12.NotePacks', WHERE WHAT IT READS IS OF BULK AT MOST 1048576: true; the input reads as it did. -/
def notePacksUptoRow : OpenClaim := { program := "ytjkffjngamagkaadoor", sum := "ca52f87725e1db302d1f2e9c8e503c6e61e7cee2cb096b64aa07b2359bc9dbca", func := "armillary/armillarylaw12.NotePacks", spec := "notePacks", inPlace := ["internal/bytealg.MakeNoZero"], unfollowed := true, recurses := true, named := ["armillary/note.sorts", "armillary/seal.nibble"], apart := false, laid := [("armillary/seal.nibble", laid_armillary_seal_nibble), ("armillary/note.sorts", laid_armillary_note_sorts)], narrowed := true }
def NotePacksUptoSaid : Prop := notePacksUptoRow.holds Tryd.pinned (OpenSpec.upto notePacksSpec)

/-- 'armillarylaw19.CallerMost', WHERE WHAT IT READS IS OF BULK AT MOST 1048576: true; the input reads as it did. -/
def callerMostUptoRow : OpenClaim := { program := "ytjkffjngamagkaadoor", sum := "ca52f87725e1db302d1f2e9c8e503c6e61e7cee2cb096b64aa07b2359bc9dbca", func := "armillary/armillarylaw19.CallerMost", spec := "callerMost", inPlace := ["internal/bytealg.MakeNoZero"], unfollowed := true, recurses := true, named := ["armillary/note.sorts", "armillary/seal.nibble"], apart := false, laid := [("armillary/seal.nibble", laid_armillary_seal_nibble), ("armillary/note.sorts", laid_armillary_note_sorts)], narrowed := true }
def CallerMostUptoSaid : Prop := callerMostUptoRow.holds Tryd.pinned (OpenSpec.upto callerMostSpec)

/-- 'armillarylaw19.CallerPlays', WHERE WHAT IT READS IS OF BULK AT MOST 1048576: true; the input reads as it did. -/
def callerPlaysUptoRow : OpenClaim := { program := "ytjkffjngamagkaadoor", sum := "ca52f87725e1db302d1f2e9c8e503c6e61e7cee2cb096b64aa07b2359bc9dbca", func := "armillary/armillarylaw19.CallerPlays", spec := "callerPlays", inPlace := ["internal/bytealg.MakeNoZero"], unfollowed := true, recurses := true, named := ["armillary/note.sorts", "armillary/seal.nibble"], apart := false, laid := [("armillary/seal.nibble", laid_armillary_seal_nibble), ("armillary/note.sorts", laid_armillary_note_sorts)], narrowed := true }
def CallerPlaysUptoSaid : Prop := callerPlaysUptoRow.holds Tryd.pinned (OpenSpec.upto callerPlaysSpec)

/-- 'armillarylaw19.CallerStays', WHERE WHAT IT READS IS OF BULK AT MOST 1048576: true; the input reads as it did. -/
def callerStaysUptoRow : OpenClaim := { program := "ytjkffjngamagkaadoor", sum := "ca52f87725e1db302d1f2e9c8e503c6e61e7cee2cb096b64aa07b2359bc9dbca", func := "armillary/armillarylaw19.CallerStays", spec := "callerStays", inPlace := ["internal/bytealg.MakeNoZero"], unfollowed := true, recurses := true, named := ["armillary/note.sorts", "armillary/seal.nibble"], apart := false, laid := [("armillary/seal.nibble", laid_armillary_seal_nibble), ("armillary/note.sorts", laid_armillary_note_sorts)], narrowed := true }
def CallerStaysUptoSaid : Prop := callerStaysUptoRow.holds Tryd.pinned (OpenSpec.upto callerStaysSpec)

/-- 'armillarylaw19.CallerDeaf', WHERE WHAT IT READS IS OF BULK AT MOST 1048576: true; the input reads as it did. -/
def callerDeafUptoRow : OpenClaim := { program := "ytjkffjngamagkaadoor", sum := "ca52f87725e1db302d1f2e9c8e503c6e61e7cee2cb096b64aa07b2359bc9dbca", func := "armillary/armillarylaw19.CallerDeaf", spec := "callerDeaf", inPlace := ["internal/bytealg.MakeNoZero"], unfollowed := true, recurses := true, named := ["armillary/note.sorts", "armillary/seal.nibble"], apart := false, laid := [("armillary/seal.nibble", laid_armillary_seal_nibble), ("armillary/note.sorts", laid_armillary_note_sorts)], narrowed := true }
def CallerDeafUptoSaid : Prop := callerDeafUptoRow.holds Tryd.pinned (OpenSpec.upto callerDeafSpec)

end Rows
end Go.Proofs.YtjkffjngamagkaaDoor
