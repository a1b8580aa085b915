/-
  NARROWER THAN 'FOR EVERY INPUT', by the rows' own cells (each row's printed sentence says how): SealSums: laid · SealParts: laid · SealReads: laid · SealBursts: laid · SealLong: laid · SealAll: laid · SealCuts: laid.
  DERIVED. THE GIVEN ROWS OF THIS SEAT. 7 by the template 'for every input the law returns true; each argument reads behind the call as it read before'; 0 by the template 'total and deterministic' (their statements: YtiaiagkfkckkpaaDoorTotals.lean).
  GIVEN WITH THE SEED: the statements are not yours to turn. If you find one false, say at which input.
  Laid BY PROGRAM, IN A SANDBOX (cutbox-rows.mjs): the forced cells as the released guide's own fill.sh prints them over the translation 2a132b6f8acee9a7… (all of the seat's roots in one cut). By AI agents, Wed Nov 11 2026. No macro, syntax, notation, axiom, sorry.
-/
import Derived.Test.YtiaiagkfkckkpaaDoorChecked
import GoSem.Claim
import GoSem.ClaimJoined
import GoSem.ClaimMapViews
import Derived.JoinedTies
import Derived.KernelRfl
namespace Go.Proofs.YtiaiagkfkckkpaaDoor
/- THE CELL 'sum', in the pinned program and in every row, IS THE sha256 OF THE DUMP (.gsa) THAT YtiaiagkfkckkpaaDoorProg.lean LOADS. Nothing in Lean hashes anything: it is a label: what it is worth is what the hold of that sum in a sandbox is worth. -/
noncomputable def Tryd.pinned : Pinned := { name := "ytiaiagkfkckkpaadoor", sum := "2a132b6f8acee9a77997e0fd9a019f2659ae284ba08557f779338d95c00a49bd", checked := Tryd.checked }
namespace Rows
def none {H : Type} : Left H := { results := [], args := [] }

/- WHAT THE LISTED PACKAGE-LEVEL VARIABLES READ AS WHEN THE CALL BEGINS. Each datum BY PROGRAM (the guide's laid-datum.mjs) off the statement by which the dump's own 'gosem.cut.vars' lays the variable. In a bare row this is a premise. The card (YtiaiagkfkckkpaaDoorCards.lean) ties it to the program's text. -/
def laid_armillary_seal_nibble {H : Type} : DataW H := .agg [.lit (.int .u32 0), .lit (.int .u32 498536548), .lit (.int .u32 997073096), .lit (.int .u32 651767980), .lit (.int .u32 1994146192), .lit (.int .u32 1802195444), .lit (.int .u32 1303535960), .lit (.int .u32 1342533948), .lit (.int .u32 3988292384), .lit (.int .u32 4027552580), .lit (.int .u32 3604390888), .lit (.int .u32 3412177804), .lit (.int .u32 2607071920), .lit (.int .u32 2262029012), .lit (.int .u32 2685067896), .lit (.int .u32 3183342108)]

/-- 'armillarylaw01.SealSums': WHATEVER THE INPUT: true; the input reads as it did. -/
def sealSumsSpec : ChangeSpec := { name := "sealSums", fn := fun _ => fun
  | [d] => { results := [.lit (.bool true)], args := [d] }
  | _ => none }
def sealSumsRow : OpenClaim := { program := "ytiaiagkfkckkpaadoor", sum := "2a132b6f8acee9a77997e0fd9a019f2659ae284ba08557f779338d95c00a49bd", func := "armillary/armillarylaw01.SealSums", spec := "sealSums", inPlace := ["internal/bytealg.MakeNoZero"], named := ["armillary/seal.nibble"], apart := false, laid := [("armillary/seal.nibble", laid_armillary_seal_nibble)] }
def SealSumsSaid : Prop := sealSumsRow.holds Tryd.pinned (OpenSpec.ofChange sealSumsSpec)

/-- ITS FALSE NEIGHBOUR: 'it returns false'. Refute it at one input. -/
def sealSumsWrong : ChangeSpec := { name := "sealSums", fn := fun _ => fun
  | [d] => { results := [.lit (.bool false)], args := [d] }
  | _ => none }
def SealSumsWrongFalsely : Prop := sealSumsRow.holds Tryd.pinned (OpenSpec.ofChange sealSumsWrong)

/-- 'armillarylaw01.SealParts': WHATEVER THE INPUT: true; the input reads as it did. -/
def sealPartsSpec : ChangeSpec := { name := "sealParts", fn := fun _ => fun
  | [d1, d2] => { results := [.lit (.bool true)], args := [d1, d2] }
  | _ => none }
def sealPartsRow : OpenClaim := { program := "ytiaiagkfkckkpaadoor", sum := "2a132b6f8acee9a77997e0fd9a019f2659ae284ba08557f779338d95c00a49bd", func := "armillary/armillarylaw01.SealParts", spec := "sealParts", inPlace := ["internal/bytealg.MakeNoZero"], named := ["armillary/seal.nibble"], apart := false, laid := [("armillary/seal.nibble", laid_armillary_seal_nibble)] }
def SealPartsSaid : Prop := sealPartsRow.holds Tryd.pinned (OpenSpec.ofChange sealPartsSpec)

/-- ITS FALSE NEIGHBOUR: 'it returns false'. Refute it at one input. -/
def sealPartsWrong : ChangeSpec := { name := "sealParts", fn := fun _ => fun
  | [d1, d2] => { results := [.lit (.bool false)], args := [d1, d2] }
  | _ => none }
def SealPartsWrongFalsely : Prop := sealPartsRow.holds Tryd.pinned (OpenSpec.ofChange sealPartsWrong)

/-- 'armillarylaw01.SealReads': WHATEVER THE INPUT: true; the input reads as it did. -/
def sealReadsSpec : ChangeSpec := { name := "sealReads", fn := fun _ => fun
  | [d] => { results := [.lit (.bool true)], args := [d] }
  | _ => none }
def sealReadsRow : OpenClaim := { program := "ytiaiagkfkckkpaadoor", sum := "2a132b6f8acee9a77997e0fd9a019f2659ae284ba08557f779338d95c00a49bd", func := "armillary/armillarylaw01.SealReads", spec := "sealReads", inPlace := ["internal/bytealg.MakeNoZero"], named := ["armillary/seal.nibble"], apart := false, laid := [("armillary/seal.nibble", laid_armillary_seal_nibble)] }
def SealReadsSaid : Prop := sealReadsRow.holds Tryd.pinned (OpenSpec.ofChange sealReadsSpec)

/-- ITS FALSE NEIGHBOUR: 'it returns false'. Refute it at one input. -/
def sealReadsWrong : ChangeSpec := { name := "sealReads", fn := fun _ => fun
  | [d] => { results := [.lit (.bool false)], args := [d] }
  | _ => none }
def SealReadsWrongFalsely : Prop := sealReadsRow.holds Tryd.pinned (OpenSpec.ofChange sealReadsWrong)

/-- 'armillarylaw01.SealBursts': WHATEVER THE INPUT: true; the input reads as it did. -/
def sealBurstsSpec : ChangeSpec := { name := "sealBursts", fn := fun _ => fun
  | [d1, d2, d3] => { results := [.lit (.bool true)], args := [d1, d2, d3] }
  | _ => none }
def sealBurstsRow : OpenClaim := { program := "ytiaiagkfkckkpaadoor", sum := "2a132b6f8acee9a77997e0fd9a019f2659ae284ba08557f779338d95c00a49bd", func := "armillary/armillarylaw01.SealBursts", spec := "sealBursts", inPlace := ["internal/bytealg.MakeNoZero"], named := ["armillary/seal.nibble"], apart := false, laid := [("armillary/seal.nibble", laid_armillary_seal_nibble)] }
def SealBurstsSaid : Prop := sealBurstsRow.holds Tryd.pinned (OpenSpec.ofChange sealBurstsSpec)

/-- ITS FALSE NEIGHBOUR: 'it returns false'. Refute it at one input. -/
def sealBurstsWrong : ChangeSpec := { name := "sealBursts", fn := fun _ => fun
  | [d1, d2, d3] => { results := [.lit (.bool false)], args := [d1, d2, d3] }
  | _ => none }
def SealBurstsWrongFalsely : Prop := sealBurstsRow.holds Tryd.pinned (OpenSpec.ofChange sealBurstsWrong)

/-- 'armillarylaw01.SealLong': WHATEVER THE INPUT: true; the input reads as it did. -/
def sealLongSpec : ChangeSpec := { name := "sealLong", fn := fun _ => fun
  | [d] => { results := [.lit (.bool true)], args := [d] }
  | _ => none }
def sealLongRow : OpenClaim := { program := "ytiaiagkfkckkpaadoor", sum := "2a132b6f8acee9a77997e0fd9a019f2659ae284ba08557f779338d95c00a49bd", func := "armillary/armillarylaw01.SealLong", spec := "sealLong", inPlace := ["internal/bytealg.MakeNoZero"], named := ["armillary/seal.nibble"], apart := false, laid := [("armillary/seal.nibble", laid_armillary_seal_nibble)] }
def SealLongSaid : Prop := sealLongRow.holds Tryd.pinned (OpenSpec.ofChange sealLongSpec)

/-- ITS FALSE NEIGHBOUR: 'it returns false'. Refute it at one input. -/
def sealLongWrong : ChangeSpec := { name := "sealLong", fn := fun _ => fun
  | [d] => { results := [.lit (.bool false)], args := [d] }
  | _ => none }
def SealLongWrongFalsely : Prop := sealLongRow.holds Tryd.pinned (OpenSpec.ofChange sealLongWrong)

/-- 'armillarylaw01.SealAll': WHATEVER THE INPUT: true; the input reads as it did. -/
def sealAllSpec : ChangeSpec := { name := "sealAll", fn := fun _ => fun
  | [d1, d2] => { results := [.lit (.bool true)], args := [d1, d2] }
  | _ => none }
def sealAllRow : OpenClaim := { program := "ytiaiagkfkckkpaadoor", sum := "2a132b6f8acee9a77997e0fd9a019f2659ae284ba08557f779338d95c00a49bd", func := "armillary/armillarylaw01.SealAll", spec := "sealAll", inPlace := ["internal/bytealg.MakeNoZero"], named := ["armillary/seal.nibble"], apart := false, laid := [("armillary/seal.nibble", laid_armillary_seal_nibble)] }
def SealAllSaid : Prop := sealAllRow.holds Tryd.pinned (OpenSpec.ofChange sealAllSpec)

/-- ITS FALSE NEIGHBOUR: 'it returns false'. Refute it at one input. -/
def sealAllWrong : ChangeSpec := { name := "sealAll", fn := fun _ => fun
  | [d1, d2] => { results := [.lit (.bool false)], args := [d1, d2] }
  | _ => none }
def SealAllWrongFalsely : Prop := sealAllRow.holds Tryd.pinned (OpenSpec.ofChange sealAllWrong)

/-- 'armillarylaw01.SealCuts': WHATEVER THE INPUT: true; the input reads as it did. -/
def sealCutsSpec : ChangeSpec := { name := "sealCuts", fn := fun _ => fun
  | [d1, d2] => { results := [.lit (.bool true)], args := [d1, d2] }
  | _ => none }
def sealCutsRow : OpenClaim := { program := "ytiaiagkfkckkpaadoor", sum := "2a132b6f8acee9a77997e0fd9a019f2659ae284ba08557f779338d95c00a49bd", func := "armillary/armillarylaw01.SealCuts", spec := "sealCuts", inPlace := ["internal/bytealg.MakeNoZero"], named := ["armillary/seal.nibble"], apart := false, laid := [("armillary/seal.nibble", laid_armillary_seal_nibble)] }
def SealCutsSaid : Prop := sealCutsRow.holds Tryd.pinned (OpenSpec.ofChange sealCutsSpec)

/-- ITS FALSE NEIGHBOUR: 'it returns false'. Refute it at one input. -/
def sealCutsWrong : ChangeSpec := { name := "sealCuts", fn := fun _ => fun
  | [d1, d2] => { results := [.lit (.bool false)], args := [d1, d2] }
  | _ => none }
def SealCutsWrongFalsely : Prop := sealCutsRow.holds Tryd.pinned (OpenSpec.ofChange sealCutsWrong)

/- THE SECOND FORM. 'bulk': how many values and letters a reading holds, each counted each time it is reached (what is shared counts as often as it is met; a slice's spare places count too). A statement '..UptoSaid' is the law's where the arguments, and the package variables that the reading takes, are together of bulk at most 1048576: NARROWER than '..Said'. Prove '..Said' where nothing that the law and all that it calls make is longer than what came in: it says more and counts as full. Else prove '..UptoSaid'. A law counts once. -/
mutual
def uptoBulk {H : Type} : DataW H → Nat
  | .lit (.string bytes) => bytes.length + 1
  | .lit _ => 1
  | .nil => 1
  | .ptr d => uptoBulk d + 1
  | .slice elems spare => uptoBulkAll elems + uptoBulkAll spare + 1
  | .agg parts => uptoBulkAll parts + 1
  | .iface _ d => uptoBulk d + 1
  | .map entries => uptoBulkEntries entries + 1
  | .held _ => 1
def uptoBulkAll {H : Type} : List (DataW H) → Nat
  | [] => 0
  | d :: r => uptoBulk d + uptoBulkAll r
def uptoBulkEntries {H : Type} : List (Lit × DataW H) → Nat
  | [] => 0
  | x :: r => uptoBulkEntry x + uptoBulkEntries r
def uptoBulkEntry {H : Type} : Lit × DataW H → Nat
  | (.string bytes, d) => bytes.length + uptoBulk d + 1
  | (_, d) => uptoBulk d + 1
 end
def uptoSmall : (H : Type) → List (DataW H) → Bool := fun _ ds => decide (uptoBulkAll ds ≤ 1048576)
def OpenSpec.upto (s : _root_.Go.ChangeSpec) : _root_.Go.OpenSpec := { _root_.Go.OpenSpec.ofChange s with cond := some uptoSmall }

/-- 'armillarylaw01.SealSums', WHERE WHAT IT READS IS OF BULK AT MOST 1048576: true; the input reads as it did. -/
def sealSumsUptoRow : OpenClaim := { program := "ytiaiagkfkckkpaadoor", sum := "2a132b6f8acee9a77997e0fd9a019f2659ae284ba08557f779338d95c00a49bd", func := "armillary/armillarylaw01.SealSums", spec := "sealSums", inPlace := ["internal/bytealg.MakeNoZero"], named := ["armillary/seal.nibble"], apart := false, laid := [("armillary/seal.nibble", laid_armillary_seal_nibble)], narrowed := true }
def SealSumsUptoSaid : Prop := sealSumsUptoRow.holds Tryd.pinned (OpenSpec.upto sealSumsSpec)

/-- 'armillarylaw01.SealParts', WHERE WHAT IT READS IS OF BULK AT MOST 1048576: true; the input reads as it did. -/
def sealPartsUptoRow : OpenClaim := { program := "ytiaiagkfkckkpaadoor", sum := "2a132b6f8acee9a77997e0fd9a019f2659ae284ba08557f779338d95c00a49bd", func := "armillary/armillarylaw01.SealParts", spec := "sealParts", inPlace := ["internal/bytealg.MakeNoZero"], named := ["armillary/seal.nibble"], apart := false, laid := [("armillary/seal.nibble", laid_armillary_seal_nibble)], narrowed := true }
def SealPartsUptoSaid : Prop := sealPartsUptoRow.holds Tryd.pinned (OpenSpec.upto sealPartsSpec)

/-- 'armillarylaw01.SealReads', WHERE WHAT IT READS IS OF BULK AT MOST 1048576: true; the input reads as it did. -/
def sealReadsUptoRow : OpenClaim := { program := "ytiaiagkfkckkpaadoor", sum := "2a132b6f8acee9a77997e0fd9a019f2659ae284ba08557f779338d95c00a49bd", func := "armillary/armillarylaw01.SealReads", spec := "sealReads", inPlace := ["internal/bytealg.MakeNoZero"], named := ["armillary/seal.nibble"], apart := false, laid := [("armillary/seal.nibble", laid_armillary_seal_nibble)], narrowed := true }
def SealReadsUptoSaid : Prop := sealReadsUptoRow.holds Tryd.pinned (OpenSpec.upto sealReadsSpec)

/-- 'armillarylaw01.SealBursts', WHERE WHAT IT READS IS OF BULK AT MOST 1048576: true; the input reads as it did. -/
def sealBurstsUptoRow : OpenClaim := { program := "ytiaiagkfkckkpaadoor", sum := "2a132b6f8acee9a77997e0fd9a019f2659ae284ba08557f779338d95c00a49bd", func := "armillary/armillarylaw01.SealBursts", spec := "sealBursts", inPlace := ["internal/bytealg.MakeNoZero"], named := ["armillary/seal.nibble"], apart := false, laid := [("armillary/seal.nibble", laid_armillary_seal_nibble)], narrowed := true }
def SealBurstsUptoSaid : Prop := sealBurstsUptoRow.holds Tryd.pinned (OpenSpec.upto sealBurstsSpec)

/-- 'armillarylaw01.SealLong', WHERE WHAT IT READS IS OF BULK AT MOST 1048576: true; the input reads as it did. -/
def sealLongUptoRow : OpenClaim := { program := "ytiaiagkfkckkpaadoor", sum := "2a132b6f8acee9a77997e0fd9a019f2659ae284ba08557f779338d95c00a49bd", func := "armillary/armillarylaw01.SealLong", spec := "sealLong", inPlace := ["internal/bytealg.MakeNoZero"], named := ["armillary/seal.nibble"], apart := false, laid := [("armillary/seal.nibble", laid_armillary_seal_nibble)], narrowed := true }
def SealLongUptoSaid : Prop := sealLongUptoRow.holds Tryd.pinned (OpenSpec.upto sealLongSpec)

/-- 'armillarylaw01.SealAll', WHERE WHAT IT READS IS OF BULK AT MOST 1048576: true; the input reads as it did. -/
def sealAllUptoRow : OpenClaim := { program := "ytiaiagkfkckkpaadoor", sum := "2a132b6f8acee9a77997e0fd9a019f2659ae284ba08557f779338d95c00a49bd", func := "armillary/armillarylaw01.SealAll", spec := "sealAll", inPlace := ["internal/bytealg.MakeNoZero"], named := ["armillary/seal.nibble"], apart := false, laid := [("armillary/seal.nibble", laid_armillary_seal_nibble)], narrowed := true }
def SealAllUptoSaid : Prop := sealAllUptoRow.holds Tryd.pinned (OpenSpec.upto sealAllSpec)

/-- 'armillarylaw01.SealCuts', WHERE WHAT IT READS IS OF BULK AT MOST 1048576: true; the input reads as it did. -/
def sealCutsUptoRow : OpenClaim := { program := "ytiaiagkfkckkpaadoor", sum := "2a132b6f8acee9a77997e0fd9a019f2659ae284ba08557f779338d95c00a49bd", func := "armillary/armillarylaw01.SealCuts", spec := "sealCuts", inPlace := ["internal/bytealg.MakeNoZero"], named := ["armillary/seal.nibble"], apart := false, laid := [("armillary/seal.nibble", laid_armillary_seal_nibble)], narrowed := true }
def SealCutsUptoSaid : Prop := sealCutsUptoRow.holds Tryd.pinned (OpenSpec.upto sealCutsSpec)

end Rows
end Go.Proofs.YtiaiagkfkckkpaaDoor
