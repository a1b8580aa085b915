/-
  No cell of these rows narrows 'for every input' (looked for: loops, veiled, ifaces, maps, wideKeys, modest, calm, conditions, laid).
  DERIVED. THE GIVEN ROWS OF THIS SEAT. 7 by the template 'for every input the law returns true; each argument reads behind the call as it read before'; 0 by the template 'total and deterministic' (their statements: YtfgagfemhmcdfaaTotals.lean).
  GIVEN WITH THE SEED: the statements are not yours to turn. If you find one false, say at which input.
  Laid BY PROGRAM, IN A SANDBOX (cutbox-rows.mjs): the forced cells as the released guide's own fill.sh prints them over the translation 3aaf59ba37983595… (all of the seat's roots in one cut). By AI agents, Wed Nov 11 2026. No macro, syntax, notation, axiom, sorry.
-/
import Derived.Test.YtfgagfemhmcdfaaChecked
import GoSem.Claim
import GoSem.ClaimJoined
import GoSem.ClaimMapViews
import Derived.JoinedTies
import Derived.KernelRfl
namespace Go.Proofs.Ytfgagfemhmcdfaa
/- THE CELL 'sum', in the pinned program and in every row, IS THE sha256 OF THE DUMP (.gsa) THAT YtfgagfemhmcdfaaProg.lean LOADS. Nothing in Lean hashes anything: it is a label: what it is worth is what the hold of that sum in a sandbox is worth. -/
noncomputable def Try.pinned : Pinned := { name := "ytfgagfemhmcdfaa", sum := "3aaf59ba37983595b457822bbc319fad9d8d97ca78a461ab038999ff40d773bc", checked := Try.checked }
namespace Rows
def none {H : Type} : Left H := { results := [], args := [] }

/-- 'armillarylaw02.ScrollSizes': WHATEVER THE INPUT: true; the input reads as it did. -/
def scrollSizesSpec : ChangeSpec := { name := "scrollSizes", fn := fun _ => fun
  | [d1, d2] => { results := [.lit (.bool true)], args := [d1, d2] }
  | _ => none }
def scrollSizesRow : OpenClaim := { program := "ytfgagfemhmcdfaa", sum := "3aaf59ba37983595b457822bbc319fad9d8d97ca78a461ab038999ff40d773bc", func := "armillary/armillarylaw02.ScrollSizes", spec := "scrollSizes", apart := false }
def ScrollSizesSaid : Prop := scrollSizesRow.holds Try.pinned (OpenSpec.ofChange scrollSizesSpec)

/-- ITS FALSE NEIGHBOUR: 'it returns false'. Refute it at one input. -/
def scrollSizesWrong : ChangeSpec := { name := "scrollSizes", fn := fun _ => fun
  | [d1, d2] => { results := [.lit (.bool false)], args := [d1, d2] }
  | _ => none }
def ScrollSizesWrongFalsely : Prop := scrollSizesRow.holds Try.pinned (OpenSpec.ofChange scrollSizesWrong)

/-- 'armillarylaw02.ScrollMany': WHATEVER THE INPUT: true; the input reads as it did. -/
def scrollManySpec : ChangeSpec := { name := "scrollMany", fn := fun _ => fun
  | [d1, d2, d3] => { results := [.lit (.bool true)], args := [d1, d2, d3] }
  | _ => none }
def scrollManyRow : OpenClaim := { program := "ytfgagfemhmcdfaa", sum := "3aaf59ba37983595b457822bbc319fad9d8d97ca78a461ab038999ff40d773bc", func := "armillary/armillarylaw02.ScrollMany", spec := "scrollMany", apart := false }
def ScrollManySaid : Prop := scrollManyRow.holds Try.pinned (OpenSpec.ofChange scrollManySpec)

/-- ITS FALSE NEIGHBOUR: 'it returns false'. Refute it at one input. -/
def scrollManyWrong : ChangeSpec := { name := "scrollMany", fn := fun _ => fun
  | [d1, d2, d3] => { results := [.lit (.bool false)], args := [d1, d2, d3] }
  | _ => none }
def ScrollManyWrongFalsely : Prop := scrollManyRow.holds Try.pinned (OpenSpec.ofChange scrollManyWrong)

/-- 'armillarylaw02.ScrollReads': WHATEVER THE INPUT: true; the input reads as it did. -/
def scrollReadsSpec : ChangeSpec := { name := "scrollReads", fn := fun _ => fun
  | [d1, d2] => { results := [.lit (.bool true)], args := [d1, d2] }
  | _ => none }
def scrollReadsRow : OpenClaim := { program := "ytfgagfemhmcdfaa", sum := "3aaf59ba37983595b457822bbc319fad9d8d97ca78a461ab038999ff40d773bc", func := "armillary/armillarylaw02.ScrollReads", spec := "scrollReads", apart := false }
def ScrollReadsSaid : Prop := scrollReadsRow.holds Try.pinned (OpenSpec.ofChange scrollReadsSpec)

/-- ITS FALSE NEIGHBOUR: 'it returns false'. Refute it at one input. -/
def scrollReadsWrong : ChangeSpec := { name := "scrollReads", fn := fun _ => fun
  | [d1, d2] => { results := [.lit (.bool false)], args := [d1, d2] }
  | _ => none }
def ScrollReadsWrongFalsely : Prop := scrollReadsRow.holds Try.pinned (OpenSpec.ofChange scrollReadsWrong)

/-- 'armillarylaw02.ScrollOne': WHATEVER THE INPUT: true; the input reads as it did. -/
def scrollOneSpec : ChangeSpec := { name := "scrollOne", fn := fun _ => fun
  | [d1, d2] => { results := [.lit (.bool true)], args := [d1, d2] }
  | _ => none }
def scrollOneRow : OpenClaim := { program := "ytfgagfemhmcdfaa", sum := "3aaf59ba37983595b457822bbc319fad9d8d97ca78a461ab038999ff40d773bc", func := "armillary/armillarylaw02.ScrollOne", spec := "scrollOne", apart := false }
def ScrollOneSaid : Prop := scrollOneRow.holds Try.pinned (OpenSpec.ofChange scrollOneSpec)

/-- ITS FALSE NEIGHBOUR: 'it returns false'. Refute it at one input. -/
def scrollOneWrong : ChangeSpec := { name := "scrollOne", fn := fun _ => fun
  | [d1, d2] => { results := [.lit (.bool false)], args := [d1, d2] }
  | _ => none }
def ScrollOneWrongFalsely : Prop := scrollOneRow.holds Try.pinned (OpenSpec.ofChange scrollOneWrong)

/-- 'armillarylaw02.ScrollWrites': WHATEVER THE INPUT: true; the input reads as it did. -/
def scrollWritesSpec : ChangeSpec := { name := "scrollWrites", fn := fun _ => fun
  | [d] => { results := [.lit (.bool true)], args := [d] }
  | _ => none }
def scrollWritesRow : OpenClaim := { program := "ytfgagfemhmcdfaa", sum := "3aaf59ba37983595b457822bbc319fad9d8d97ca78a461ab038999ff40d773bc", func := "armillary/armillarylaw02.ScrollWrites", spec := "scrollWrites", recurses := true, apart := false }
def ScrollWritesSaid : Prop := scrollWritesRow.holds Try.pinned (OpenSpec.ofChange scrollWritesSpec)

/-- ITS FALSE NEIGHBOUR: 'it returns false'. Refute it at one input. -/
def scrollWritesWrong : ChangeSpec := { name := "scrollWrites", fn := fun _ => fun
  | [d] => { results := [.lit (.bool false)], args := [d] }
  | _ => none }
def ScrollWritesWrongFalsely : Prop := scrollWritesRow.holds Try.pinned (OpenSpec.ofChange scrollWritesWrong)

/-- 'armillarylaw02.ScrollNil': WHATEVER THE INPUT: true; the input reads as it did. -/
def scrollNilSpec : ChangeSpec := { name := "scrollNil", fn := fun _ => fun
  | [d1, d2, d3, d4] => { results := [.lit (.bool true)], args := [d1, d2, d3, d4] }
  | _ => none }
def scrollNilRow : OpenClaim := { program := "ytfgagfemhmcdfaa", sum := "3aaf59ba37983595b457822bbc319fad9d8d97ca78a461ab038999ff40d773bc", func := "armillary/armillarylaw02.ScrollNil", spec := "scrollNil", apart := false }
def ScrollNilSaid : Prop := scrollNilRow.holds Try.pinned (OpenSpec.ofChange scrollNilSpec)

/-- ITS FALSE NEIGHBOUR: 'it returns false'. Refute it at one input. -/
def scrollNilWrong : ChangeSpec := { name := "scrollNil", fn := fun _ => fun
  | [d1, d2, d3, d4] => { results := [.lit (.bool false)], args := [d1, d2, d3, d4] }
  | _ => none }
def ScrollNilWrongFalsely : Prop := scrollNilRow.holds Try.pinned (OpenSpec.ofChange scrollNilWrong)

/-- 'armillarylaw02.ScrollLimits': WHATEVER THE INPUT: true; the input reads as it did. -/
def scrollLimitsSpec : ChangeSpec := { name := "scrollLimits", fn := fun _ => fun
  | [d1, d2, d3, d4] => { results := [.lit (.bool true)], args := [d1, d2, d3, d4] }
  | _ => none }
def scrollLimitsRow : OpenClaim := { program := "ytfgagfemhmcdfaa", sum := "3aaf59ba37983595b457822bbc319fad9d8d97ca78a461ab038999ff40d773bc", func := "armillary/armillarylaw02.ScrollLimits", spec := "scrollLimits", apart := false }
def ScrollLimitsSaid : Prop := scrollLimitsRow.holds Try.pinned (OpenSpec.ofChange scrollLimitsSpec)

/-- ITS FALSE NEIGHBOUR: 'it returns false'. Refute it at one input. -/
def scrollLimitsWrong : ChangeSpec := { name := "scrollLimits", fn := fun _ => fun
  | [d1, d2, d3, d4] => { results := [.lit (.bool false)], args := [d1, d2, d3, d4] }
  | _ => none }
def ScrollLimitsWrongFalsely : Prop := scrollLimitsRow.holds Try.pinned (OpenSpec.ofChange scrollLimitsWrong)

/- THE SECOND FORM. 'bulk': how many values and letters a reading holds, each counted each time it is reached (what is shared counts as often as it is met; a slice's spare places count too). A statement '..UptoSaid' is the law's where the arguments, and the package variables that the reading takes, are together of bulk at most 1048576: NARROWER than '..Said'. Prove '..Said' where nothing that the law and all that it calls make is longer than what came in: it says more and counts as full. Else prove '..UptoSaid'. A law counts once. -/
mutual
def uptoBulk {H : Type} : DataW H → Nat
  | .lit (.string bytes) => bytes.length + 1
  | .lit _ => 1
  | .nil => 1
  | .ptr d => uptoBulk d + 1
  | .slice elems spare => uptoBulkAll elems + uptoBulkAll spare + 1
  | .agg parts => uptoBulkAll parts + 1
  | .iface _ d => uptoBulk d + 1
  | .map entries => uptoBulkEntries entries + 1
  | .held _ => 1
def uptoBulkAll {H : Type} : List (DataW H) → Nat
  | [] => 0
  | d :: r => uptoBulk d + uptoBulkAll r
def uptoBulkEntries {H : Type} : List (Lit × DataW H) → Nat
  | [] => 0
  | x :: r => uptoBulkEntry x + uptoBulkEntries r
def uptoBulkEntry {H : Type} : Lit × DataW H → Nat
  | (.string bytes, d) => bytes.length + uptoBulk d + 1
  | (_, d) => uptoBulk d + 1
 end
def uptoSmall : (H : Type) → List (DataW H) → Bool := fun _ ds => decide (uptoBulkAll ds ≤ 1048576)
def OpenSpec.upto (s : _root_.Go.ChangeSpec) : _root_.Go.OpenSpec := { _root_.Go.OpenSpec.ofChange s with cond := some uptoSmall }

/-- 'armillarylaw02.ScrollSizes', WHERE WHAT IT READS IS OF BULK AT MOST 1048576: true; the input reads as it did. -/
def scrollSizesUptoRow : OpenClaim := { program := "ytfgagfemhmcdfaa", sum := "3aaf59ba37983595b457822bbc319fad9d8d97ca78a461ab038999ff40d773bc", func := "armillary/armillarylaw02.ScrollSizes", spec := "scrollSizes", apart := false, narrowed := true }
def ScrollSizesUptoSaid : Prop := scrollSizesUptoRow.holds Try.pinned (OpenSpec.upto scrollSizesSpec)

/-- 'armillarylaw02.ScrollMany', WHERE WHAT IT READS IS OF BULK AT MOST 1048576: true; the input reads as it did. -/
def scrollManyUptoRow : OpenClaim := { program := "ytfgagfemhmcdfaa", sum := "3aaf59ba37983595b457822bbc319fad9d8d97ca78a461ab038999ff40d773bc", func := "armillary/armillarylaw02.ScrollMany", spec := "scrollMany", apart := false, narrowed := true }
def ScrollManyUptoSaid : Prop := scrollManyUptoRow.holds Try.pinned (OpenSpec.upto scrollManySpec)

/-- 'armillarylaw02.ScrollReads', WHERE WHAT IT READS IS OF BULK AT MOST 1048576: true; the input reads as it did. -/
def scrollReadsUptoRow : OpenClaim := { program := "ytfgagfemhmcdfaa", sum := "3aaf59ba37983595b457822bbc319fad9d8d97ca78a461ab038999ff40d773bc", func := "armillary/armillarylaw02.ScrollReads", spec := "scrollReads", apart := false, narrowed := true }
def ScrollReadsUptoSaid : Prop := scrollReadsUptoRow.holds Try.pinned (OpenSpec.upto scrollReadsSpec)

/-- 'armillarylaw02.ScrollOne', WHERE WHAT IT READS IS OF BULK AT MOST 1048576: true; the input reads as it did. -/
def scrollOneUptoRow : OpenClaim := { program := "ytfgagfemhmcdfaa", sum := "3aaf59ba37983595b457822bbc319fad9d8d97ca78a461ab038999ff40d773bc", func := "armillary/armillarylaw02.ScrollOne", spec := "scrollOne", apart := false, narrowed := true }
def ScrollOneUptoSaid : Prop := scrollOneUptoRow.holds Try.pinned (OpenSpec.upto scrollOneSpec)

/-- 'armillarylaw02.ScrollWrites', WHERE WHAT IT READS IS OF BULK AT MOST 1048576: true; the input reads as it did. -/
def scrollWritesUptoRow : OpenClaim := { program := "ytfgagfemhmcdfaa", sum := "3aaf59ba37983595b457822bbc319fad9d8d97ca78a461ab038999ff40d773bc", func := "armillary/armillarylaw02.ScrollWrites", spec := "scrollWrites", recurses := true, apart := false, narrowed := true }
def ScrollWritesUptoSaid : Prop := scrollWritesUptoRow.holds Try.pinned (OpenSpec.upto scrollWritesSpec)

/-- 'armillarylaw02.ScrollNil', WHERE WHAT IT READS IS OF BULK AT MOST 1048576: true; the input reads as it did. -/
def scrollNilUptoRow : OpenClaim := { program := "ytfgagfemhmcdfaa", sum := "3aaf59ba37983595b457822bbc319fad9d8d97ca78a461ab038999ff40d773bc", func := "armillary/armillarylaw02.ScrollNil", spec := "scrollNil", apart := false, narrowed := true }
def ScrollNilUptoSaid : Prop := scrollNilUptoRow.holds Try.pinned (OpenSpec.upto scrollNilSpec)

/-- 'armillarylaw02.ScrollLimits', WHERE WHAT IT READS IS OF BULK AT MOST 1048576: true; the input reads as it did. -/
def scrollLimitsUptoRow : OpenClaim := { program := "ytfgagfemhmcdfaa", sum := "3aaf59ba37983595b457822bbc319fad9d8d97ca78a461ab038999ff40d773bc", func := "armillary/armillarylaw02.ScrollLimits", spec := "scrollLimits", apart := false, narrowed := true }
def ScrollLimitsUptoSaid : Prop := scrollLimitsUptoRow.holds Try.pinned (OpenSpec.upto scrollLimitsSpec)

end Rows
end Go.Proofs.Ytfgagfemhmcdfaa
