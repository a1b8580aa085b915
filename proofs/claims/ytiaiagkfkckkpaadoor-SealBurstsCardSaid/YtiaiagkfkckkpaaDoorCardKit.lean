/- What all cards of the seat share: the table as a row lists it, and a world for the witness. -/
import Derived.Test.YtiaiagkfkckkpaaDoorOpen
import Derived.Test.YtiaiagkfkckkpaaDoorSeal
import Derived.Test.YtiaiagkfkckkpaaDoorCards
import Derived.Test.YtiaiagkfkckkpaaDoorTie
import Derived.OpenShut
import Derived.Deep.DeepHandedRow
import Derived.Lib.LaidTab
namespace Go.Proofs.YtiaiagkfkckkpaaDoor
open Go Go.RowKit Go.Arm Go.ChangeShapes Go.WideShapes Go.ChangeAt

theorem own : ownKnob Tryd.prog.godebug = none := by kernel_rfl
theorem laidOut : laidOutB Tryd.prog = true := by kernel_rfl
theorem gNib : Tryd.prog.globalNamed "armillary/seal.nibble" = some 0 := by kernel_rfl
theorem gNibType : (Tryd.prog.globals[0]?).map (·.type) = some 57 := by kernel_rfl
theorem cellsTab : Tryd.prog.cellsOf 57 = 16 := by kernel_rfl
theorem cellsU8 : Tryd.prog.cellsOf 5 = 1 := by kernel_rfl
theorem cellsB : Tryd.prog.cellsOf 24 = 1 := by kernel_rfl
theorem cellsU32 : Tryd.prog.cellsOf 32 = 1 := by kernel_rfl

def nibs : List Int := (List.range 16).map fun i => ((nib i).toNat : Int)

/-- What the row's list gives: the table's cells hold its sixteen numbers. -/
theorem nib_laid {W : World} (h : laidMetH Tryd.prog [("armillary/seal.nibble", Rows.laid_armillary_seal_nibble)] W) : Nib W := by
  have e : (Rows.laid_armillary_seal_nibble : DataW Unit) = Lib.tabData .u32 nibs := by kernel_rfl
  rw [e] at h
  have t : Lib.TabIs Tryd.prog W "armillary/seal.nibble" .u32 nibs := Lib.tabIs_of_head (rest := []) gNib gNibType Tryd.underlying57 Tryd.underlying32 cellsU32 cellsTab h
  intro i hi
  have := t.cell gNib i (by simpa [nibs] using hi)
  rw [this]
  simp [nibs, hi]

/-- A world for the witness: the settled one, the table holding what its initialiser lays. -/
noncomputable def laidWorld (os : Os) : World :=
  { World.holding Tryd.prog os ⟨#[], #[], []⟩ with heap := (World.holding Tryd.prog os ⟨#[], #[], []⟩).heap.modify 0 fun
      | .cells _ t frozen => .cells #[.int .u32 0, .int .u32 498536548, .int .u32 997073096, .int .u32 651767980, .int .u32 1994146192, .int .u32 1802195444, .int .u32 1303535960, .int .u32 1342533948, .int .u32 3988292384, .int .u32 4027552580, .int .u32 3604390888, .int .u32 3412177804, .int .u32 2607071920, .int .u32 2262029012, .int .u32 2685067896, .int .u32 3183342108] t frozen
      | o => o }
end Go.Proofs.YtiaiagkfkckkpaaDoor
