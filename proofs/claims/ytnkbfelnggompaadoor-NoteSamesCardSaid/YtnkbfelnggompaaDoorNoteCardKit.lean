/- What all cards of the seat share: the two tables as a row lists them, and a world for the witness. -/
import Derived.Test.YtnkbfelnggompaaDoorOpen
import Derived.Test.YtnkbfelnggompaaDoorNoteTab
import Derived.Test.YtnkbfelnggompaaDoorSeal
import Derived.Test.YtnkbfelnggompaaDoorCards
import Derived.Test.YtnkbfelnggompaaDoorTie
import Derived.OpenShut
import Derived.Deep.DeepHandedRow
import Derived.Lib.LaidTab
import Derived.Stop.LaidErr
namespace Go.Proofs.YtnkbfelnggompaaDoor
open Go Go.RowKit Go.Arm Go.ChangeShapes Go.WideShapes Go.ChangeAt

theorem own : ownKnob Tryd.prog.godebug = none := by kernel_rfl
theorem laidOut : laidOutB Tryd.prog = true := by kernel_rfl
theorem gNib : Tryd.prog.globalNamed "armillary/seal.nibble" = some 1 := by kernel_rfl
theorem gNibType : (Tryd.prog.globals[1]?).map (·.type) = some 143 := by kernel_rfl
theorem gSort : Tryd.prog.globalNamed "armillary/note.sorts" = some 0 := by kernel_rfl
theorem gSortType : (Tryd.prog.globals[0]?).map (·.type) = some 99 := by kernel_rfl
theorem cellsTab : Tryd.prog.cellsOf 143 = 16 := by kernel_rfl
theorem cellsU8 : Tryd.prog.cellsOf 5 = 1 := by kernel_rfl
theorem cellsB : Tryd.prog.cellsOf 45 = 1 := by kernel_rfl
theorem cellsU32 : Tryd.prog.cellsOf 59 = 1 := by kernel_rfl
theorem cellsStr : Tryd.prog.cellsOf 9 = 1 := by kernel_rfl
theorem cellsInt : Tryd.prog.cellsOf 3 = 1 := by kernel_rfl
theorem cellsSort : Tryd.prog.cellsOf 66 = 2 := by kernel_rfl
theorem cellsSorts : Tryd.prog.cellsOf 99 = 46 := by kernel_rfl

def nibs : List Int := (List.range 16).map fun i => ((nib i).toNat : Int)

/-- What the row's list gives: the table's cells hold its sixteen numbers. -/
theorem nib_laid {W : World} (h : laidMetH Tryd.prog [("armillary/seal.nibble", Rows.laid_armillary_seal_nibble), ("armillary/note.sorts", Rows.laid_armillary_note_sorts)] W) : Nib W := by
  have e : (Rows.laid_armillary_seal_nibble : DataW Unit) = Lib.tabData .u32 nibs := by kernel_rfl
  rw [e] at h
  have t : Lib.TabIs Tryd.prog W "armillary/seal.nibble" .u32 nibs := Lib.tabIs_of_head (rest := [("armillary/note.sorts", Rows.laid_armillary_note_sorts)]) gNib gNibType Tryd.underlying143 Tryd.underlying59 cellsU32 cellsTab h
  intro i hi
  have := t.cell gNib i (by simpa [nibs] using hi)
  rw [this]
  simp [nibs, hi]

def sortData {H : Type} : DataW H := .agg ((List.range 23).map fun k => .agg [.lit (.string (sortName k)), .lit (.int .i64 (sortMask k : Int))])
theorem trod_array {H : Type} {enc : TypeId × Value → H} {P : Program} {w : World} {base : Nat} {sp : Nat → Bool} {held : Bool} {fuel : Nat} {t e : TypeId} {n : Nat} {cs : List Value} {x : DataW H × List MemPlace}
    (ht : P.underlying t = some (.array n e)) (h : DataW.trod enc P w base sp held fuel t cs = some x) :
    ∃ (xs : List (DataW H × List MemPlace)) (m : Nat), x.1 = .agg (xs.map (·.1)) ∧ xs.length = n ∧ ∀ i, i < n → ∃ y, xs[i]? = some y ∧ DataW.trod enc P w base sp held m e ((cs.drop (i * P.cellsOf e)).take (P.cellsOf e)) = some y := by
  cases fuel with
  | zero => simp [DataW.trod] at h
  | succ fuel =>
    simp only [DataW.trod, ht] at h
    split at h
    · obtain ⟨xs, hm, hx⟩ := Option.map_eq_some_iff.1 h
      refine ⟨xs, fuel, by rw [← hx], by simpa using Lib.mapM_length hm, fun i hi => ?_⟩
      obtain ⟨b, hb, hf⟩ := Lib.mapM_at hm i i (by simp [hi])
      exact ⟨b, hb, hf⟩
    · cases h

/-- What the row's list gives: the kinds' table. -/
theorem srt_laid {W : World} (h : laidMetH Tryd.prog [("armillary/seal.nibble", Rows.laid_armillary_seal_nibble), ("armillary/note.sorts", Rows.laid_armillary_note_sorts)] W) : Srt W := by
  have h2 : laidMet Tryd.prog [("armillary/note.sorts", Rows.laid_armillary_note_sorts)] W := laidMet.tail (x := ("armillary/seal.nibble", Rows.laid_armillary_seal_nibble)) h
  have e : (Rows.laid_armillary_note_sorts : DataW Unit) = sortData := by kernel_rfl
  rw [e] at h2
  obtain ⟨ps, ⟨g', t', cs, fuel, p, q, hg', ht', hvar, hd, _, _⟩, _⟩ := h2
  obtain rfl := Option.some.inj (gSort.symm.trans hg')
  obtain rfl := Option.some.inj (gSortType.symm.trans ht')
  obtain ⟨xs, m, hx, hl, hf⟩ := trod_array Tryd.underlying99 hd
  intro k hk
  obtain ⟨y, hy, hty⟩ := hf k hk
  rw [cellsSort] at hty
  have hy1 : y.1 = .agg [.lit (.string (sortName k)), .lit (.int .i64 (sortMask k : Int))] := by
    have h1 : (xs.map (·.1))[k]? = some y.1 := by simp [hy]
    have h2 : xs.map (·.1) = (List.range 23).map fun k => (.agg [.lit (.string (sortName k)), .lit (.int .i64 (sortMask k : Int))] : DataW Unit) := by
      have := hx
      simp only [sortData] at this
      exact (DataW.agg.inj this).symm
    rw [h2] at h1
    simp [hk] at h1
    exact h1.symm
  obtain ⟨ys, n, rfl, rfl, hcl, hyl, hyf⟩ := DataW.trod_struct Tryd.underlying66 hty
  have k0 : DataW.trod (fun _ => ()) Tryd.prog W 0 (fun _ => true) false n 9 (((cs.toList.drop (k * 2)).take 2).take 1) = ys[0]? := by simpa [cellsStr] using hyf 0 _ rfl
  have k1 : DataW.trod (fun _ => ()) Tryd.prog W 0 (fun _ => true) false n 3 ((((cs.toList.drop (k * 2)).take 2).drop 1).take 1) = ys[1]? := by simpa [cellsInt] using hyf 1 _ rfl
  match ys, hyl with
  | [y0, y1], _ =>
    obtain ⟨s, hs1, hs2, _⟩ := DataW.trod_string Tryd.underlying9 k0
    obtain ⟨z, hz1, hz2, _⟩ := DataW.trod_int Tryd.underlying3 k1
    simp only [hs2, hz2, List.map_cons, List.map_nil, DataW.agg.injEq, List.cons.injEq, DataW.lit.injEq, Lit.string.injEq, Lit.int.injEq, true_and, and_true] at hy1
    have c0 : cs[k * 2]? = some (.string s) := by
      have := congrArg (·[0]?) hs1
      simpa [List.getElem?_take, List.getElem?_drop] using this
    have c1 : cs[k * 2 + 1]? = some (.int .i64 z) := by
      have := congrArg (·[0]?) hz1
      simpa [List.getElem?_take, List.getElem?_drop] using this
    refine ⟨?_, ?_⟩
    · rw [World.var?_cell gSort hvar, c0, ← hy1.1]
    · rw [World.var?_cell gSort hvar, c1, hy1.2]

def layNib : Obj → Obj
  | .cells _ t frozen => .cells #[.int .u32 0, .int .u32 498536548, .int .u32 997073096, .int .u32 651767980, .int .u32 1994146192, .int .u32 1802195444, .int .u32 1303535960, .int .u32 1342533948, .int .u32 3988292384, .int .u32 4027552580, .int .u32 3604390888, .int .u32 3412177804, .int .u32 2607071920, .int .u32 2262029012, .int .u32 2685067896, .int .u32 3183342108] t frozen
  | o => o
def laySort : Obj → Obj
  | .cells _ t frozen => .cells #[.string ⟨#[]⟩, .int .i64 0, .string ⟨#[65, 115, 107]⟩, .int .i64 4098, .string ⟨#[82, 101, 112, 108, 121]⟩, .int .i64 518, .string ⟨#[80, 114, 101, 112, 97, 114, 101]⟩, .int .i64 6153, .string ⟨#[86, 111, 116, 101]⟩, .int .i64 513, .string ⟨#[68, 101, 99, 105, 100, 101]⟩, .int .i64 517, .string ⟨#[65, 99, 107]⟩, .int .i64 1, .string ⟨#[80, 114, 111, 98, 101]⟩, .int .i64 1, .string ⟨#[81, 117, 101, 114, 121]⟩, .int .i64 8672, .string ⟨#[76, 111, 111, 107]⟩, .int .i64 8692, .string ⟨#[83, 101, 101, 110]⟩, .int .i64 16928, .string ⟨#[82, 101, 115, 117, 108, 116]⟩, .int .i64 16932, .string ⟨#[80, 114, 101, 112, 97, 114, 101, 100]⟩, .int .i64 6153, .string ⟨#[67, 111, 109, 109, 105, 116, 116, 101, 100]⟩, .int .i64 5, .string ⟨#[65, 98, 111, 114, 116, 101, 100]⟩, .int .i64 1, .string ⟨#[83, 119, 101, 112, 116]⟩, .int .i64 16, .string ⟨#[69, 112, 111, 99, 104]⟩, .int .i64 16, .string ⟨#[67, 111, 109, 109, 105, 116]⟩, .int .i64 2055, .string ⟨#[69, 110, 100]⟩, .int .i64 1, .string ⟨#[66, 101, 103, 105, 110]⟩, .int .i64 7179, .string ⟨#[89, 101, 115]⟩, .int .i64 1025, .string ⟨#[65, 99, 107, 101, 100]⟩, .int .i64 1025, .string ⟨#[71, 111, 110, 101]⟩, .int .i64 1] t frozen
  | o => o
/-- A world for the witness: the settled one, the tables holding what their initialisers lay. -/
noncomputable def laidWorld (os : Os) : World :=
  { World.holding Tryd.prog os ⟨#[], #[], []⟩ with heap := ((World.holding Tryd.prog os ⟨#[], #[], []⟩).heap.modify 1 layNib).modify 0 laySort }
end Go.Proofs.YtnkbfelnggompaaDoor
