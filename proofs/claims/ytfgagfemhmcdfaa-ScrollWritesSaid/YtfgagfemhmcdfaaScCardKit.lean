/- What the cards of chapter 2 share. -/
import Derived.Test.YtfgagfemhmcdfaaOpen
import Derived.Test.YtfgagfemhmcdfaaAwake
import Derived.OpenShut
import Derived.Deep.DeepHandedRow
namespace Go.Proofs.Ytfgagfemhmcdfaa
open Go Go.RowKit Go.Arm Go.ChangeShapes Go.WideShapes Go.ChangeAt

theorem own : ownKnob Try.prog.godebug = none := by kernel_rfl
theorem laidOut : laidOutB Try.prog = true := by kernel_rfl
theorem cellsU8 : Try.prog.cellsOf 5 = 1 := by kernel_rfl
theorem cellsB : Try.prog.cellsOf 24 = 1 := by kernel_rfl
theorem cellsU64 : Try.prog.cellsOf 22 = 1 := by kernel_rfl
theorem cellsI32 : Try.prog.cellsOf 21 = 1 := by kernel_rfl
theorem cellsV : Try.prog.cellsOf 41 = 1 := by kernel_rfl

noncomputable def plainWorld (os : Os) : World := World.holding Try.prog os ⟨#[], #[], []⟩

theorem u64_of {z : Int} (h0 : 0 ≤ z) (h1 : z ≤ 18446744073709551615) : ∃ x : UInt64, z = (x.toNat : Int) :=
  ⟨UInt64.ofNat z.toNat, by rw [UInt64.toNat_ofNat_of_lt' (by show z.toNat < 18446744073709551616; omega)]; omega⟩
theorem i32_of {z : Int} (h0 : -2147483648 ≤ z) (h1 : z ≤ 2147483647) : ∃ x : Int32, z = x.toInt :=
  ⟨Int32.ofInt z, (Int32.toInt_ofInt_of_le h0 (by simp; omega)).symm⟩

section
variable {H : Type} {enc : TypeId × Value → H} {P : Program} {w : World} {base : Nat} {spare : Nat → Bool} {held : Bool}
/-- A slice of numbers. -/
theorem open_u64s_at {t e : TypeId} {fuel : Nat} {v : Value} {x : DataW H × List MemPlace} (ht : P.underlying t = some (.slice e)) (he : P.underlying e = some (.int .u64)) (hc : P.cellsOf e = 1)
    (h : DataW.trod enc P w base spare held fuel t [v] = some x) : ∃ l : List UInt64, Sl w (· < w.heap.size) l v := by
  refine sl_open ht hc h fun n cs' y hy => ?_
  obtain ⟨z, rfl, _, hz⟩ := DataW.trod_int he hy
  have hb := bounds_u64 hz
  obtain ⟨u, rfl⟩ := u64_of hb.1 hb.2
  exact ⟨u, rfl⟩
/-- A slice of whole numbers. -/
theorem open_i32s_at {t e : TypeId} {fuel : Nat} {v : Value} {x : DataW H × List MemPlace} (ht : P.underlying t = some (.slice e)) (he : P.underlying e = some (.int .i32)) (hc : P.cellsOf e = 1)
    (h : DataW.trod enc P w base spare held fuel t [v] = some x) : ∃ l : List Int32, Sl w (· < w.heap.size) l v := by
  refine sl_open ht hc h fun n cs' y hy => ?_
  obtain ⟨z, rfl, _, hz⟩ := DataW.trod_int he hy
  have hb := bounds_i32 hz
  obtain ⟨u, rfl⟩ := i32_of hb.1 hb.2
  exact ⟨u, rfl⟩
/-- A slice of slices of whole numbers. -/
theorem open_i32ss_at {t e e' : TypeId} {fuel : Nat} {v : Value} {x : DataW H × List MemPlace} (ht : P.underlying t = some (.slice e)) (he : P.underlying e = some (.slice e')) (hc : P.cellsOf e = 1)
    (he' : P.underlying e' = some (.int .i32)) (hc' : P.cellsOf e' = 1)
    (h : DataW.trod enc P w base spare held fuel t [v] = some x) : ∃ l : List (List Int32), Sl w (· < w.heap.size) l v := by
  refine sl_open ht hc h fun n cs' y hy => ?_
  have hs : ∃ u, cs' = [u] := by
    rcases DataW.trod_slice he hy with ⟨rfl, _⟩ | ⟨_, _, _, _, _, _, _, rfl, _⟩ <;> exact ⟨_, rfl⟩
  obtain ⟨u, rfl⟩ := hs
  obtain ⟨l, hl⟩ := open_i32s_at he he' hc' hy
  exact ⟨l, u, rfl, hl⟩

theorem open_u64s {t e : TypeId} {v : Value} {d : DataW H} {p : List MemPlace} {r : Reach} {b : Nat} (ht : P.underlying t = some (.slice e)) (he : P.underlying e = some (.int .u64)) (hc : P.cellsOf e = 1)
    (hval : Value.okWide P w r b t v) (h : DataW.Trod enc P w base spare held t v d p) : ∃ l : List UInt64, Sl w (· < w.heap.size) l v := by
  obtain ⟨fuel, h⟩ := h
  rw [slice_cells ht hval] at h
  exact open_u64s_at ht he hc h
theorem open_i32s {t e : TypeId} {v : Value} {d : DataW H} {p : List MemPlace} {r : Reach} {b : Nat} (ht : P.underlying t = some (.slice e)) (he : P.underlying e = some (.int .i32)) (hc : P.cellsOf e = 1)
    (hval : Value.okWide P w r b t v) (h : DataW.Trod enc P w base spare held t v d p) : ∃ l : List Int32, Sl w (· < w.heap.size) l v := by
  obtain ⟨fuel, h⟩ := h
  rw [slice_cells ht hval] at h
  exact open_i32s_at ht he hc h
theorem open_i32ss {t e e' : TypeId} {v : Value} {d : DataW H} {p : List MemPlace} {r : Reach} {b : Nat} (ht : P.underlying t = some (.slice e)) (he : P.underlying e = some (.slice e')) (hc : P.cellsOf e = 1)
    (he' : P.underlying e' = some (.int .i32)) (hc' : P.cellsOf e' = 1)
    (hval : Value.okWide P w r b t v) (h : DataW.Trod enc P w base spare held t v d p) : ∃ l : List (List Int32), Sl w (· < w.heap.size) l v := by
  obtain ⟨fuel, h⟩ := h
  rw [slice_cells ht hval] at h
  exact open_i32ss_at ht he hc he' hc' h
end
end Go.Proofs.Ytfgagfemhmcdfaa
