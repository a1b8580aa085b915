/- From a row's readings of its arguments to the lists that the walks speak of; whatever the program. -/
import Derived.Test.YtnkbfelnggompaaDoorBase
import Derived.ProofKit
import Derived.OpenShut
import Derived.Carry
import Derived.Deep.Slices
namespace Go.Arm
open Go.RowKit Go.ChangeShapes Go.WideShapes Go.Deep
section
variable {H : Type} {enc : TypeId × Value → H} {P : Program} {w : World} {base : Nat} {spare : Nat → Bool} {held : Bool}

/-- A slice whose elements each read as something of the Lean type reads as a list. -/
theorem sl_open {α : Type} [Rep α] {t e : TypeId} {fuel : Nat} {v : Value} {x : DataW H × List MemPlace} (ht : P.underlying t = some (.slice e)) (hc : P.cellsOf e = Rep.sz α)
    (h : DataW.trod enc P w base spare held fuel t [v] = some x)
    (hel : ∀ n cs' y, DataW.trod enc P w base spare held n e cs' = some y → ∃ x : α, Rep.rd w (· < w.heap.size) x cs') :
    ∃ l : List α, Sl w (· < w.heap.size) l v := by
  rcases open_slice ht h with ⟨hcs, _⟩ | ⟨a, len, cap, m, n, D, Pl, hcs, hb, hl, hm, hmm, _, hx⟩
  · obtain rfl : v = .slice none 0 0 := by simpa using hcs
    exact ⟨[], Sl.nil _ _⟩
  · obtain rfl : v = .slice (some a) len cap := by simpa using hcs
    have hlm : len ≤ m := by rw [hmm]; split <;> omega
    have all : ∀ k, k ≤ len → ∃ (l : List α) (cs : List Value), l.length = k ∧ rds w (· < w.heap.size) l cs ∧ ∀ j u, cs[j]? = some u → w.cell? (a.add j) = some u := by
      intro k
      induction k with
      | zero => intro _; exact ⟨[], [], rfl, rfl, fun j u hu => by simp at hu⟩
      | succ k ih =>
        intro hk
        obtain ⟨l, cs, h1, h2, h3⟩ := ih (by omega)
        obtain ⟨c, g1, g2⟩ := hx k (by omega)
        obtain ⟨y, hy⟩ := hel _ _ _ g2
        obtain ⟨_, g3, g4⟩ := World.cells?_some g1
        have hcl : cs.length = k * P.cellsOf e := by rw [rds_len h2, h1, hc]
        refine ⟨l ++ [y], cs ++ c, by simp [h1], rds_append h2 ⟨c, [], by simp, hy, rfl⟩, fun j u hu => ?_⟩
        by_cases hj : j < cs.length
        · rw [List.getElem?_append_left hj] at hu
          exact h3 j u hu
        · rw [List.getElem?_append_right (by omega)] at hu
          have hjl := (List.getElem?_eq_some_iff.1 hu).1
          have := g4 (j - cs.length) (by omega)
          rw [hu, add_add, show k * P.cellsOf e + (j - cs.length) = j by omega] at this
          exact this
    obtain ⟨l, cs, h1, h2, h3⟩ := all len (Nat.le_refl _)
    have hloc : located w (some a) cs := fun a' ha => by
      obtain rfl := Option.some.inj ha
      exact h3
    refine ⟨l, some a, cap, cs, by rw [h1], by omega, hm, by simp, h2, fun a' ha hne => ?_, hloc⟩
    obtain rfl := Option.some.inj ha
    exact located_lt hloc hne

/-- A slice of bytes. -/
theorem open_u8s_at {t e : TypeId} {fuel : Nat} {v : Value} {x : DataW H × List MemPlace} (ht : P.underlying t = some (.slice e)) (he : P.underlying e = some (.int .u8)) (hc : P.cellsOf e = 1)
    (h : DataW.trod enc P w base spare held fuel t [v] = some x) : ∃ l : List UInt8, Sl w (· < w.heap.size) l v := by
  refine sl_open ht hc h fun n cs' y hy => ?_
  obtain ⟨z, rfl, _, hz⟩ := DataW.trod_int he hy
  have hb := bounds_u8 hz
  refine ⟨UInt8.ofNat z.toNat, ?_⟩
  show _ = _
  rw [UInt8.toNat_ofNat_of_lt' (by show z.toNat < 256; omega)]
  rw [show ((z.toNat : Nat) : Int) = z by omega]

/-- A slice of slices of bytes. -/
theorem open_u8ss_at {t e e' : TypeId} {fuel : Nat} {v : Value} {x : DataW H × List MemPlace} (ht : P.underlying t = some (.slice e)) (he : P.underlying e = some (.slice e')) (hc : P.cellsOf e = 1)
    (he' : P.underlying e' = some (.int .u8)) (hc' : P.cellsOf e' = 1)
    (h : DataW.trod enc P w base spare held fuel t [v] = some x) : ∃ l : List (List UInt8), Sl w (· < w.heap.size) l v := by
  refine sl_open ht hc h fun n cs' y hy => ?_
  have hs : ∃ u, cs' = [u] := by
    rcases DataW.trod_slice he hy with ⟨rfl, _⟩ | ⟨_, _, _, _, _, _, _, rfl, _⟩ <;> exact ⟨_, rfl⟩
  obtain ⟨u, rfl⟩ := hs
  obtain ⟨l, hl⟩ := open_u8s_at he he' hc' hy
  exact ⟨l, u, rfl, hl⟩

theorem slice_cells {e : TypeId} {t : TypeId} {v : Value} {r : Reach} {b : Nat} (ht : P.underlying t = some (.slice e)) (hval : Value.okWide P w r b t v) : v.cells.toList = [v] := by
  obtain ⟨a, len, cap, rfl⟩ := okWide_slice ht hval
  rfl

theorem open_u8s {t e : TypeId} {v : Value} {d : DataW H} {p : List MemPlace} {r : Reach} {b : Nat} (ht : P.underlying t = some (.slice e)) (he : P.underlying e = some (.int .u8)) (hc : P.cellsOf e = 1)
    (hval : Value.okWide P w r b t v) (h : DataW.Trod enc P w base spare held t v d p) : ∃ l : List UInt8, Sl w (· < w.heap.size) l v := by
  obtain ⟨fuel, h⟩ := h
  rw [slice_cells ht hval] at h
  exact open_u8s_at ht he hc h

theorem open_u8ss {t e e' : TypeId} {v : Value} {d : DataW H} {p : List MemPlace} {r : Reach} {b : Nat} (ht : P.underlying t = some (.slice e)) (he : P.underlying e = some (.slice e')) (hc : P.cellsOf e = 1)
    (he' : P.underlying e' = some (.int .u8)) (hc' : P.cellsOf e' = 1)
    (hval : Value.okWide P w r b t v) (h : DataW.Trod enc P w base spare held t v d p) : ∃ l : List (List UInt8), Sl w (· < w.heap.size) l v := by
  obtain ⟨fuel, h⟩ := h
  rw [slice_cells ht hval] at h
  exact open_u8ss_at ht he hc he' hc' h
end
end Go.Arm
