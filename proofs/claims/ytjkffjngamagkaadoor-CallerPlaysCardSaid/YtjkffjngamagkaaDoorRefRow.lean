/- An element of a row of the call's own, changed in place. -/
import Derived.Test.YtjkffjngamagkaaDoorRefCal
namespace Go.Arm
open Go.RowKit
section
variable {α : Type} [Rep α]
theorem rds_set {w : World} {S : Nat → Prop} {x' : α} {c' : List Value} (hx : Rep.rd w S x' c') : ∀ {l : List α} {cs : List Value} (i : Nat), rds w S l cs → i < l.length → rds w S (l.set i x') (cs.take (i * Rep.sz α) ++ c' ++ cs.drop (i * Rep.sz α + Rep.sz α))
 | [], _, _, _, h => by simp at h
 | x :: xs, cs, 0, h, _ => by
  obtain ⟨c, d, rfl, h1, h2⟩ := h
  have hc := Rep.len h1
  refine ⟨c', d, ?_, hx, h2⟩
  simp [← hc]
 | x :: xs, cs, i + 1, h, hi => by
  obtain ⟨c, d, rfl, h1, h2⟩ := h
  have hc := Rep.len h1
  have ih := rds_set hx i h2 (by simpa using hi)
  refine ⟨c, _, ?_, h1, ih⟩
  have e : (i + 1) * Rep.sz α = c.length + i * Rep.sz α := by rw [hc, Nat.add_mul]; omega
  rw [e, List.take_length_add_append, Nat.add_assoc, List.drop_length_add_append]
  simp [List.append_assoc]
theorem Own.elem {P : Program} {w : World} {B : Nat} {t e : TypeId} {z : Value} {bytes : Nat} {S : Nat → Prop} {l : List α} {v : Value} (h : Own w B e S l v) (hr : Row P t e z (Rep.sz α) bytes) (i : Nat) (x : α) (hx : l[i]? = some x) :
  ∃ g o cur c, v.ownBlock = some g ∧ Blk w g e cur ∧ Rep.rd w S x c ∧ o + Rep.sz α ≤ cur.size ∧ (∀ j, j < Rep.sz α → cur[o + j]? = c[j]?) ∧ (∀ (k : IntKind) w', (Instr.indexAt t v (.int k (i : Int))).run P w' = .ok (.pointer (some ⟨g, o, none⟩)) w') ∧
   ∀ (w' : World) (S' : Nat → Prop) (x' : α) (cur' : Array Value) (c' : List Value), (∀ b, S b → b < w.heap.size → w'.heap[b]? = w.heap[b]? ∧ S' b) → Blk w' g e cur' → cur'.size = cur.size → (∀ k, k < o ∨ o + Rep.sz α ≤ k → cur'[k]? = cur[k]?) → (∀ j, j < Rep.sz α → cur'[o + j]? = c'[j]?) → Rep.rd w' S' x' c' → Own w' B e S' (l.set i x') v := by
 have hi : i < l.length := (List.getElem?_eq_some_iff.1 hx).1
 obtain ⟨cs, c1, c2⟩ := h
 have he : P.elem t = e := by simp [Program.elem, hr.1]
 have hlen := rds_len c1
 rcases c2 with ⟨rfl, hn, _⟩ | ⟨g, o, cap, cur, rfl, hg, hh, hcap, hm, hs, ht⟩
 ·omega
 ·obtain ⟨c, hc, hcc⟩ := rds_get i c1 hx
  have hcl := Rep.len hc
  have hin : (i + 1) * Rep.sz α ≤ l.length * Rep.sz α := Nat.mul_le_mul_right _ hi
  have hin2 : l.length * Rep.sz α ≤ cap * Rep.sz α := Nat.mul_le_mul_right _ hcap
  have hin3 : (i + 1) * Rep.sz α = i * Rep.sz α + Rep.sz α := by rw [Nat.add_mul]; omega
  have hcur : ∀ k, k < l.length * Rep.sz α → cur[o + k]? = cs[k]? := fun k hk => by
   rw [← ht, List.getElem?_take, if_pos hk, List.getElem?_drop, Array.getElem?_toList]
  refine ⟨g, o + i * Rep.sz α, cur, c, rfl, hh, hc, by omega, fun j hj => ?_, fun k w' => ?_, ?_⟩
  ·rw [Nat.add_assoc, hcur _ (by omega), hcc j c[j] (by simp [hcl, hj])]
   simp [hcl, hj]
  ·have hrun := run_indexAt_slice (P := P) w' t ⟨g, o, none⟩ l.length cap k i (by rw [he]; exact hr.1)
   rw [if_pos ⟨by omega, by omega⟩, he, run_sizeOf_row hr] at hrun
   simp only [Result.andThen, add_lit] at hrun
   exact hrun
  ·intro w' S' x' cur' c' hk hb hsz hout hinn hrd
   have hcl' := Rep.len hrd
   refine ⟨_, rds_set hrd i (rds_keep c1 hk) hi, .inr ⟨g, o, cap, cur', by simp, hg, hb, by simpa using hcap, hm, by omega, ?_⟩⟩
   apply List.ext_getElem?
   intro k
   rw [List.length_set, List.getElem?_take, List.append_assoc]
   by_cases hkl : k < l.length * Rep.sz α
   ·rw [if_pos hkl, List.getElem?_drop, Array.getElem?_toList]
    by_cases h1 : k < i * Rep.sz α
    ·rw [hout _ (by omega), hcur k hkl, List.getElem?_append_left (by simp; omega), List.getElem?_take, if_pos h1]
    ·rw [List.getElem?_append_right (by simp; omega)]
     have e1 : (cs.take (i * Rep.sz α)).length = i * Rep.sz α := by simp; omega
     rw [e1]
     by_cases h2 : k < i * Rep.sz α + Rep.sz α
     ·have := hinn (k - i * Rep.sz α) (by omega)
      rw [show o + i * Rep.sz α + (k - i * Rep.sz α) = o + k by omega] at this
      rw [this, List.getElem?_append_left (by omega)]
     ·rw [hout _ (by omega), hcur k hkl, List.getElem?_append_right (by omega), List.getElem?_drop]
      congr 1
      omega
   ·rw [if_neg hkl]
    symm
    rw [List.getElem?_eq_none_iff]
    simp
    omega
end
end Go.Arm
