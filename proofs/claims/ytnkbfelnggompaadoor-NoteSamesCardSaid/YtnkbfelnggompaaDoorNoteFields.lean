/- armillarylaw12: NoteFields. -/
import Derived.Test.YtnkbfelnggompaaDoorNoteAwake
namespace Go.Arm
open Go.RowKit
def letters : List UInt8 := [116, 98, 115, 97, 109, 113, 105, 107, 101, 99, 119, 112, 111, 118, 104]
def oneN (k : UInt8) : Nat → NoteR
  | 0 => { zeroN with kind := k, txn := 1 }
  | 1 => { zeroN with kind := k, batch := 1 }
  | 2 => { zeroN with kind := k, stamp := 1 }
  | 3 => { zeroN with kind := k, after := 1 }
  | 4 => { zeroN with kind := k, mark := 1 }
  | 5 => { zeroN with kind := k, query := 1 }
  | 6 => { zeroN with kind := k, id := 1 }
  | 7 => { zeroN with kind := k, k := 1 }
  | 8 => { zeroN with kind := k, ef := 1 }
  | 9 => { zeroN with kind := k, code := 1 }
  | 10 => { zeroN with kind := k, who := 1 }
  | 11 => { zeroN with kind := k, parts := [1] }
  | 12 => { zeroN with kind := k, ops := [⟨1, []⟩] }
  | 13 => { zeroN with kind := k, vec := [1] }
  | _ => { zeroN with kind := k, hits := [⟨1, 0, [1]⟩] }
theorem fields_all : ∀ k : Fin 256, ∀ i : Fin 15, nright (oneN (UInt8.ofNat k.val) i.val) = (sortLets k.val).any (· == letters[i.val]) := by decide +kernel
theorem fields_one (k : UInt8) (i : Nat) (hi : i < 15) : nright (oneN k i) = (sortLets k.toNat).any (· == letters[i]'hi) := by
  have h := fields_all ⟨k.toNat, k.toNat_lt⟩ ⟨i, hi⟩
  rw [show UInt8.ofNat k.toNat = k by simp] at h
  exact h
theorem any_take (l : List UInt8) (c : UInt8) (j : Nat) (h : j < l.length) : (l.take (j + 1)).any (· == c) = ((l.take j).any (· == c) || l[j] == c) := by
  rw [List.take_succ_eq_append_getElem h, List.any_append]
  simp
theorem u8_eq (x y : UInt8) : ((x.toNat : Int) == (y.toNat : Int)) = (x == y) := by
  rw [Bool.eq_iff_iff, beq_iff_eq, beq_iff_eq]
  constructor
  · intro h
    exact UInt8.toNat_inj.1 (by omega)
  · rintro rfl; rfl
theorem name_world {P : Program} {c : Code} {K : Exit → Act → World → Prop} {a : Act} {W : World} (h : ∀ wA, wA = W → c.wp P K a wA) : c.wp P K a W := h W rfl
theorem lit_sl {α : Type} [Rep α] (W : World) (S : Nat → Prop) (k : Nat) (l : List α) (cs : List Value) (ty : TypeId) (hl : l.length ≤ 100) (h1 : rds W S l cs) (hk : S k) (h : W.heap[k]? = some (.cells cs.toArray ty (0, 0))) : Sl W S l (.slice (some ⟨k, 0, none⟩) l.length l.length) := by
  refine ⟨some ⟨k, 0, none⟩, l.length, cs, rfl, Nat.le_refl _, by unfold maxLen; omega, by simp, h1, ?_, ?_⟩
  · intro a ha _; cases ha; exact hk
  · intro a ha j u hu
    cases ha
    have e : (⟨k, 0, none⟩ : Addr).add j = ⟨k, j, none⟩ := by unfold Addr.add; split <;> simp_all
    rw [e]
    simp [World.cell?, h, hu]
end Go.Arm
namespace Go.Proofs.YtnkbfelnggompaaDoor
open Go Go.RowKit Go.Arm
theorem i64_one : I64 1 := by unfold I64; omega
theorem size_alloc (w : World) (o : Obj) : (w.alloc o).heap.size = w.heap.size + 1 := by
  show (w.heap.push o).size = _
  exact Array.size_push _
theorem old_alloc {w : World} {k : Nat} {o : Obj} (h : w.heap[k]? = some o) (o2 : Obj) : (w.alloc o2).heap[k]? = some o :=
  (((Below.refl w.heap.size w).alloc (Nat.le_refl _) o2).block k (Array.getElem?_eq_some_iff.1 h).1).trans h

theorem new1 (w : World) (o o2 : Obj) : ((w.alloc o).alloc o2).heap[w.heap.size + 1]? = some o2 := by
  rw [← size_alloc w o]
  exact heap_alloc_new (w.alloc o) o2
theorem new2 (w : World) (o o2 o3 : Obj) : (((w.alloc o).alloc o2).alloc o3).heap[w.heap.size + 1 + 1]? = some o3 := by
  rw [← size_alloc w o, ← size_alloc (w.alloc o) o2]
  exact heap_alloc_new _ o3

end Go.Proofs.YtnkbfelnggompaaDoor
