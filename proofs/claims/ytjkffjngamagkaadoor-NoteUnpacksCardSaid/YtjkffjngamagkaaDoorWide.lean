/- A slice whose capacity holds more than its length: what stands behind the length is known too. -/
import Derived.Test.YtjkffjngamagkaaDoorPackA
namespace Go.Arm
open Go.RowKit

/-- v has k elements; up to l's length the cells behind it read as l. -/
def Wide {α : Type} [Rep α] (w : World) (S : Nat → Prop) (l : List α) (k : Nat) (v : Value) : Prop :=
  ∃ ao cap, v = .slice ao k cap ∧ l.length ≤ cap ∧ k ≤ l.length ∧ Sl w S l (.slice ao l.length cap)

section
variable {α : Type} [Rep α]

theorem Wide.sl {w : World} {S : Nat → Prop} {l : List α} {k : Nat} {v : Value} (h : Wide w S l k v) : Sl w S (l.take k) v := by
  obtain ⟨ao, cap, rfl, h1, h2, h3⟩ := h
  have := h3.cut 0 k (Nat.zero_le _) h2
  rw [List.drop_zero] at this
  have e : sliced ao 0 k cap (Rep.sz α) = .slice ao k cap := by
    cases ao <;> simp [sliced, Addr.add]
  rwa [e] at this

theorem Wide.below {w w' : World} {S : Nat → Prop} {l : List α} {k : Nat} {v : Value} (h : Wide w S l k v) {B : Nat} (hb : Below B w w') (hB : w.heap.size ≤ B) : Wide w' S l k v := by
  obtain ⟨ao, cap, rfl, h1, h2, h3⟩ := h
  exact ⟨ao, cap, rfl, h1, h2, h3.below hb hB⟩

variable {P : Program} {ops : Array Oper} {Q : Exit → Act → World → Prop} {a : Act} {w : World} {rest : List Oper}
variable {dst : Option Tmp} {ty : TypeId} {pos : String} {after : Array Edge}

/-- x[:m], the rest kept in mind. -/
theorem wpList_slice_wide {x j : Operand} {t e : TypeId} {z : Value} {bytes : Nat} {S : Nat → Prop} {l : List α} (hr : Row P t e z (Rep.sz α) bytes) (hx : Sl w S l (a.eval x))
    {k' : IntKind} {m : Int} (hj : a.eval j = .int k' m) (hn : 0 ≤ m) (hm : m ≤ l.length)
    (h : ∀ v, Wide w S l m.toNat v → wpList P ops Q rest (a.put dst v) w) :
    wpList P ops Q (⟨dst, .slice t x none (some j) none, ty, pos, after, none⟩ :: rest) a w := by
  have hx' := hx
  obtain ⟨ao, cap, cs, hv, hcap, _⟩ := hx
  rw [hv] at hx'
  have he : P.elem t = e := by simp [Program.elem, hr.1]
  have hrun := run_slice_h (P := P) w t ao l.length cap (by rw [he]; exact hr.1) k' m hn (by omega)
  rw [he, run_sizeOf_row hr] at hrun
  refine wpList_plain rfl fun K hK => ?_
  have hsl : (Instr.sliceAt t (.slice ao l.length cap) none (some (.int k' m)) none).run P w = _ := (run_sliceAt_slice (P := P) w t _ _ _ _ (by rw [he]; exact hr.1)).trans hrun
  unfold Oper.wp
  simp [execOp, hj, hv, hsl, Result.andThen]
  refine hK _ _ (h _ ⟨ao, cap, ?_, hcap, by omega, hx'⟩)
  cases ao <;> simp [sliced, Addr.add]

/-- x[:m], further than x's own length. -/
theorem wpList_slice_back {x j : Operand} {t e : TypeId} {z : Value} {bytes : Nat} {S : Nat → Prop} {l : List α} {k : Nat} (hr : Row P t e z (Rep.sz α) bytes) (hx : Wide w S l k (a.eval x))
    {k' : IntKind} {m : Int} (hj : a.eval j = .int k' m) (hn : 0 ≤ m) (hm : m ≤ l.length)
    (h : ∀ v, Sl w S (l.take m.toNat) v → wpList P ops Q rest (a.put dst v) w) :
    wpList P ops Q (⟨dst, .slice t x none (some j) none, ty, pos, after, none⟩ :: rest) a w := by
  obtain ⟨ao, cap, hv, hcap, hk, hs⟩ := hx
  have he : P.elem t = e := by simp [Program.elem, hr.1]
  have hrun := run_slice_h (P := P) w t ao k cap (by rw [he]; exact hr.1) k' m hn (by omega)
  rw [he, run_sizeOf_row hr] at hrun
  refine wpList_plain rfl fun K hK => ?_
  have hcut := hs.cut 0 m.toNat (by omega) (by omega)
  rw [List.drop_zero] at hcut
  have hsl : (Instr.sliceAt t (.slice ao k cap) none (some (.int k' m)) none).run P w = _ := (run_sliceAt_slice (P := P) w t _ _ _ _ (by rw [he]; exact hr.1)).trans hrun
  unfold Oper.wp
  simp [execOp, hj, hv, hsl, Result.andThen]
  exact hK _ _ (h _ hcut)
end
end Go.Arm
