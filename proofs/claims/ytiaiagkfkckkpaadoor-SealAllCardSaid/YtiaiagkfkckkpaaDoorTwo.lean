/- Two rows of a call's own that grow side by side: a slice of slices of bytes and a slice of bytes. -/
import Derived.Test.YtiaiagkfkckkpaaDoorKit
namespace Go.Proofs.YtiaiagkfkckkpaaDoor
open Go Go.RowKit Go.Arm

/-- v reads as the slices l (their blocks are in T), x as the bytes m; neither row stands behind the other or behind an element. -/
structure Two (w : World) (B : Nat) (T : Nat → Prop) (l : List (List UInt8)) (m : List UInt8) (v x : Value) : Prop where
  one : Own w B 24 T l v
  two : OwnB w B m x
  lt : ∀ b, T b → b < w.heap.size
  t1 : ∀ b, T b → v.ownBlock ≠ some b
  t2 : ∀ b, T b → x.ownBlock ≠ some b
  ne : ∀ b, v.ownBlock = some b → x.ownBlock ≠ some b

theorem Two.nil (w : World) (B : Nat) : Two w B (fun _ => False) [] [] (.slice none 0 0) (.slice none 0 0) :=
  ⟨Own.nil _ _ _ _, Own.nil _ _ _ _, fun _ h => h.elim, fun _ h => h.elim, fun _ h => h.elim, fun b h => by cases h⟩

theorem Two.below {w w' : World} {B : Nat} {T : Nat → Prop} {l : List (List UInt8)} {m : List UInt8} {v x : Value} (h : Two w B T l m v x) {C : Nat} (hb : Below C w w') (hC : w.heap.size ≤ C) : Two w' B T l m v x :=
  ⟨h.one.below hb hC, h.two.below hb hC, fun b ht => Nat.lt_of_lt_of_le (h.lt b ht) hb.size, h.t1, h.t2, h.ne⟩

section
variable {ops : Array Oper} {a : Act} {w : World} {rest : List Oper}
variable {dst : Option Tmp} {ty : TypeId} {pos : String} {after : Array Edge}

/-- append to the second -/
theorem two_app_at {Q : Exit → Act → World → Prop} {s x : Operand} {B : Nat} {T S : Nat → Prop} {l : List (List UInt8)} {m y : List UInt8} {v : Value} (h2 : Two w B T l m v (a.eval s)) (hx : Sl w S y (a.eval x))
    (hl : m.length + y.length ≤ 140737488355328) (hB : B ≤ w.heap.size)
    (h : ∀ v' w', Two w' B T l (m ++ y) v v' → w.grownBy w' (a.eval s).ownBlock → Below B w w' → (v'.ownBlock = (a.eval s).ownBlock ∨ ∃ g, v'.ownBlock = some g ∧ w.heap.size ≤ g) → wpList Tryd.prog ops Q rest (a.put dst v') w') :
    wpList Tryd.prog ops Q (⟨dst, .call ⟨.builtin .append, #[s, x], #[24, 24]⟩, ty, pos, after, none⟩ :: rest) a w := by
  refine app_B h2.two hx hl hB fun v' w' g1 g2 g3 => h v' w' ⟨?_, g1, fun b ht => Nat.lt_of_lt_of_le (h2.lt b ht) g2.size, h2.t1, ?_, ?_⟩ g2 ?_ g3
  · exact h2.one.keep (fun b hb hlt => ⟨g2.block b hlt (fun e => h2.t2 b hb e.symm), hb⟩) fun b hb => g2.block b (h2.one.ge b hb).2 (fun e => h2.ne b hb e.symm)
  · intro b hb e
    rcases g3 with g3 | ⟨g, g3, g4⟩
    · exact h2.t2 b hb (g3.symm.trans e)
    · rw [g3] at e
      have := h2.lt b hb
      cases e; omega
  · intro b hb e
    rcases g3 with g3 | ⟨g, g3, g4⟩
    · exact h2.ne b hb (g3.symm.trans e)
    · rw [g3] at e
      have := (h2.one.ge b hb).2
      cases e; omega
  · exact below_of_grown g2 hB fun k hk => (h2.two.ge k hk).1

theorem two_app {Q : Exit → Act → World → Prop} {s x : Operand} {B : Nat} {T S : Nat → Prop} {l : List (List UInt8)} {m y : List UInt8} {v : Value} (h2 : Two w B T l m v (a.eval s)) (hx : Sl w S y (a.eval x))
    (hl : m.length + y.length ≤ 140737488355328) (hB : B ≤ w.heap.size)
    (h : ∀ v' w', Two w' B T l (m ++ y) v v' → w.grownBy w' (a.eval s).ownBlock → Below B w w' → wpList Tryd.prog ops Q rest (a.put dst v') w') :
    wpList Tryd.prog ops Q (⟨dst, .call ⟨.builtin .append, #[s, x], #[24, 24]⟩, ty, pos, after, none⟩ :: rest) a w :=
  two_app_at h2 hx hl hB fun v' w' g1 g2 g3 _ => h v' w' g1 g2 g3

/-- append(s, x) to the first: the slice literal of one element, then the append. -/
theorem two_push_at {Q : Exit → Act → World → Prop} {s x : Operand} {i : Tmp} {B : Nat} {T S : Nat → Prop} {l : List (List UInt8)} {y m : List UInt8} {z : Value} {ty2 : TypeId} {pos2 : String} {after2 : Array Edge}
    (h2 : Two w B T l m (a.eval s) z) (hsi : ∀ v, (a.put (some i) v).eval s = a.eval s) (hi : ∀ v, (a.put (some i) v).eval (.tmp i) = v) (hx : Sl w S y (a.eval x))
    (hS : ∀ b, S b → b < w.heap.size → (a.eval s).ownBlock ≠ some b ∧ z.ownBlock ≠ some b)
    (hl : (l.length + 1) * 24 ≤ 140737488355328) (hB : B ≤ w.heap.size)
    (h : ∀ u v' w' T', (∀ b, T' b → T b ∨ (b < w.heap.size ∧ S b) ∨ b = w.heap.size) → Two w' B T' (l ++ [y]) m v' z → w.grownBy w' (a.eval s).ownBlock → Below B w w' → wpList Tryd.prog ops Q rest ((a.put (some i) u).put dst v') w') :
    wpList Tryd.prog ops Q (⟨some i, .buildSlice 22 1 #[(0, x)], ty, pos, after, none⟩ :: ⟨dst, .call ⟨.builtin .append, #[s, .tmp i], #[22, 22]⟩, ty2, pos2, after2, none⟩ :: rest) a w := by
  refine build_BB (S := S) [y] [a.eval x] rfl rfl ⟨[a.eval x], [], rfl, ⟨_, rfl, hx⟩, rfl⟩ (by simp) fun u w1 k1 k2 k3 k4 => ?_
  obtain ⟨T', hT'⟩ : ∃ T' : Nat → Prop, T' = fun b => T b ∨ (b < w.heap.size ∧ S b) ∨ b = w.heap.size := ⟨_, rfl⟩
  have hsl : Sl w1 T' [y] u := by
    rw [hT']
    refine (Own.keep (S' := fun b => T b ∨ (b < w.heap.size ∧ S b) ∨ b = w.heap.size) k1 (fun b hb hlt => ⟨rfl, ?_⟩) (fun _ _ => rfl)).sl (fun b h _ => h) fun b hb => .inr (.inr (by have := k1.ge b hb; omega))
    rcases Nat.lt_or_ge b w.heap.size with h | h
    · exact .inr (.inl ⟨h, hb⟩)
    · exact .inr (.inr (by omega))
  have hone : Own w1 B 24 T' l (a.eval s) := h2.one.keep (fun b hb hlt => ⟨k2.block b hlt (by simp), by rw [hT']; exact .inl hb⟩) fun b hb => k2.block b (h2.one.ge b hb).2 (by simp)
  have hs1 : ∀ b, T' b → (a.eval s).ownBlock ≠ some b := by
    intro b hb e
    rw [hT'] at hb
    rcases hb with hb | ⟨hb1, hb2⟩ | hb
    · exact h2.t1 b hb e
    · exact (hS b hb2 hb1).1 e
    · have := (h2.one.ge b e).2
      omega
  have hz1 : ∀ b, T' b → z.ownBlock ≠ some b := by
    intro b hb e
    rw [hT'] at hb
    rcases hb with hb | ⟨hb1, hb2⟩ | hb
    · exact h2.t2 b hb e
    · exact (hS b hb2 hb1).2 e
    · have := (h2.two.ge b e).2
      omega
  have hlt1 : ∀ b, T' b → b < w1.heap.size := by
    intro b hb
    rw [hT'] at hb
    rcases hb with hb | ⟨hb1, hb2⟩ | hb
    · have := h2.lt b hb; omega
    · omega
    · omega
  refine wpList_append rowBB rfl (by decide) (S := T') (S' := T') (l := l) (m := [y]) (B := B) (by rw [hsi]; exact hone) (by rw [hi]; exact hsl) (fun _ _ h => h) (fun b hb _ => by rw [hsi]; exact hs1 b hb) (by simp only [maxLen]; simp; omega) (by simpa using hl) (by omega) fun v' w' g1 g2 g3 => ?_
  rw [hsi] at g2 g3
  have hz : ∀ b, z.ownBlock = some b → w1.heap[b]? = w.heap[b]? ∧ w'.heap[b]? = w1.heap[b]? := fun b hb =>
    ⟨k2.block b (h2.two.ge b hb).2 (by simp), g2.block b (by have := (h2.two.ge b hb).2; omega) (fun e => h2.ne b e.symm hb)⟩
  have hg : w.grownBy w' (a.eval s).ownBlock := ⟨g2.os.trans k2.os, g2.tape.trans k2.tape, g2.output.trans k2.output, Nat.le_trans k2.size g2.size, fun k hk hne => (g2.block k (by omega) hne).trans (k2.block k hk (by simp))⟩
  refine h u v' w' T' (fun b hb => by rw [hT'] at hb; exact hb) ⟨g1, ?_, fun b hb => Nat.lt_of_lt_of_le (hlt1 b hb) g2.size, ?_, hz1, ?_⟩ hg (below_of_grown hg hB fun k hk => (h2.one.ge k hk).1)
  · exact h2.two.keep (fun _ h => h.elim) fun b hb => (hz b hb).2.trans (hz b hb).1
  · intro b hb e
    rcases g3 with g3 | ⟨g, g3, g4⟩
    · exact hs1 b hb (g3.symm.trans e)
    · rw [g3] at e
      have := hlt1 b hb
      cases e; omega
  · intro b hb e
    rcases g3 with g3 | ⟨g, g3, g4⟩
    · exact h2.ne b (g3.symm.trans hb) e
    · rw [g3] at hb
      have := (h2.two.ge b e).2
      cases hb; omega
theorem two_push {Q : Exit → Act → World → Prop} {s x : Operand} {i : Tmp} {B : Nat} {T S : Nat → Prop} {l : List (List UInt8)} {y m : List UInt8} {z : Value} {ty2 : TypeId} {pos2 : String} {after2 : Array Edge}
    (h2 : Two w B T l m (a.eval s) z) (hsi : ∀ v, (a.put (some i) v).eval s = a.eval s) (hi : ∀ v, (a.put (some i) v).eval (.tmp i) = v) (hx : Sl w S y (a.eval x))
    (hS : ∀ b, S b → b < w.heap.size → (a.eval s).ownBlock ≠ some b ∧ z.ownBlock ≠ some b)
    (hl : (l.length + 1) * 24 ≤ 140737488355328) (hB : B ≤ w.heap.size)
    (h : ∀ u v' w' T', Two w' B T' (l ++ [y]) m v' z → w.grownBy w' (a.eval s).ownBlock → Below B w w' → wpList Tryd.prog ops Q rest ((a.put (some i) u).put dst v') w') :
    wpList Tryd.prog ops Q (⟨some i, .buildSlice 22 1 #[(0, x)], ty, pos, after, none⟩ :: ⟨dst, .call ⟨.builtin .append, #[s, .tmp i], #[22, 22]⟩, ty2, pos2, after2, none⟩ :: rest) a w :=
  two_push_at h2 hsi hi hx hS hl hB fun u v' w' T' _ g1 g2 g3 => h u v' w' T' g1 g2 g3
end
end Go.Proofs.YtiaiagkfkckkpaaDoor
