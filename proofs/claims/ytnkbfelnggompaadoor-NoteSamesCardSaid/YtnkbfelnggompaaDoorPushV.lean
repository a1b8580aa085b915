/- Rows of the call's own whose elements lie in blocks of the call's own; append of a slice to such a row; numbers to numbers. -/
import Derived.Test.YtnkbfelnggompaaDoorVecs
namespace Go.Arm
open Go.RowKit

/-- A row of the call's own whose elements lie in other blocks of the call's own. -/
def OwnG {α : Type} [Rep α] (w : World) (B : Nat) (e : TypeId) (l : List α) (v : Value) : Prop := Own w B e (fun b => B ≤ b ∧ b < w.heap.size ∧ v.ownBlock ≠ some b) l v

theorem OwnG.nil {α : Type} [Rep α] (w : World) (B : Nat) (e : TypeId) : OwnG w B e ([] : List α) (.slice none 0 0) := Own.nil _ _ _ _
theorem OwnG.ge {α : Type} [Rep α] {w : World} {B : Nat} {e : TypeId} {l : List α} {v : Value} (h : OwnG w B e l v) : ∀ b, v.ownBlock = some b → B ≤ b ∧ b < w.heap.size := Own.ge h
theorem OwnG.below {α : Type} [Rep α] {w w' : World} {B : Nat} {e : TypeId} {l : List α} {v : Value} (h : OwnG w B e l v) {C : Nat} (hb : Below C w w') (hC : w.heap.size ≤ C) : OwnG w' B e l v :=
  Own.keep h (fun b hb' hlt => ⟨hb.block b (by omega), hb'.1, by have := hb.size; omega, hb'.2.2⟩) fun b hv => hb.block b (by have := h.ge b hv; omega)
theorem OwnG.grown0 {α : Type} [Rep α] {w w' : World} {B : Nat} {e : TypeId} {l : List α} {v : Value} (h : OwnG w B e l v) (hg : w.grownBy w' none) : OwnG w' B e l v :=
  h.below (below_of_grown hg (Nat.le_refl _) (by simp)) (Nat.le_refl _)
theorem OwnG.sl {α : Type} [Rep α] {w : World} {B : Nat} {e : TypeId} {l : List α} {v : Value} (h : OwnG w B e l v) : Sl w (fun b => B ≤ b ∧ b < w.heap.size) l v :=
  Own.sl h (fun _ h _ => ⟨h.1, h.2.1⟩) fun b hb => h.ge b hb

theorem wpList_appendG {P : Program} {ops : Array Oper} {Q : Exit → Act → World → Prop} {a : Act} {w : World} {rest : List Oper} {dst : Option Tmp} {ty : TypeId} {pos : String} {after : Array Edge}
    {α : Type} [Rep α] {s x : Operand} {t e : TypeId} {z : Value} {bytes : Nat} {B : Nat} {S' : Nat → Prop} {l m : List α} (hr : Row P t e z (Rep.sz α) bytes) (hz : z.cells.size = Rep.sz α) (hsz : 0 < Rep.sz α)
    (hs : OwnG w B e l (a.eval s)) (hx : Sl w S' m (a.eval x)) (hS : ∀ b, S' b → b < w.heap.size → B ≤ b ∧ (a.eval s).ownBlock ≠ some b)
    (h63 : l.length + m.length ≤ maxLen) (hbytes : (l.length + m.length) * bytes ≤ 140737488355328) (hB : B ≤ w.heap.size)
    (h : ∀ v' w', OwnG w' B e (l ++ m) v' → w.grownBy w' (a.eval s).ownBlock → (v'.ownBlock = (a.eval s).ownBlock ∨ ∃ g, v'.ownBlock = some g ∧ w.heap.size ≤ g) → wpList P ops Q rest (a.put dst v') w') :
    wpList P ops Q (⟨dst, .call ⟨.builtin .append, #[s, x], #[t, t]⟩, ty, pos, after, none⟩ :: rest) a w := by
  refine wpList_append hr hz hsz hs hx (fun y cs hy => rds_keep hy fun b hb hlt => ⟨rfl, (hS b hb hlt).1, hlt, (hS b hb hlt).2⟩) (fun b hb _ => hb.2.2) h63 hbytes hB fun v' w' h1 h2 h3 => ?_
  refine h v' w' ?_ h2 h3
  refine Own.keep h1 (fun b hb hlt => ⟨rfl, hb.1, hlt, ?_⟩) fun b _ => rfl
  rcases h3 with h3 | ⟨g, h3, h4⟩
  · rw [h3]; exact hb.2.2
  · rw [h3]; intro e; have := hb.2.1; cases e; omega

/-- append(s, u): the slice literal of one element, then the append; whatever the elements' type. -/
theorem push_G {P : Program} {ops : Array Oper} {Q : Exit → Act → World → Prop} {a : Act} {w : World} {rest : List Oper} {dst : Option Tmp} {ty : TypeId} {pos : String} {after : Array Edge}
    {β : Type} [Rep β] {t e : TypeId} (hr : Row P t e (.slice none 0 0) 1 24) {s x : Operand} {i : Tmp} {B : Nat} {S : Nat → Prop} {l : List (List β)} {y : List β} {ty2 : TypeId} {pos2 : String} {after2 : Array Edge}
    (hs : OwnG w B e l (a.eval s)) (hsi : ∀ v, (a.put (some i) v).eval s = a.eval s) (hi : ∀ v, (a.put (some i) v).eval (.tmp i) = v) (hx : Sl w S y (a.eval x)) (hS : ∀ b, S b → b < w.heap.size → B ≤ b ∧ (a.eval s).ownBlock ≠ some b)
    (hl : (l.length + 1) * 24 ≤ 140737488355328) (hB : B ≤ w.heap.size)
    (h : ∀ u v' w', OwnG w' B e (l ++ [y]) v' → w.grownBy w' (a.eval s).ownBlock → (v'.ownBlock = (a.eval s).ownBlock ∨ ∃ g, v'.ownBlock = some g ∧ w.heap.size ≤ g) → wpList P ops Q rest ((a.put (some i) u).put dst v') w') :
    wpList P ops Q (⟨some i, .buildSlice t 1 #[(0, x)], ty, pos, after, none⟩ :: ⟨dst, .call ⟨.builtin .append, #[s, .tmp i], #[t, t]⟩, ty2, pos2, after2, none⟩ :: rest) a w := by
  refine wpList_build1 (α := List β) (S := S) hr rfl [y] [a.eval x] rfl rfl ⟨[a.eval x], [], rfl, ⟨_, rfl, hx⟩, rfl⟩ (by simp) fun u w1 h1 h2 h3 h4 => ?_
  have hsl : Sl w1 (fun b => (b < w.heap.size ∧ S b) ∨ w.heap.size ≤ b) [y] u := by
    refine (Own.keep (S' := fun b => b < w.heap.size ∧ S b ∨ w.heap.size ≤ b) h1 (fun b hb hlt => ⟨rfl, ?_⟩) (fun _ _ => rfl)).sl (fun b h _ => h) fun b hb => .inr (h1.ge b hb).1
    rcases Nat.lt_or_ge b w.heap.size with h | h
    · exact .inl ⟨h, hb⟩
    · exact .inr h
  refine wpList_appendG (z := .slice none 0 0) hr rfl (by show 0 < 1; decide) (B := B) (l := l) (m := [y]) (by rw [hsi]; exact hs.grown0 h2) (by rw [hi]; exact hsl) ?_ ?_ (by simpa using hl) (by omega) fun v' w2 g1 g2 g3 => ?_
  · rintro b (⟨h5, h6⟩ | h5) h7
    · rw [hsi]; exact hS b h6 h5
    · rw [hsi]; exact ⟨by omega, by intro e; have := (hs.ge b e).2; omega⟩
  · simp only [maxLen, List.length_cons, List.length_nil]; omega
  · rw [hsi] at g2 g3
    refine h u v' w2 g1 ⟨g2.os.trans h2.os, g2.tape.trans h2.tape, g2.output.trans h2.output, Nat.le_trans h2.size g2.size, fun k hk hne => (g2.block k (by omega) hne).trans (h2.block k hk (by simp))⟩ ?_
    rcases g3 with g3 | ⟨g, g3, g4⟩
    · exact .inl g3
    · exact .inr ⟨g, g3, by omega⟩
end Go.Arm
namespace Go.Proofs.YtnkbfelnggompaaDoor
open Go Go.RowKit Go.Arm
theorem rds_N2 {w w' : World} {S S' : Nat → Prop} : ∀ {l : List UInt64} {cs : List Value}, rds w S l cs → rds w' S' l cs
  | [], _, h => h
  | _ :: _, _, h => by
    obtain ⟨c, d, rfl, h1, h2⟩ := h
    exact ⟨c, d, rfl, h1, rds_N2 h2⟩
/-- append(s, x...) of numbers to a row of the call's own. -/
theorem app_N {ops : Array Oper} {a : Act} {w : World} {rest : List Oper} {dst : Option Tmp} {ty : TypeId} {pos : String} {after : Array Edge} {Q : Exit → Act → World → Prop} {s x : Operand} {B : Nat} {S : Nat → Prop} {l m : List UInt64} (hs : Own w B 23 (fun _ => False) l (a.eval s)) (hx : Sl w S m (a.eval x))
    (hl : l.length + m.length ≤ 17592186044416) (hB : B ≤ w.heap.size)
    (h : ∀ v' w', Own w' B 23 (fun _ => False) (l ++ m) v' → w.grownBy w' (a.eval s).ownBlock → (v'.ownBlock = (a.eval s).ownBlock ∨ ∃ g, v'.ownBlock = some g ∧ w.heap.size ≤ g) → wpList Tryd.prog ops Q rest (a.put dst v') w') :
    wpList Tryd.prog ops Q (⟨dst, .call ⟨.builtin .append, #[s, x], #[127, 127]⟩, ty, pos, after, none⟩ :: rest) a w :=
  wpList_append rowN rfl (by decide) hs hx (fun _ _ h => rds_N2 h) (fun _ h => h.elim) (by simp only [maxLen]; omega) (by omega) hB h
end Go.Proofs.YtnkbfelnggompaaDoor
