/- A Writer in memory; what a call that writes into it may touch. -/
import Derived.Test.YtnkbfelnggompaaDoorKit
import Derived.Test.YtnkbfelnggompaaDoorScSpec
namespace Go.Arm
open Go.RowKit

/-- Blocks outside F are as they were. -/
structure Only (F : Nat → Prop) (w w' : World) : Prop where
  os : w'.os = w.os
  tape : w'.tape = w.tape
  output : w'.output = w.output
  size : w.heap.size ≤ w'.heap.size
  block : ∀ k, k < w.heap.size → ¬ F k → w'.heap[k]? = w.heap[k]?

theorem Only.refl (F : Nat → Prop) (w : World) : Only F w w := ⟨rfl, rfl, rfl, Nat.le_refl _, fun _ _ _ => rfl⟩
theorem Only.trans {F G : Nat → Prop} {w w1 w2 : World} (h1 : Only F w w1) (h2 : Only G w1 w2) (hG : ∀ k, k < w.heap.size → G k → F k) : Only F w w2 :=
  ⟨h2.os.trans h1.os, h2.tape.trans h1.tape, h2.output.trans h1.output, Nat.le_trans h1.size h2.size, fun k hk hf => (h2.block k (Nat.lt_of_lt_of_le hk h1.size) (fun hg => hf (hG k hk hg))).trans (h1.block k hk hf)⟩
theorem Only.of_grown {w w' : World} {row : Option Nat} (h : w.grownBy w' row) : Only (fun k => row = some k) w w' := ⟨h.os, h.tape, h.output, h.size, fun k hk hf => h.block k hk (fun e => hf e.symm)⟩
theorem Only.of_below {w w' : World} {B : Nat} (h : Below B w w') : Only (fun k => B ≤ k) w w' := ⟨h.os, h.tape, h.output, h.size, fun k _ hf => h.block k (by omega)⟩
theorem Only.of_set (w : World) (a : Addr) (v : Value) : Only (fun k => k = a.block) w (w.setCell a v) :=
  ⟨rfl, rfl, rfl, by simp [World.setCell], fun k _ hf => by simp [World.setCell, Array.getElem?_modify, Ne.symm hf]⟩
theorem Only.below {F : Nat → Prop} {w w' : World} (h : Only F w w') {B : Nat} (hB : B ≤ w.heap.size) (hF : ∀ k, F k → B ≤ k) : Below B w w' :=
  ⟨h.os, h.tape, h.output, h.size, fun k hk => h.block k (by omega) (fun hf => by have := hF k hf; omega)⟩
theorem Only.mono {F G : Nat → Prop} {w w' : World} (h : Only F w w') (hF : ∀ k, k < w.heap.size → F k → G k) : Only G w w' :=
  ⟨h.os, h.tape, h.output, h.size, fun k hk hg => h.block k hk (fun hf => hg (hF k hk hf))⟩

theorem Sl.only {α : Type} [Rep α] {F S : Nat → Prop} {w w' : World} {l : List α} {v : Value} (h : Sl w S l v) (ho : Only F w w') (hS : ∀ b, S b → b < w.heap.size → ¬ F b) : Sl w' S l v :=
  h.keep fun b hb hlt => ⟨ho.block b hlt (hS b hb hlt), hb⟩
theorem Own.only {α : Type} [Rep α] {F : Nat → Prop} {w w' : World} {B : Nat} {e : TypeId} {l : List α} {v : Value} (h : Own w B e (fun _ => False) l v) (ho : Only F w w') (hv : ∀ b, v.ownBlock = some b → ¬ F b) : Own w' B e (fun _ => False) l v :=
  h.keep (fun _ h => h.elim) fun b hb => ho.block b (h.ge b hb).2 (hv b hb)
theorem Own.shape {α : Type} [Rep α] {w : World} {B : Nat} {e : TypeId} {S : Nat → Prop} {l : List α} {v : Value} (h : Own w B e S l v) : ∃ ao n cap, v = .slice ao n cap := by
  obtain ⟨cs, _, ⟨rfl, _⟩ | ⟨g, o, cap, cur, rfl, _⟩⟩ := h
  · exact ⟨_, _, _, rfl⟩
  · exact ⟨_, _, _, rfl⟩
theorem Sl.shape {α : Type} [Rep α] {w : World} {S : Nat → Prop} {l : List α} {v : Value} (h : Sl w S l v) : ∃ ao n cap, v = .slice ao n cap := by
  obtain ⟨ao, cap, cs, rfl, _⟩ := h
  exact ⟨_, _, _, rfl⟩
end Go.Arm
namespace Go.Proofs.YtnkbfelnggompaaDoor
open Go Go.RowKit Go.Arm

/-- Block g holds a Writer; h is the block of its bytes; they read as l. -/
def Wr (w : World) (g : Nat) (h : Option Nat) (l : List UInt8) : Prop :=
  ∃ v, w.heap[g]? = some (.cells #[v] 97 (0, 0)) ∧ OwnB w 0 l v ∧ v.ownBlock = h ∧ h ≠ some g

/-- What a call that writes into it may have touched, and where the bytes lie now. -/
def Mv (w w' : World) (g : Nat) (h h' : Option Nat) : Prop := (h' = h ∨ ∃ k, h' = some k ∧ w.heap.size ≤ k) ∧ Only (fun k => k = g ∨ h = some k) w w'

theorem Mv.refl (w : World) (g : Nat) (h : Option Nat) : Mv w w g h h := ⟨.inl rfl, Only.refl _ _⟩
theorem Mv.trans {w w1 w2 : World} {g : Nat} {h h1 h2 : Option Nat} (a : Mv w w1 g h h1) (b : Mv w1 w2 g h1 h2) : Mv w w2 g h h2 := by
  obtain ⟨a1, a2⟩ := a
  obtain ⟨b1, b2⟩ := b
  refine ⟨?_, a2.trans b2 ?_⟩
  · rcases b1 with rfl | ⟨k, rfl, hk⟩
    · exact a1
    · exact .inr ⟨k, rfl, Nat.le_trans a2.size hk⟩
  · rintro k hk (rfl | hk2)
    · exact .inl rfl
    · rcases a1 with rfl | ⟨j, rfl, hj⟩
      · exact .inr hk2
      · cases hk2; omega

theorem Wr.lt {w : World} {g : Nat} {h : Option Nat} {l : List UInt8} (a : Wr w g h l) : g < w.heap.size := by
  obtain ⟨v, h1, _⟩ := a
  exact (Array.getElem?_eq_some_iff.1 h1).1

theorem Wr.row_lt {w : World} {g : Nat} {h : Option Nat} {l : List UInt8} (a : Wr w g h l) : ∀ k, h = some k → k < w.heap.size := by
  obtain ⟨v, _, h2, h3, _⟩ := a
  intro k hk
  exact (h2.ge k (h3.trans hk)).2

theorem Wr.only {w w' : World} {F : Nat → Prop} {g : Nat} {h : Option Nat} {l : List UInt8} (a : Wr w g h l) (ho : Only F w w') (h1 : ¬ F g) (h2 : ∀ k, h = some k → ¬ F k) : Wr w' g h l := by
  have hlt := a.lt
  obtain ⟨v, a1, a2, a3, a4⟩ := a
  exact ⟨v, by rw [ho.block g hlt h1]; exact a1, a2.only ho (fun b hb => h2 b (a3.symm.trans hb)), a3, a4⟩

/-- A row of bytes behind it has grown, and its slice is stored anew. -/
theorem Wr.stored {w w1 : World} {g : Nat} {h : Option Nat} {m : List UInt8} {v v' : Value} (a1 : w.heap[g]? = some (.cells #[v] 97 (0, 0))) (a4 : h ≠ some g)
    (hg : w.grownBy w1 h) (ho : OwnB w1 0 m v') (hv : v'.ownBlock = h ∨ ∃ k, v'.ownBlock = some k ∧ w.heap.size ≤ k) :
    Wr (w1.setCell ⟨g, 0, none⟩ v') g v'.ownBlock m ∧ Mv w (w1.setCell ⟨g, 0, none⟩ v') g h v'.ownBlock := by
  have hlt := (Array.getElem?_eq_some_iff.1 a1).1
  have hne : v'.ownBlock ≠ some g := by
    rcases hv with hv | ⟨k, hv, hk⟩
    · rw [hv]; exact a4
    · rw [hv]; intro e; cases e; omega
  have e1 : w1.heap[g]? = some (.cells #[v] 97 (0, 0)) := by rw [hg.block g hlt (fun e => a4 e.symm)]; exact a1
  have hs := Only.of_set w1 ⟨g, 0, none⟩ v'
  refine ⟨⟨v', ?_, ho.only hs (fun b hb e => hne (by rw [hb, e])), rfl, hne⟩, hv, ?_⟩
  · simp [World.setCell, Array.getElem?_modify, e1]
  · exact ((Only.of_grown hg).mono fun k _ e => .inr e).trans hs fun k _ e => .inl e
end Go.Proofs.YtnkbfelnggompaaDoor
