/- Writers and Readers that a law has made: what its calls may touch. -/
import Derived.Test.YtnkbfelnggompaaDoorWriter2
import Derived.Test.YtnkbfelnggompaaDoorReader4
namespace Go.Proofs.YtnkbfelnggompaaDoor
open Go Go.RowKit Go.Arm

/-- A Writer that was made behind w0. -/
structure Wf (w0 w : World) (g : Nat) (h : Option Nat) (l : List UInt8) : Prop where
  wr : Wr w g h l
  ge : w0.heap.size ≤ g
  row : ∀ k, h = some k → w0.heap.size ≤ k

theorem Wf.fresh {w0 w : World} (h : w0.heap.size ≤ w.heap.size) : Wf w0 (w.alloc (.cells #[.slice none 0 0] 97)) w.heap.size none [] :=
  ⟨⟨_, heap_alloc_new w _, Own.nil _ _ _ _, rfl, by simp⟩, h, by simp⟩

theorem Wf.step {w0 w w' : World} {g : Nat} {h h' : Option Nat} {l l' : List UInt8} (a : Wf w0 w g h l) (hw : Wr w' g h' l') (hm : Mv w w' g h h') : Wf w0 w' g h' l' := by
  refine ⟨hw, a.ge, fun k hk => ?_⟩
  have h2 := a.ge
  have h3 := a.wr.lt
  rcases hm.1 with e | ⟨j, e, hj⟩
  · exact a.row k (e.symm.trans hk)
  · rw [hk] at e; cases e; omega

theorem Wf.below {w0 w w' : World} {g : Nat} {h h' : Option Nat} {l : List UInt8} (a : Wf w0 w g h l) (hb : Below w0.heap.size w0 w) (hm : Mv w w' g h h') : Below w0.heap.size w0 w' := by
  refine hb.trans (hm.2.below hb.size ?_)
  rintro k (rfl | hk)
  · exact a.ge
  · exact a.row k hk

/-- What else was there is as it was. -/
theorem Wf.keep {w0 w w' : World} {g : Nat} {h : Option Nat} {l : List UInt8} (a : Wf w0 w g h l) (hb : Below w.heap.size w w') : Wf w0 w' g h l :=
  ⟨a.wr.only (Only.of_below hb) (by have := a.wr.lt; omega) (fun k hk => by have := a.wr.row_lt k hk; omega), a.ge, a.row⟩
theorem Wf.only {w0 w w' : World} {F : Nat → Prop} {g : Nat} {h : Option Nat} {l : List UInt8} (a : Wf w0 w g h l) (ho : Only F w w') (h1 : ¬ F g) (h2 : ∀ k, h = some k → ¬ F k) : Wf w0 w' g h l :=
  ⟨a.wr.only ho h1 h2, a.ge, a.row⟩

theorem below_on {B C : Nat} {w0 w w' : World} (h : Below B w0 w) (h2 : Below C w w') (hC : B ≤ C) : Below B w0 w' :=
  h.trans ⟨h2.os, h2.tape, h2.output, h2.size, fun k hk => h2.block k (by omega)⟩

theorem below_only {w0 w w' : World} {F : Nat → Prop} (hb : Below w0.heap.size w0 w) (ho : Only F w w') (hF : ∀ k, F k → w0.heap.size ≤ k) : Below w0.heap.size w0 w' := hb.trans (ho.below hb.size hF)

theorem Rd.old {w : World} {g : Nat} {S : Nat → Prop} {l : List UInt8} {e : Int} (h : Rd w g S l e) : Rd w g (fun b => S b ∧ b < w.heap.size) l e := by
  obtain ⟨v, h1, h2, h3⟩ := h
  exact ⟨v, h1, h2.wide fun b h1 h2 => ⟨h1, h2⟩, fun h => h3 h.1⟩

theorem build_flat {w w' : World} {B : Nat} {e : TypeId} {α : Type} [Rep α] {l : List α} {v : Value} (h : Own w' B e (fun _ => False) l v) (hv : v.ownBlock = some w.heap.size) : Sl w' (· = w.heap.size) l v :=
  h.sl (fun _ h _ => h.elim) fun b hb => by rw [hv] at hb; exact (Option.some.inj hb).symm
end Go.Proofs.YtnkbfelnggompaaDoor
