/- The laws of the walk, at one step of a region that draws its order. -/
import Derived.Test.YtnkbfelnggompaaDoorKit
import Derived.Deep.RegionLaw
namespace Go.Arm
open Go.RowKit

theorem wp_of_list {P : Program} {o : Oper} {a : Act} {w : World} {K : Act → World → Prop} {Q : Exit → Act → World → Prop} (hg : o.guard = none) (R : Act → World → Prop)
    (h : ∀ ops' (Q' : Exit → Act → World → Prop), (∀ a' w', R a' w' → Q' .normal a' w') → wpList P ops' Q' [o] a w) (hK : ∀ a' w', R a' w' → K a' w') : o.wp P a w K Q := by
  have h0 := h #[] (fun e a' w' => match e with | .normal => R a' w' | _ => False) fun _ _ h => h
  have hw : Region.wanted o (yielded #[] a.tmps) = true := by simp [Region.wanted, hg]
  simp only [wpList, hw, if_true] at h0
  rcases h0 with h0 | ⟨_, _, _, hf⟩
  · unfold Oper.wp at *
    generalize (execOp a.eval o).run P w = r at *
    cases r with
    | ok n w' =>
      cases n <;> simp only [Oper.upon] at h0 ⊢ <;>
        first
          | exact hK _ _ h0
          | exact Calls.mono h0 (fun e w'' he => by cases e <;> first | exact hK _ _ he | exact he.elim | exact (by obtain ⟨_, _, hf⟩ := he; exact hf.elim))
          | exact Rows.mono h0 (fun _ _ he => hK _ _ he)
    | halt x w' => cases x <;> simp only [Oper.upon] at h0 ⊢ <;> first | exact h0.elim | exact h0
  · exact hf.elim

theorem step_of_list {P : Program} {ops : Array Oper} {o : Oper} {a : Act} {w : World} {K : Act → World → Prop} {Q : Exit → Act → World → Prop} {E : Prop} (hg : o.guard = none) (R : Act → World → Prop)
    (h : ∀ ops' (Q' : Exit → Act → World → Prop), (∀ a' w', R a' w' → Q' .normal a' w') → wpList P ops' Q' [o] a w) (hK : ∀ a' w', R a' w' → K a' w') :
    if Region.wanted o (yielded ops a.tmps) = true then Oper.wp P o a w K Q else E := by
  have hw : Region.wanted o (yielded ops a.tmps) = true := by simp [Region.wanted, hg]
  rw [if_pos hw]
  exact wp_of_list hg R h hK
end Go.Arm
namespace Go.Proofs.YtnkbfelnggompaaDoor
open Go Go.RowKit Go.Arm

/-- append(s, x...) of [][]byte, as a step. -/
theorem step_app_BB {ops : Array Oper} {a : Act} {w : World} {dst : Option Tmp} {ty : TypeId} {pos : String} {after : Array Edge} {K : Act → World → Prop} {Q : Exit → Act → World → Prop} {E : Prop}
    {s x : Operand} {B : Nat} {S' : Nat → Prop} {l m : List (List UInt8)} (hs : OwnBB w B l (a.eval s)) (hx : Sl w S' m (a.eval x)) (hS : ∀ b, S' b → b < w.heap.size → (a.eval s).ownBlock ≠ some b)
    (hl : (l.length + m.length) * 24 ≤ 140737488355328) (hB : B ≤ w.heap.size)
    (h : ∀ v' w', OwnBB w' B (l ++ m) v' → w.grownBy w' (a.eval s).ownBlock → K (a.put dst v') w') :
    if Region.wanted ⟨dst, .call ⟨.builtin .append, #[s, x], #[130, 130]⟩, ty, pos, after, none⟩ (yielded ops a.tmps) = true then
      Oper.wp Tryd.prog ⟨dst, .call ⟨.builtin .append, #[s, x], #[130, 130]⟩, ty, pos, after, none⟩ a w K Q else E :=
  step_of_list rfl (fun a' w' => ∃ v', a' = a.put dst v' ∧ OwnBB w' B (l ++ m) v' ∧ w.grownBy w' (a.eval s).ownBlock)
    (fun _ _ hQ => app_BB hs hx hS hl hB fun v' _ g1 g2 _ => hQ _ _ ⟨v', rfl, g1, g2⟩)
    fun _ _ ⟨v', e, g1, g2⟩ => e ▸ h v' _ g1 g2
end Go.Proofs.YtnkbfelnggompaaDoor
