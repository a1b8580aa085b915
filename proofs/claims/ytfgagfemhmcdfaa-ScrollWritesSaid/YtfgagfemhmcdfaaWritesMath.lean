/- ScrollWrites: what Items have for bytes; the store into bytes of the call's own. -/
import Derived.Test.YtfgagfemhmcdfaaWritesKit
import Derived.Test.YtfgagfemhmcdfaaLimits
namespace Go.Arm
def encItem (y : Itm) : List UInt8 := if y.d.toNat % 3 = 0 then encs y.ns else if y.d.toNat % 3 = 1 then encTexts y.ts else encVecs y.vs
def encItems (l : List Itm) : List UInt8 := l.flatMap encItem
/-- It is not too great. -/
def Fits (y : Itm) : Prop := y.ns.length ≤ 5 ∧ y.ts.length ≤ 4 ∧ (∀ t ∈ y.ts, t.length ≤ 40) ∧ y.vs.length ≤ 4 ∧ (∀ t ∈ y.vs, t.length ≤ 12)

theorem encItems_snoc (l : List Itm) (y : Itm) : encItems (l ++ [y]) = encItems l ++ encItem y := by simp [encItems]
theorem encItems_drop (l : List Itm) (i : Nat) (y : Itm) (h : l[i]? = some y) : encItems (l.drop i) = encItem y ++ encItems (l.drop (i + 1)) := by
  obtain ⟨h1, rfl⟩ := List.getElem?_eq_some_iff.1 h
  rw [List.drop_eq_getElem_cons h1]; rfl
theorem flat_drop {α : Type} (f : α → List UInt8) (l : List α) (i : Nat) (y : α) (h : l[i]? = some y) : (l.drop i).flatMap f = f y ++ (l.drop (i + 1)).flatMap f := by
  obtain ⟨h1, rfl⟩ := List.getElem?_eq_some_iff.1 h
  rw [List.drop_eq_getElem_cons h1]; rfl
end Go.Arm
namespace Go.Proofs.Ytfgagfemhmcdfaa
open Go Go.RowKit Go.Arm

theorem encItem_len (y : Itm) (h : Fits y) : (encItem y).length ≤ 600 := by
  obtain ⟨h1, h2, h3, h4, h5⟩ := h
  have a := encs_len y.ns
  have b := encTexts_len 40 (by decide) y.ts h3
  have c := encVecs_len 12 (by decide) y.vs h5
  unfold encItem
  split
  · omega
  · split <;> omega

/-- &x[i] of bytes of the call's own. -/
theorem idx_own {ops : Array Oper} {a : Act} {w : World} {rest : List Oper} {dst : Option Tmp} {ty : TypeId} {pos : String} {after : Array Edge} {Q : Exit → Act → World → Prop} {x i : Operand} {B : Nat} {l : List UInt8} (hx : OwnB w B l (a.eval x)) {k : IntKind} {n : Nat} (hi : a.eval i = .int k n) (hn : n < l.length)
    (h : ∀ g o y, l[n]? = some y → (a.eval x).ownBlock = some g → w.cell? ⟨g, o, none⟩ = some (.int .u8 (y.toNat : Int)) → w.frozen? ⟨g, o, none⟩ = false → (∀ y' : UInt8, OwnB (w.setCell ⟨g, o, none⟩ (.int .u8 (y'.toNat : Int))) B (l.set n y') (a.eval x)) → wpList Try.prog ops Q rest (a.put dst (.pointer (some ⟨g, o, none⟩))) w) :
    wpList Try.prog ops Q (⟨dst, .indexAddr 24 x i, ty, pos, after, none⟩ :: rest) a w := by
  obtain ⟨g, o, y, h1, h2, h3, h4, h5, h6⟩ := hx.at (P := Try.prog) rowB n hn
  have hrun := h3 k w
  refine wpList_plain rfl fun K hK => ?_
  unfold Oper.wp
  simp only [execOp, hi, Sem.run_bind, hrun, Result.andThen_ok, Sem.run_pure]
  exact hK _ _ (h g o y h1 h2 h4 h5 h6)

theorem Ws.stay {w0 w w' : World} {g : Nat} {h : Option Nat} {F1 F2 : List UInt8} {want allv : Value} {L : List Itm} {T F : Nat → Prop} (s : Ws w0 w g h F1 want F2 allv L T) (ho : Only F w w') (h0 : ∀ k, F k → w0.heap.size ≤ k) (hg : ¬ F g) (hh : ∀ b, h = some b → ¬ F b) (hw : ∀ b, want.ownBlock = some b → ¬ F b) (ha : ∀ b, allv.ownBlock = some b → ¬ F b) (hT : ∀ b, T b → ¬ F b) : Ws w0 w' g h F1 want F2 allv L T :=
  ⟨below_only s.below ho h0, s.wf.only ho hg hh, s.wnt.only ho hw, s.all.keep (fun b ht hlt => ⟨ho.block b hlt (hT b ht), ht⟩) (fun b hb => ho.block b (s.alt b hb) (ha b hb)), fun b ht => Nat.lt_of_lt_of_le (s.tlt b ht) ho.size, s.tg, s.th, s.tw, s.ta, s.hw, s.ha, s.wa, s.gw, s.ga⟩

theorem Ws.start (w0 : World) : Ws w0 (w0.alloc (.cells #[.slice none 0 0] 27)) w0.heap.size none [] (.slice none 0 0) [] (.slice none 0 0) [] (fun _ => False) :=
  ⟨(Below.refl w0.heap.size w0).alloc (Nat.le_refl _) _, Wf.fresh (Nat.le_refl _), Own.nil _ _ _ _, Own.nil _ _ _ _, fun _ h => h.elim, fun _ h => h.elim, fun _ h => h.elim, fun _ h => h.elim, fun _ h => h.elim, by simp, by simp, by simp [Value.ownBlock], by simp [Value.ownBlock], by simp [Value.ownBlock]⟩
end Go.Proofs.Ytfgagfemhmcdfaa
