/- PackE: several texts in one. -/
import Derived.Test.YtjkffjngamagkaaDoorNoteBox
import Derived.Test.YtjkffjngamagkaaDoorPackA
import Derived.Deep.RegionLaw
import Derived.OrdersHeld
import Derived.Test.YtjkffjngamagkaaDoorNotePk
import Derived.Laws.Rows
import Derived.Laws.Tables
import Derived.Laws.CopyRow
/- The reference's note in a block of its own. -/
namespace Go.Proofs.YtjkffjngamagkaaDoor
open Go Go.RowKit Go.Arm
def RBox (w : World) (b : Nat) (n : NoteR) (vp vo vv vh : Value) : Prop := w.heap[b]? = some (.cells #[.int .u8 (n.kind.toNat : Int), .int .u64 (n.txn.toNat : Int), .int .u64 (n.batch.toNat : Int), .int .u64 (n.stamp.toNat : Int), .int .u64 (n.after.toNat : Int), .int .u64 (n.mark.toNat : Int), .int .u64 (n.query.toNat : Int), .int .u64 (n.id.toNat : Int), .int .i64 n.k, .int .i64 n.ef, .int .i64 n.code, .int .i64 n.who, vp, vo, vv, vh] 36)
theorem RBox.new (w : World) (n : NoteR) (vp vo vv vh : Value) : RBox (w.alloc (.cells #[.int .u8 (n.kind.toNat : Int), .int .u64 (n.txn.toNat : Int), .int .u64 (n.batch.toNat : Int), .int .u64 (n.stamp.toNat : Int), .int .u64 (n.after.toNat : Int), .int .u64 (n.mark.toNat : Int), .int .u64 (n.query.toNat : Int), .int .u64 (n.id.toNat : Int), .int .i64 n.k, .int .i64 n.ef, .int .i64 n.code, .int .i64 n.who, vp, vo, vv, vh] 36)) w.heap.size n vp vo vv vh := heap_alloc_new w _
theorem RBox.lt {w : World} {b : Nat} {n : NoteR} {vp vo vv vh : Value} (h : RBox w b n vp vo vv vh) : b < w.heap.size := (Array.getElem?_eq_some_iff.1 h).1
theorem RBox.below {w w' : World} {b : Nat} {n : NoteR} {vp vo vv vh : Value} (h : RBox w b n vp vo vv vh) {B : Nat} (hb : Below B w w') (hB : b < B) : RBox w' b n vp vo vv vh := (hb.block b hB).trans h
theorem RBox.only {w w' : World} {b : Nat} {n : NoteR} {vp vo vv vh : Value} (h : RBox w b n vp vo vv vh) {G : Nat → Prop} (ho : Only G w w') (hG : ¬ G b) : RBox w' b n vp vo vv vh := (ho.block b h.lt hG).trans h
theorem RBox.cells {w : World} {b : Nat} {n : NoteR} {vp vo vv vh : Value} (h : RBox w b n vp vo vv vh) : w.cell? ⟨b, 0, none⟩ = some (.int .u8 (n.kind.toNat : Int)) ∧ w.cell? ⟨b, 1, none⟩ = some (.int .u64 (n.txn.toNat : Int)) ∧ w.cell? ⟨b, 2, none⟩ = some (.int .u64 (n.batch.toNat : Int)) ∧ w.cell? ⟨b, 3, none⟩ = some (.int .u64 (n.stamp.toNat : Int)) ∧ w.cell? ⟨b, 4, none⟩ = some (.int .u64 (n.after.toNat : Int)) ∧ w.cell? ⟨b, 5, none⟩ = some (.int .u64 (n.mark.toNat : Int)) ∧ w.cell? ⟨b, 6, none⟩ = some (.int .u64 (n.query.toNat : Int)) ∧ w.cell? ⟨b, 7, none⟩ = some (.int .u64 (n.id.toNat : Int)) ∧ w.cell? ⟨b, 8, none⟩ = some (.int .i64 n.k) ∧ w.cell? ⟨b, 9, none⟩ = some (.int .i64 n.ef) ∧ w.cell? ⟨b, 10, none⟩ = some (.int .i64 n.code) ∧ w.cell? ⟨b, 11, none⟩ = some (.int .i64 n.who) ∧ w.cell? ⟨b, 12, none⟩ = some vp ∧ w.cell? ⟨b, 13, none⟩ = some vo ∧ w.cell? ⟨b, 14, none⟩ = some vv ∧ w.cell? ⟨b, 15, none⟩ = some vh := by
 have e : w.heap[b]? = some (.cells #[.int .u8 (n.kind.toNat : Int), .int .u64 (n.txn.toNat : Int), .int .u64 (n.batch.toNat : Int), .int .u64 (n.stamp.toNat : Int), .int .u64 (n.after.toNat : Int), .int .u64 (n.mark.toNat : Int), .int .u64 (n.query.toNat : Int), .int .u64 (n.id.toNat : Int), .int .i64 n.k, .int .i64 n.ef, .int .i64 n.code, .int .i64 n.who, vp, vo, vv, vh] 36) := h
 refine ⟨?_, ?_, ?_, ?_, ?_, ?_, ?_, ?_, ?_, ?_, ?_, ?_, ?_, ?_, ?_, ?_⟩ <;> simp [World.cell?, e]
theorem RBox.c0 {w : World} {b : Nat} {n : NoteR} {vp vo vv vh : Value} (h : RBox w b n vp vo vv vh) : w.cell? ⟨b, 0, none⟩ = some (.int .u8 (n.kind.toNat : Int)) := h.cells.1
theorem RBox.c1 {w : World} {b : Nat} {n : NoteR} {vp vo vv vh : Value} (h : RBox w b n vp vo vv vh) : w.cell? ⟨b, 1, none⟩ = some (.int .u64 (n.txn.toNat : Int)) := h.cells.2.1
theorem RBox.c2 {w : World} {b : Nat} {n : NoteR} {vp vo vv vh : Value} (h : RBox w b n vp vo vv vh) : w.cell? ⟨b, 2, none⟩ = some (.int .u64 (n.batch.toNat : Int)) := h.cells.2.2.1
theorem RBox.c3 {w : World} {b : Nat} {n : NoteR} {vp vo vv vh : Value} (h : RBox w b n vp vo vv vh) : w.cell? ⟨b, 3, none⟩ = some (.int .u64 (n.stamp.toNat : Int)) := h.cells.2.2.2.1
theorem RBox.c4 {w : World} {b : Nat} {n : NoteR} {vp vo vv vh : Value} (h : RBox w b n vp vo vv vh) : w.cell? ⟨b, 4, none⟩ = some (.int .u64 (n.after.toNat : Int)) := h.cells.2.2.2.2.1
theorem RBox.c5 {w : World} {b : Nat} {n : NoteR} {vp vo vv vh : Value} (h : RBox w b n vp vo vv vh) : w.cell? ⟨b, 5, none⟩ = some (.int .u64 (n.mark.toNat : Int)) := h.cells.2.2.2.2.2.1
theorem RBox.c6 {w : World} {b : Nat} {n : NoteR} {vp vo vv vh : Value} (h : RBox w b n vp vo vv vh) : w.cell? ⟨b, 6, none⟩ = some (.int .u64 (n.query.toNat : Int)) := h.cells.2.2.2.2.2.2.1
theorem RBox.c7 {w : World} {b : Nat} {n : NoteR} {vp vo vv vh : Value} (h : RBox w b n vp vo vv vh) : w.cell? ⟨b, 7, none⟩ = some (.int .u64 (n.id.toNat : Int)) := h.cells.2.2.2.2.2.2.2.1
theorem RBox.c8 {w : World} {b : Nat} {n : NoteR} {vp vo vv vh : Value} (h : RBox w b n vp vo vv vh) : w.cell? ⟨b, 8, none⟩ = some (.int .i64 n.k) := h.cells.2.2.2.2.2.2.2.2.1
theorem RBox.c9 {w : World} {b : Nat} {n : NoteR} {vp vo vv vh : Value} (h : RBox w b n vp vo vv vh) : w.cell? ⟨b, 9, none⟩ = some (.int .i64 n.ef) := h.cells.2.2.2.2.2.2.2.2.2.1
theorem RBox.c10 {w : World} {b : Nat} {n : NoteR} {vp vo vv vh : Value} (h : RBox w b n vp vo vv vh) : w.cell? ⟨b, 10, none⟩ = some (.int .i64 n.code) := h.cells.2.2.2.2.2.2.2.2.2.2.1
theorem RBox.c11 {w : World} {b : Nat} {n : NoteR} {vp vo vv vh : Value} (h : RBox w b n vp vo vv vh) : w.cell? ⟨b, 11, none⟩ = some (.int .i64 n.who) := h.cells.2.2.2.2.2.2.2.2.2.2.2.1
theorem RBox.c12 {w : World} {b : Nat} {n : NoteR} {vp vo vv vh : Value} (h : RBox w b n vp vo vv vh) : w.cell? ⟨b, 12, none⟩ = some vp := h.cells.2.2.2.2.2.2.2.2.2.2.2.2.1
theorem RBox.c13 {w : World} {b : Nat} {n : NoteR} {vp vo vv vh : Value} (h : RBox w b n vp vo vv vh) : w.cell? ⟨b, 13, none⟩ = some vo := h.cells.2.2.2.2.2.2.2.2.2.2.2.2.2.1
theorem RBox.c14 {w : World} {b : Nat} {n : NoteR} {vp vo vv vh : Value} (h : RBox w b n vp vo vv vh) : w.cell? ⟨b, 14, none⟩ = some vv := h.cells.2.2.2.2.2.2.2.2.2.2.2.2.2.2.1
theorem RBox.c15 {w : World} {b : Nat} {n : NoteR} {vp vo vv vh : Value} (h : RBox w b n vp vo vv vh) : w.cell? ⟨b, 15, none⟩ = some vh := h.cells.2.2.2.2.2.2.2.2.2.2.2.2.2.2.2
theorem RBox.nums {w : World} {b : Nat} {n : NoteR} {vp vo vv vh : Value} (h : RBox w b n vp vo vv vh) : w.cell? ⟨b, 1, none⟩ = some (.int .u64 (n.txn.toNat : Int)) ∧ w.cell? ⟨b, 2, none⟩ = some (.int .u64 (n.batch.toNat : Int)) ∧ w.cell? ⟨b, 3, none⟩ = some (.int .u64 (n.stamp.toNat : Int)) ∧ w.cell? ⟨b, 4, none⟩ = some (.int .u64 (n.after.toNat : Int)) ∧ w.cell? ⟨b, 5, none⟩ = some (.int .u64 (n.mark.toNat : Int)) ∧ w.cell? ⟨b, 6, none⟩ = some (.int .u64 (n.query.toNat : Int)) ∧ w.cell? ⟨b, 7, none⟩ = some (.int .u64 (n.id.toNat : Int)) ∧ w.cell? ⟨b, 8, none⟩ = some (.int .i64 n.k) ∧ w.cell? ⟨b, 9, none⟩ = some (.int .i64 n.ef) ∧ w.cell? ⟨b, 10, none⟩ = some (.int .i64 n.code) ∧ w.cell? ⟨b, 11, none⟩ = some (.int .i64 n.who) := ⟨h.c1, h.c2, h.c3, h.c4, h.c5, h.c6, h.c7, h.c8, h.c9, h.c10, h.c11⟩
end Go.Proofs.YtjkffjngamagkaaDoor
/- The laws of the walk, at one step of a region that draws its order. -/
namespace Go.Arm
open Go.RowKit
theorem wp_of_list {P : Program} {o : Oper} {a : Act} {w : World} {K : Act → World → Prop} {Q : Exit → Act → World → Prop} (hg : o.guard = none) (R : Act → World → Prop)
  (h : ∀ ops' (Q' : Exit → Act → World → Prop), (∀ a' w', R a' w' → Q' .normal a' w') → wpList P ops' Q' [o] a w) (hK : ∀ a' w', R a' w' → K a' w') : o.wp P a w K Q := by
 have h0 := h #[] (fun e a' w' => match e with | .normal => R a' w' | _ => False) fun _ _ h => h
 have hw : Region.wanted o (yielded #[] a.tmps) = true := by simp [Region.wanted, hg]
 simp only [wpList, hw, if_true] at h0
 rcases h0 with h0 | ⟨_, _, _, hf⟩
 ·unfold Oper.wp at *
  generalize (execOp a.eval o).run P w = r at *
  cases r with
  | ok n w' =>
   cases n <;> simp only [Oper.upon] at h0 ⊢ <;>
    first
     | exact hK _ _ h0
     | exact Calls.mono h0 (fun e w'' he => by cases e <;> first | exact hK _ _ he | exact he.elim | exact (by obtain ⟨_, _, hf⟩ := he; exact hf.elim))
     | exact Rows.mono h0 (fun _ _ he => hK _ _ he)
  | halt x w' => cases x <;> simp only [Oper.upon] at h0 ⊢ <;> first | exact h0.elim | exact h0
 ·exact hf.elim
theorem step_of_list {P : Program} {ops : Array Oper} {o : Oper} {a : Act} {w : World} {K : Act → World → Prop} {Q : Exit → Act → World → Prop} {E : Prop} (hg : o.guard = none) (R : Act → World → Prop)
  (h : ∀ ops' (Q' : Exit → Act → World → Prop), (∀ a' w', R a' w' → Q' .normal a' w') → wpList P ops' Q' [o] a w) (hK : ∀ a' w', R a' w' → K a' w') :
  if Region.wanted o (yielded ops a.tmps) = true then Oper.wp P o a w K Q else E := by
 have hw : Region.wanted o (yielded ops a.tmps) = true := by simp [Region.wanted, hg]
 rw [if_pos hw]
 exact wp_of_list hg R h hK
end Go.Arm
namespace Go.Proofs.YtjkffjngamagkaaDoor
open Go Go.RowKit Go.Arm
end Go.Proofs.YtjkffjngamagkaaDoor
/- A region that draws its order, loads, calls, and at its end stores into a cell that it has loaded: one order. 'T' holds throughout; 'T2' till operation number d has come up. -/
namespace Go.Arm
open Go.RowKit
section
variable {P : Program} {ops : Array Oper} {Q : Exit → Act → World → Prop} {md : Region.Mode} {T T2 : World → Prop} {d : Nat}
def heldD (T : World → Prop) (d : Nat) (T2 : World → Prop) (L : Array Bool) (w : World) : Prop := T w ∧ (L.getD d false = false → T2 w)
def wpAnyD (P : Program) (md : Region.Mode) (ops : Array Oper) (Q : Exit → Act → World → Prop) (T : World → Prop) (d : Nat) (T2 : World → Prop) : Nat → Array Bool → Act → World → Prop
 | 0, listed, a, w => Region.ready md ops listed = [] ∧ Q .normal a w
 | fuel + 1, listed, a, w =>
  (Region.ready md ops listed = [] → Q .normal a w) ∧
  ∀ i ∈ Region.ready md ops listed, wpOp P ops Q i (fun a' w' => heldD T d T2 (listed.setIfInBounds i true) w' ∧ wpAnyD P md ops Q T d T2 fuel (listed.setIfInBounds i true) a' w') a w
theorem wpAny_of_D : ∀ (fuel : Nat) (listed : Array Bool) (a : Act) (w : World), wpAnyD P md ops Q T d T2 fuel listed a w → wpAny P md ops Q fuel listed a w
 | 0, _, _, _, h => h
 | fuel + 1, _, _, _, h => ⟨h.1, fun i hi => wpOp_mono (fun a' w' h' => wpAny_of_D fuel _ a' w' h'.2) (h.2 i hi)⟩
theorem wpAnyD_first {i : Nat} {oi : Oper} {v : Value} {S0 : World → Prop} {inv : Array Bool → Prop} (hi : ops[i]? = some oi) (hsel : ∀ (j : Nat) (o : Oper) cs b, ops[j]? = some o → o.op ≠ .select cs b)
  (hQ : ∀ c a w, Q (.panic c) (a.put oi.dst v) w → Q (.panic c) a w)
  (hinv : ∀ L j, inv L → L.getD i true = false → j ∈ Region.ready md ops L → j ≠ i → inv (L.setIfInBounds j true))
  (hget : ∀ L w, inv L → heldD T d T2 (L.setIfInBounds i true) w → S0 w) (hback : ∀ L w, inv L → heldD T d T2 (L.setIfInBounds i true) w → heldD T d T2 L w) :
  ∀ (fuel : Nat) (listed : Array Bool) (a : Act) (w : World),
   (∀ j oj, ops[j]? = some oj → j ≠ i → listed.getD j true = false → (∀ e ∈ oj.after, Region.binds md e = true → e.on ≠ i) → oi.apart ops oj = true) →
   i ∈ Region.ready md ops listed → inv listed → YieldsIf P ops S0 oi v a → S0 w → heldD T d T2 (listed.setIfInBounds i true) w →
   wpAnyD P md ops Q T d T2 fuel (listed.setIfInBounds i true) (a.put oi.dst v) w → wpAnyD P md ops Q T d T2 (fuel + 1) listed a w := by
 intro fuel
 induction fuel with
 | zero =>
  intro listed a w _ hr _ hy hS hh H
  refine ⟨fun h => (by rw [h] at hr; cases hr), fun j hj => ?_⟩
  by_cases hji : j = i
  ·subst hji; exact hy.wpOp hi hS ⟨hh, H⟩
  ·have := ready_mono hj hji
   rw [H.1] at this
   cases this
 | succ fuel ih =>
  intro listed a w hfree hr hv hy hS hh H
  refine ⟨fun h => (by rw [h] at hr; cases hr), fun j hj => ?_⟩
  by_cases hji : j = i
  ·subst hji; exact hy.wpOp hi hS ⟨hh, H⟩
  ·have h1 := H.2 j (ready_mono hj hji)
   obtain ⟨hjun, oj, hoj, hall⟩ := mem_ready.1 hj
   have hiun := (mem_ready.1 hr).1
   have hnot : ∀ e ∈ oj.after, Region.binds md e = true → e.on ≠ i := fun e he hb heq => by
    have h1 := hall e he hb
    rw [heq] at h1
    rcases Nat.lt_or_ge i listed.size with h' | h'
    ·simp [h'] at hiun h1; rw [hiun] at h1; cases h1
    ·simp [Array.getElem?_eq_none h'] at h1
   have h2 := wpOp_putIf hoj (hfree j oj hoj hji hjun hnot) (fun cs b => hsel i oi cs b hi) (fun cs b => hsel j oj cs b hoj) hQ hy h1
   have hfree' : ∀ k ok, ops[k]? = some ok → k ≠ i → (listed.setIfInBounds j true).getD k true = false →
     (∀ e ∈ ok.after, Region.binds md e = true → e.on ≠ i) → oi.apart ops ok = true := fun k ok hk hki hun hno => by
    refine hfree k ok hk hki ?_ hno
    by_cases hjk : j = k
    ·subst hjk; exact hjun
    ·rw [getD_set_ne true hjk] at hun; exact hun
   have hv' := hinv listed j hv hiun hj hji
   refine wpOp_mono (fun a' w' h3 => ?_) h2
   have h4 := h3.2.1
   rw [Array.setIfInBounds_comm _ _ (Ne.symm hji)] at h4
   refine ⟨hback _ _ hv' h4, ih (listed.setIfInBounds j true) a' w' hfree' (ready_mono hr (Ne.symm hji)) hv' h3.1 (hget _ _ hv' h4) h4 ?_⟩
   rw [Array.setIfInBounds_comm _ _ hji]
   exact h3.2.2
theorem getD_set_d {L : Array Bool} {i d : Nat} (h : L.getD d false = false) (hne : i ≠ d) : (L.setIfInBounds i true).getD d false = false := by
 rw [getD_set_ne false hne]; exact h
theorem heldD.back {L : Array Bool} {i : Nat} {w : World} (hne : i ≠ d) (h : heldD T d T2 (L.setIfInBounds i true) w) : heldD T d T2 L w :=
 ⟨h.1, fun e => h.2 (getD_set_d e hne)⟩
theorem wpAnyD_take {i : Nat} {oi : Oper} {v : Value} {dst : Option Tmp} {fuel : Nat} {listed : Array Bool} {a : Act} {w : World} (hi : ops[i]? = some oi) (hdst : oi.dst = dst) (hne : i ≠ d)
  (hs : Region.noSelect ops = true) (hf : Region.free md ops listed i = true) (hr : (Region.ready md ops listed).contains i = true)
  (hQ : ∀ c a w, Q (.panic c) (a.put dst v) w → Q (.panic c) a w) (hy : YieldsIf P ops T oi v a) (hT : T w) (hD : listed.getD d false = true ∨ T2 w)
  (h : wpAnyD P md ops Q T d T2 fuel (listed.setIfInBounds i true) (a.put dst v) w) : wpAnyD P md ops Q T d T2 (fuel + 1) listed a w := by
 subst hdst
 have hh : heldD T d T2 (listed.setIfInBounds i true) w := ⟨hT, fun e => by
  rw [getD_set_ne false hne] at e
  rcases hD with hD | hD
  ·rw [hD] at e; cases e
  ·exact hD⟩
 exact wpAnyD_first (S0 := T) (inv := fun _ => True) hi (Region.noSelect_spec hs) hQ (fun _ _ _ _ _ _ => trivial) (fun _ _ _ h => h.1) (fun _ _ _ h => h.back hne) fuel listed a w (Region.free_spec hi hf) (by simpa using hr) trivial hy hT hh h
theorem tkZ (i : Nat) (k : Tmp) (v : Value) {oi : Oper} {fuel : Nat} {listed : Array Bool} {a : Act} {w : World} (hi : ops[i]? = some oi) (hdst : oi.dst = some k) (hy : YieldsIf P ops T oi v a) (hT : T w) (hD : listed.getD d false = true ∨ T2 w)
  (h : wpAnyD P md ops Q T d T2 fuel (listed.setIfInBounds i true) (a.put (some k) v) w) (hne : i ≠ d := by decide) (hs : Region.noSelect ops = true := by kernel_rfl) (hf : Region.free md ops listed i = true := by kernel_rfl) (hr : (Region.ready md ops listed).contains i = true := by kernel_rfl)
  (hQ : ∀ c a w, Q (.panic c) (a.put (some k) v) w → Q (.panic c) a w := by exact fun _ _ _ h => h) : wpAnyD P md ops Q T d T2 (fuel + 1) listed a w :=
 wpAnyD_take hi hdst hne hs hf hr hQ hy hT hD h
theorem zqA {α : Type} (l : List α) (i : Nat) (a : α) : l.toArray.setIfInBounds i a = (l.set i a).toArray := List.setIfInBounds_toArray l i a
theorem zqB {α : Type} (a b : α) (l : List α) : (a :: l).set 0 b = b :: l := List.set_cons_zero
theorem zqC {α : Type} (a b : α) (l : List α) (i : Nat) : (a :: l).set (i + 1) b = a :: l.set i b := List.set_cons_succ
def closedB (md : Region.Mode) (ops : Array Oper) (L : Array Bool) : Bool := (List.range ops.size).all fun k => !L.getD k false || match ops[k]? with
 | some o => o.after.all fun e => !Region.binds md e || L.getD e.on false
 | none => true
def behindB (md : Region.Mode) (ops : Array Oper) (i : Nat) : Nat → Nat → Bool
 | 0, _ => false
 | f + 1, d => match ops[d]? with
  | some o => o.after.any fun e => Region.binds md e && (e.on == i || behindB md ops i f e.on)
  | none => false
theorem closedB_spec {L : Array Bool} (h : closedB md ops L = true) {k : Nat} {o : Oper} (ho : ops[k]? = some o) (hk : L.getD k false = true) : ∀ e ∈ o.after, Region.binds md e = true → L.getD e.on false = true := by
 intro e he hb
 simp only [closedB, List.all_eq_true, List.mem_range] at h
 have h1 := h k (Array.getElem?_eq_some_iff.1 ho).1
 simp only [ho, hk, Bool.not_true, Bool.false_or, Array.all_eq_true_iff_forall_mem] at h1
 have h2 := h1 e he
 simpa [hb] using h2
theorem closedB_of {L : Array Bool} (h : ∀ k o, ops[k]? = some o → L.getD k false = true → ∀ e ∈ o.after, Region.binds md e = true → L.getD e.on false = true) : closedB md ops L = true := by
 simp only [closedB, List.all_eq_true, List.mem_range]
 intro k hk
 cases hl : L.getD k false
 ·simp
 ·simp only [Bool.not_true, Bool.false_or]
  split
  ·rename_i o ho
   rw [Array.all_eq_true_iff_forall_mem]
   intro e he
   cases hb : Region.binds md e
   ·simp
   ·simpa using h k o ho hl e he hb
  ·rfl
theorem closedB_set {L : Array Bool} {j : Nat} (h : closedB md ops L = true) (hj : j ∈ Region.ready md ops L) : closedB md ops (L.setIfInBounds j true) = true := by
 obtain ⟨_, oj, hoj, hall⟩ := mem_ready.1 hj
 refine closedB_of fun k o ho hk e he hb => getD_set_true ?_
 by_cases hkj : j = k
 ·subst hkj
  obtain rfl := Option.some.inj (hoj.symm.trans ho)
  exact hall e he hb
 ·rw [getD_set_ne false hkj] at hk
  exact closedB_spec h ho hk e he hb
theorem behindB_listed {L : Array Bool} {i : Nat} (hc : closedB md ops L = true) : ∀ (f d : Nat), behindB md ops i f d = true → (∀ o, ops[d]? = some o → ∀ e ∈ o.after, Region.binds md e = true → L.getD e.on false = true) → L.getD i false = true
 | 0, _, h, _ => by simp [behindB] at h
 | f + 1, d, h, hd => by
  unfold behindB at h
  split at h
  ·rename_i o ho
   obtain ⟨e, he, hb⟩ := Array.any_eq_true'.1 h
   simp only [Bool.and_eq_true, Bool.or_eq_true, beq_iff_eq] at hb
   have h1 := hd o ho e he hb.1
   rcases hb.2 with h2 | h2
   ·rw [← h2]; exact h1
   ·exact behindB_listed hc f e.on h2 fun o' ho' => closedB_spec hc ho' h1
  ·cases h
theorem wpAnyD_take2 {i : Nat} {oi : Oper} {v : Value} {dst : Option Tmp} {fuel : Nat} {listed : Array Bool} {a : Act} {w : World} (hi : ops[i]? = some oi) (hdst : oi.dst = dst) (hne : i ≠ d)
  (hs : Region.noSelect ops = true) (hf : Region.free md ops listed i = true) (hr : (Region.ready md ops listed).contains i = true) (hd : listed.getD d false = false)
  (hc : closedB md ops listed = true) (hw : behindB md ops i ops.size d = true)
  (hQ : ∀ c a w, Q (.panic c) (a.put dst v) w → Q (.panic c) a w) (hy : YieldsIf P ops (fun w => T w ∧ T2 w) oi v a) (hT : T w) (hT2 : T2 w)
  (h : wpAnyD P md ops Q T d T2 fuel (listed.setIfInBounds i true) (a.put dst v) w) : wpAnyD P md ops Q T d T2 (fuel + 1) listed a w := by
 subst hdst
 have hh : heldD T d T2 (listed.setIfInBounds i true) w := ⟨hT, fun _ => hT2⟩
 refine wpAnyD_first (S0 := fun w => T w ∧ T2 w) (inv := fun L => closedB md ops L = true ∧ L.getD d false = false) hi (Region.noSelect_spec hs) hQ (fun L j hv hiun hj hji => ⟨closedB_set hv.1 hj, ?_⟩) (fun L w hv h => ⟨h.1, h.2 (getD_set_d hv.2 hne)⟩) (fun _ _ _ h => h.back hne) fuel listed a w (Region.free_spec hi hf) (by simpa using hr) ⟨hc, hd⟩ hy ⟨hT, hT2⟩ hh h
 refine getD_set_d hv.2 ?_
 rintro rfl
 obtain ⟨_, oj, hoj, hall⟩ := mem_ready.1 hj
 have := behindB_listed hv.1 ops.size j hw fun o ho => by
  obtain rfl := Option.some.inj (hoj.symm.trans ho)
  exact hall
 rcases Nat.lt_or_ge i L.size with h' | h'
 ·simp [h'] at hiun this; rw [hiun] at this; cases this
 ·simp [Array.getElem?_eq_none h'] at this
theorem wpAnyD_step0 {i : Nat} {o : Oper} {fuel : Nat} {listed : Array Bool} {a : Act} {w : World} (hr : Region.ready md ops listed = [i]) (ho : ops[i]? = some o)
  (h : ∀ K : Act → World → Prop, (∀ a' w', heldD T d T2 (listed.setIfInBounds i true) w' → wpAnyD P md ops Q T d T2 fuel (listed.setIfInBounds i true) a' w' → K a' w') → if Region.wanted o (yielded ops a.tmps) = true then Oper.wp P o a w K Q else K (a.put o.dst undef) w) :
  wpAnyD P md ops Q T d T2 (fuel + 1) listed a w := by
 refine ⟨fun h0 => (by rw [hr] at h0; cases h0), fun j hj => ?_⟩
 rw [hr] at hj
 obtain rfl : j = i := by simpa using hj
 exact wpOp_step ho fun K' hK => h K' fun a' w' hh hn => hK a' w' ⟨hh, hn⟩
theorem wpAnyD_step {i : Nat} {o : Oper} {fuel : Nat} {listed : Array Bool} {a : Act} {w : World} (hr : Region.ready md ops listed = [i]) (ho : ops[i]? = some o)
  (h : ∀ K : Act → World → Prop, (∀ a' w', T w' → T2 w' → wpAnyD P md ops Q T d T2 fuel (listed.setIfInBounds i true) a' w' → K a' w') → if Region.wanted o (yielded ops a.tmps) = true then Oper.wp P o a w K Q else K (a.put o.dst undef) w) :
  wpAnyD P md ops Q T d T2 (fuel + 1) listed a w :=
 wpAnyD_step0 hr ho fun K hK => h K fun a' w' h1 h2 h3 => hK a' w' ⟨h1, fun _ => h2⟩ h3
theorem wpAnyD_stepd {i : Nat} {o : Oper} {fuel : Nat} {listed : Array Bool} {a : Act} {w : World} (hr : Region.ready md ops listed = [i]) (ho : ops[i]? = some o) (hd : (listed.setIfInBounds i true).getD d false = true)
  (h : ∀ K : Act → World → Prop, (∀ a' w', T w' → wpAnyD P md ops Q T d T2 fuel (listed.setIfInBounds i true) a' w' → K a' w') → if Region.wanted o (yielded ops a.tmps) = true then Oper.wp P o a w K Q else K (a.put o.dst undef) w) :
  wpAnyD P md ops Q T d T2 (fuel + 1) listed a w :=
 wpAnyD_step0 hr ho fun K hK => h K fun a' w' h1 h3 => hK a' w' ⟨h1, fun e => by rw [hd] at e; cases e⟩ h3
theorem wpAnyD_done {listed : Array Bool} {a : Act} {w : World} {fuel : Nat} (hr : Region.ready md ops listed = []) (h : Q .normal a w) : wpAnyD P md ops Q T d T2 fuel listed a w := by
 cases fuel with
 | zero => exact ⟨hr, h⟩
 | succ => exact ⟨fun _ => h, by rw [hr]; simp⟩
theorem wp_region_D {id : Nat} {a : Act} {w : World} (T : World → Prop) (d : Nat) (T2 : World → Prop) (n : Nat) (hn : ops.size = n) (hm : P.follows .mixedOrders = true)
  (h : wpAnyD P .any ops Q T d T2 n (Array.replicate n false) a w.drew) : (Code.region id ops true).wp P Q a w := by
 subst hn
 exact wp_region_any hm (wpAny_of_D _ _ _ _ h)
end
end Go.Arm
namespace Go.Arm
open Go.RowKit
theorem step_call {P : Program} {ops : Array Oper} {a : Act} {w : World} {dst : Option Tmp} {ty : TypeId} {pos : String} {after : Array Edge} {g : Option (Nat × Bool)} {K : Act → World → Prop} {Q : Exit → Act → World → Prop} {E : Prop}
  {f : FuncId} {xs : Array Operand} {ts : Array TypeId} {vs : Array Value} {post : Ending → World → Prop} (hw : Region.wanted ⟨dst, .call ⟨.value (.func f), xs, ts⟩, ty, pos, after, g⟩ (yielded ops a.tmps) = true) (hx : xs.map a.eval = vs)
  (hf : (P.funcs[f]?).map (fun fn => (fn.name == "runtime.NumGoroutine", fn.body.isNone)) = some (false, false)) (hc : Calls P f vs w post) (h : ∀ e w', post e w' → ∃ v, e = .returned v ∧ K (a.put dst v) w') :
  if Region.wanted ⟨dst, .call ⟨.value (.func f), xs, ts⟩, ty, pos, after, g⟩ (yielded ops a.tmps) = true then Oper.wp P ⟨dst, .call ⟨.value (.func f), xs, ts⟩, ty, pos, after, g⟩ a w K Q else E := by
 rw [if_pos hw]
 subst hx
 have hrun : (callFunc f (Array.map a.eval xs)).run P w = .ok (.enter f (Array.map a.eval xs)) w := by
  obtain ⟨fn, h1, h2⟩ := Option.map_eq_some_iff.1 hf
  simp only [Prod.mk.injEq] at h2
  have h3 : fn.name ≠ "runtime.NumGoroutine" := by simpa using h2.1
  have h4 : fn.body ≠ none := by
   intro e
   simp [e] at h2
  simp [callFunc, h1, h3, h4]
 go_simp
 refine hc.mono fun e w' he => ?_
 obtain ⟨v, rfl, hv⟩ := h e w' he
 exact hv
end Go.Arm
/- A note in a block of its own is loaded, stored and boxed as one value. -/
namespace Go.Arm
open Go.RowKit
section
variable {P : Program} {ops : Array Oper} {Q : Exit → Act → World → Prop} {a : Act} {w : World} {rest : List Oper}
variable {dst : Option Tmp} {ty : TypeId} {pos : String} {after : Array Edge}
theorem run_load_blk {t : TypeId} {cs : Array Value} {g : Nat} {d : TypeDesc} (hu : P.underlying t = some d) (hd : (match d with | .struct _ | .array _ _ => true | _ => false) = true) (hi : (P.info? t).map (·.size) = some cs.size) (w : World) (hg : w.heap[g]? = some (.cells cs t (0, 0))) :
  (Instr.loadAt t (.pointer (some ⟨g, 0, none⟩))).run P w = .ok (.agg cs) w := by
 simp only [Instr.loadAt, Instr.sureAddr, Sem.run_bind, Sem.run_pure, Result.andThen_ok, run_loadVar_row w g t t cs (0, 0) d hg hu hd hi]
end
end Go.Arm
namespace Go.Proofs.YtjkffjngamagkaaDoor
open Go Go.RowKit Go.Arm
def SlV (v : Value) : Prop := ∃ ao n c, v = .slice ao n c
theorem Sl.slv {α : Type} [Rep α] {w : World} {S : Nat → Prop} {l : List α} {v : Value} (h : Sl w S l v) : SlV v := Sl.shape h
theorem noteV_one (n : NoteR) {vp vo vv vh : Value} (h1 : SlV vp) (h2 : SlV vo) (h3 : SlV vv) (h4 : SlV vh) : (noteV n vp vo vv vh).cells.all (·.oneCell') = true := by
 obtain ⟨_, _, _, rfl⟩ := h1
 obtain ⟨_, _, _, rfl⟩ := h2
 obtain ⟨_, _, _, rfl⟩ := h3
 obtain ⟨_, _, _, rfl⟩ := h4
 simp [noteV, Value.cells, Value.oneCell']
theorem noteV_agg (n : NoteR) (vp vo vv vh : Value) : noteV n vp vo vv vh = .agg (noteV n vp vo vv vh).cells := rfl
section
variable {ops : Array Oper} {Q : Exit → Act → World → Prop} {a : Act} {w : World} {rest : List Oper}
variable {dst : Option Tmp} {ty : TypeId} {pos : String} {after : Array Edge}
theorem Box.row {w : World} {b : Nat} {n : NoteR} {vp vo vv vh : Value} : Box w b n vp vo vv vh ↔ w.heap[b]? = some (.cells (noteV n vp vo vv vh).cells 33 (0, 0)) := Iff.rfl
theorem run_load_N {b : Nat} {n : NoteR} {vp vo vv vh : Value} (w : World) (hb : Box w b n vp vo vv vh) : (Instr.loadAt 33 (.pointer (some ⟨b, 0, none⟩))).run Tryd.prog w = .ok (noteV n vp vo vv vh) w := by
 rw [noteV_agg]
 exact run_load_blk (P := Tryd.prog) Tryd.underlying33 rfl (by kernel_rfl) w hb
theorem load_N {Q : Exit → Act → World → Prop} {x : Operand} {b : Nat} {n : NoteR} {vp vo vv vh : Value} (hb : Box w b n vp vo vv vh) (hx : a.eval x = .pointer (some ⟨b, 0, none⟩)) (h : wpList Tryd.prog ops Q rest (a.put dst (noteV n vp vo vv vh)) w) :
  wpList Tryd.prog ops Q (⟨dst, .load 33 x, ty, pos, after, none⟩ :: rest) a w := by
 refine wpList_plain rfl fun K hK => ?_
 have hrun := run_load_N w hb
 unfold Oper.wp
 simp only [execOp, hx, Sem.run_bind, hrun, Result.andThen_ok, Sem.run_pure]
 exact hK _ _ h
theorem Box.stored {w : World} {b : Nat} {n m : NoteR} {vp vo vv vh up uo uv uh : Value} (h : Box w b n vp vo vv vh) : Box (w.setRow b (noteV m up uo uv uh).cells) b m up uo uv uh := by
 rw [Box.row] at h ⊢
 exact setRow_heap w b _ _ _ _ h
def kL (o : Op) : Bool := kT o || match o with
 | .load t _ => t == 33 || t == 36
 | .store t _ _ => t == 33 || t == 36
 | .box t _ => t == 33 || t == 36
 | _ => false
theorem RBox.row {w : World} {b : Nat} {n : NoteR} {vp vo vv vh : Value} : RBox w b n vp vo vv vh ↔ w.heap[b]? = some (.cells (noteV n vp vo vv vh).cells 36 (0, 0)) := Iff.rfl
theorem run_load_R {b : Nat} {n : NoteR} {vp vo vv vh : Value} (w : World) (hb : RBox w b n vp vo vv vh) : (Instr.loadAt 36 (.pointer (some ⟨b, 0, none⟩))).run Tryd.prog w = .ok (noteV n vp vo vv vh) w := by
 rw [noteV_agg]
 exact run_load_blk (P := Tryd.prog) Tryd.underlying36 rfl (by kernel_rfl) w hb
theorem load_R {Q : Exit → Act → World → Prop} {x : Operand} {b : Nat} {n : NoteR} {vp vo vv vh : Value} (hb : RBox w b n vp vo vv vh) (hx : a.eval x = .pointer (some ⟨b, 0, none⟩)) (h : wpList Tryd.prog ops Q rest (a.put dst (noteV n vp vo vv vh)) w) :
  wpList Tryd.prog ops Q (⟨dst, .load 36 x, ty, pos, after, none⟩ :: rest) a w := by
 refine wpList_plain rfl fun K hK => ?_
 have hrun := run_load_R w hb
 unfold Oper.wp
 simp only [execOp, hx, Sem.run_bind, hrun, Result.andThen_ok, Sem.run_pure]
 exact hK _ _ h
theorem yields_R {S : World → Prop} {x : Operand} {g : Option (Nat × Bool)} {b : Nat} {n : NoteR} {vp vo vv vh : Value} (hw : Region.wanted ⟨dst, .load 36 x, ty, pos, after, g⟩ (yielded ops a.tmps) = true) (hx : a.eval x = .pointer (some ⟨b, 0, none⟩)) (hb : ∀ w, S w → RBox w b n vp vo vv vh) : YieldsIf Tryd.prog ops S ⟨dst, .load 36 x, ty, pos, after, g⟩ (noteV n vp vo vv vh) a := by
 refine .inl ⟨hw, fun w hS => ?_⟩
 have hrun := run_load_R w (hb w hS)
 simp only [execOp, hx, Sem.run_bind, hrun, Result.andThen_ok, Sem.run_pure]
theorem RBox.stored {w : World} {b : Nat} {n m : NoteR} {vp vo vv vh up uo uv uh : Value} (h : RBox w b n vp vo vv vh) : RBox (w.setRow b (noteV m up uo uv uh).cells) b m up uo uv uh := by
 rw [RBox.row] at h ⊢
 exact setRow_heap w b _ _ _ _ h
theorem box_R {Q : Exit → Act → World → Prop} {x : Operand} {n : NoteR} {vp vo vv vh : Value} (hx : a.eval x = noteV n vp vo vv vh)
  (h : ∀ g w', RBox w' g n vp vo vv vh → w.heap.size ≤ g → Below w.heap.size w w' → wpList Tryd.prog ops Q rest (a.put dst (.pointer (some ⟨g, 0, none⟩))) w') :
  wpList Tryd.prog ops Q (⟨dst, .box 36 x, ty, pos, after, none⟩ :: rest) a w := by
 refine wpList_plain rfl fun K hK => ?_
 have hrun : (Instr.box 36 (noteV n vp vo vv vh)).run Tryd.prog w = .ok (.pointer (some ⟨w.heap.size, 0, none⟩)) (w.alloc (.cells (noteV n vp vo vv vh).cells 36)) := by
  simp [Instr.box, newVar, newRow]
 unfold Oper.wp
 simp only [execOp, hx, Sem.run_bind, hrun, Result.andThen_ok, Sem.run_pure]
 exact hK _ _ (h _ _ (RBox.new w n vp vo vv vh) (Nat.le_refl _) ((Below.refl _ _).alloc (Nat.le_refl _) _))
theorem stop_load_R {x : Operand} (h : Stop (wpList Tryd.prog ops Q (⟨dst, .load 36 x, ty, pos, after, none⟩ :: rest) a w) .mk) : wpList Tryd.prog ops Q (⟨dst, .load 36 x, ty, pos, after, none⟩ :: rest) a w := h
end
end Go.Proofs.YtjkffjngamagkaaDoor
/- Blocks that are known whole: loads and stores of one cell, and of the whole, in a walk and in a region that draws its order. -/
namespace Go.Arm
open Go.RowKit
def Blk (w : World) (b : Nat) (t : TypeId) (cs : Array Value) : Prop := w.heap[b]? = some (.cells cs t (0, 0))
theorem Blk.lt {w : World} {b : Nat} {t : TypeId} {cs : Array Value} (h : Blk w b t cs) : b < w.heap.size := (Array.getElem?_eq_some_iff.1 h).1
theorem Blk.below {w w' : World} {b : Nat} {t : TypeId} {cs : Array Value} (h : Blk w b t cs) {B : Nat} (hb : Below B w w') (hB : b < B) : Blk w' b t cs := (hb.block b hB).trans h
theorem Blk.only {w w' : World} {b : Nat} {t : TypeId} {cs : Array Value} (h : Blk w b t cs) {G : Nat → Prop} (ho : Only G w w') (hG : ¬ G b) : Blk w' b t cs := (ho.block b h.lt hG).trans h
theorem Blk.grown {w w' : World} {b : Nat} {t : TypeId} {cs : Array Value} (h : Blk w b t cs) {row : Option Nat} (ho : w.grownBy w' row) (hG : row ≠ some b) : Blk w' b t cs := (ho.block b h.lt (fun e => hG e.symm)).trans h
theorem Blk.cell {w : World} {b : Nat} {t : TypeId} {cs : Array Value} (h : Blk w b t cs) (i : Nat) : w.cell? ⟨b, i, none⟩ = cs[i]? := by
 have h : w.heap[b]? = some (.cells cs t (0, 0)) := h
 simp [World.cell?, h]
theorem Blk.frozen {w : World} {b : Nat} {t : TypeId} {cs : Array Value} (h : Blk w b t cs) (i : Nat) : w.frozen? ⟨b, i, none⟩ = false := by
 have h : w.heap[b]? = some (.cells cs t (0, 0)) := h
 simp [World.frozen?, h]
theorem Blk.new (w : World) (t : TypeId) (cs : Array Value) : Blk (w.alloc (.cells cs t)) w.heap.size t cs := heap_alloc_new w _
theorem only_row (w : World) (g : Nat) (cs : Array Value) : Only (fun k => k = g) w (w.setRow g cs) :=
 ⟨rfl, rfl, rfl, by simp, fun k _ hf => setRow_other w g k cs hf⟩
theorem Blk.row {w : World} {b : Nat} {t : TypeId} {cs : Array Value} (h : Blk w b t cs) (cs' : Array Value) : Blk (w.setRow b cs') b t cs' := setRow_heap w b _ _ _ _ h
section
variable {P : Program} {ops : Array Oper} {Q : Exit → Act → World → Prop} {a : Act} {w : World} {rest : List Oper}
variable {dst : Option Tmp} {ty : TypeId} {pos : String} {after : Array Edge}
theorem run_load_all {t : TypeId} {cs : Array Value} {g : Nat} {d : TypeDesc} (hu : P.underlying t = some d) (hd : (match d with | .struct _ | .array _ _ => true | _ => false) = true) (hi : (P.info? t).map (·.size) = some cs.size) (w : World) (hg : Blk w g t cs) :
  (Instr.loadAt t (.pointer (some ⟨g, 0, none⟩))).run P w = .ok (.agg cs) w := by
 simp only [Instr.loadAt, Instr.sureAddr, Sem.run_bind, Sem.run_pure, Result.andThen_ok, run_loadVar_row w g t t cs (0, 0) d hg hu hd hi]
theorem run_store_all {t : TypeId} {old cs : Array Value} {g : Nat} (hi : (P.info? t).map (·.size) = some cs.size) (ho : old.size = cs.size) (h1 : cs.all (·.oneCell') = true) (w : World) (hg : Blk w g t old) :
  (Instr.storeAt t (.pointer (some ⟨g, 0, none⟩)) (.agg cs)).run P w = .ok () (w.setRow g cs) := by
 simp only [Instr.storeAt, Instr.sureAddr, Sem.run_bind, Sem.run_pure, Result.andThen_ok, run_storeVar_row w g t t old cs hg hi ho h1]
def One (P : Program) (t : TypeId) : Prop := (P.info? t).map (·.size) = some 1 ∧ ∀ w : World, (isAgg t).run P w = .ok false w
theorem run_load_cell {t T : TypeId} {cs : Array Value} {g i : Nat} {v : Value} (ht : One P t) (hv : cs[i]? = some v) (w : World) (hg : Blk w g T cs) :
  (Instr.loadAt t (.pointer (some ⟨g, i, none⟩))).run P w = .ok v w := by
 have hc := hg.cell i
 rw [hv] at hc
 simp only [Instr.loadAt, Instr.sureAddr, Sem.run_bind, Sem.run_pure, Result.andThen_ok, loadVar, ht.2 w, Bool.false_eq_true, if_false]
 simp [hc]
theorem run_store_cell {t T : TypeId} {cs : Array Value} {g i : Nat} {v : Value} (ht : One P t) (h1 : v.oneCell' = true) (hc : v.cells = #[v]) (hi : i < cs.size) (w : World) (hg : Blk w g T cs) :
  (Instr.storeAt t (.pointer (some ⟨g, i, none⟩)) v).run P w = .ok () (w.setRow g (cs.setIfInBounds i v)) := by
 have hst := run_storeCells_at (P := P) g i T [v] 0 cs w hg (by simp; omega) (by simpa using h1)
 obtain ⟨inf, hi1, hi2⟩ := Option.map_eq_some_iff.1 ht.1
 have e : (cs.toList.take (i + 0) ++ [v] ++ cs.toList.drop (i + 0 + [v].length)).toArray = cs.setIfInBounds i v := by
  apply Array.toList_inj.1
  simp only [Nat.add_zero, List.length_singleton, Array.toList_setIfInBounds]
  rw [List.set_eq_take_append_cons_drop, if_pos (by simpa using hi)]
  simp
 rw [e] at hst
 simp only [Instr.storeAt, Instr.sureAddr, Sem.run_bind, Sem.run_pure, Result.andThen_ok, storeVar, hc, sizeOf, typeInfo]
 simp [hi1, hi2, hst]
theorem blk_load {t T : TypeId} {cs : Array Value} {g i : Nat} {x : Operand} (v : Value) (ht : One P t) (hg : Blk w g T cs) (hx : a.eval x = .pointer (some ⟨g, i, none⟩)) (hv : cs[i]? = some v) (h : wpList P ops Q rest (a.put dst v) w) :
  wpList P ops Q (⟨dst, .load t x, ty, pos, after, none⟩ :: rest) a w := by
 refine wpList_plain rfl fun K hK => ?_
 have hrun := run_load_cell (P := P) ht hv w hg
 unfold Oper.wp
 simp only [execOp, hx, Sem.run_bind, hrun, Result.andThen_ok, Sem.run_pure]
 exact hK _ _ h
theorem blk_yields {S : World → Prop} {t T : TypeId} {cs : Array Value} {g i : Nat} {x : Operand} {gd : Option (Nat × Bool)} {v : Value} (ht : One P t) (hw : Region.wanted ⟨dst, .load t x, ty, pos, after, gd⟩ (yielded ops a.tmps) = true) (hx : a.eval x = .pointer (some ⟨g, i, none⟩)) (hv : cs[i]? = some v) (hg : ∀ w, S w → Blk w g T cs) :
  YieldsIf P ops S ⟨dst, .load t x, ty, pos, after, gd⟩ v a := by
 refine .inl ⟨hw, fun w hS => ?_⟩
 have hrun := run_load_cell (P := P) ht hv w (hg w hS)
 simp only [execOp, hx, Sem.run_bind, hrun, Result.andThen_ok, Sem.run_pure]
theorem blk_store {t T : TypeId} {cs : Array Value} {g i : Nat} {x y : Operand} (v : Value) (ht : One P t) (hg : Blk w g T cs) (hx : a.eval x = .pointer (some ⟨g, i, none⟩)) (hy : a.eval y = v) (h1 : v.oneCell' = true) (hc : v.cells = #[v]) (hi : i < cs.size)
  (h : ∀ w', Blk w' g T (cs.setIfInBounds i v) → Only (fun k => k = g) w w' → w'.heap.size = w.heap.size → wpList P ops Q rest (a.put dst undef) w') :
  wpList P ops Q (⟨dst, .store t x y, ty, pos, after, none⟩ :: rest) a w := by
 refine wpList_plain rfl fun K hK => ?_
 have hrun := run_store_cell (P := P) ht h1 hc hi w hg
 unfold Oper.wp
 simp only [execOp, hx, hy, Sem.run_bind, hrun, Result.andThen_ok, Sem.run_pure]
 exact hK _ _ (h _ (hg.row _) (only_row w g _) (by simp))
theorem step_blk_store {K : Act → World → Prop} {E : Prop} {t T : TypeId} {cs : Array Value} {g i : Nat} {x y : Operand} (v : Value) (ht : One P t) (hg : Blk w g T cs) (hx : a.eval x = .pointer (some ⟨g, i, none⟩)) (hy : a.eval y = v) (h1 : v.oneCell' = true) (hc : v.cells = #[v]) (hi : i < cs.size)
  (h : ∀ w', Blk w' g T (cs.setIfInBounds i v) → Only (fun k => k = g) w w' → w'.heap.size = w.heap.size → K (a.put dst undef) w') :
  if Region.wanted ⟨dst, .store t x y, ty, pos, after, none⟩ (yielded ops a.tmps) = true then Oper.wp P ⟨dst, .store t x y, ty, pos, after, none⟩ a w K Q else E := by
 rw [if_pos (by simp [Region.wanted])]
 have hrun := run_store_cell (P := P) ht h1 hc hi w hg
 unfold Oper.wp
 simp only [execOp, hx, hy, Sem.run_bind, hrun, Result.andThen_ok, Sem.run_pure]
 exact h _ (hg.row _) (only_row w g _) (by simp)
theorem blk_store_all {t : TypeId} {cs cs' : Array Value} {g : Nat} {x y : Operand} (hg : Blk w g t cs) (hx : a.eval x = .pointer (some ⟨g, 0, none⟩)) (hy : a.eval y = .agg cs') (hi : (P.info? t).map (·.size) = some cs'.size) (ho : cs.size = cs'.size) (h1 : cs'.all (·.oneCell') = true)
  (h : ∀ w', Blk w' g t cs' → Only (fun k => k = g) w w' → w'.heap.size = w.heap.size → wpList P ops Q rest (a.put dst undef) w') :
  wpList P ops Q (⟨dst, .store t x y, ty, pos, after, none⟩ :: rest) a w := by
 refine wpList_plain rfl fun K hK => ?_
 have hrun := run_store_all (P := P) hi ho h1 w hg
 unfold Oper.wp
 simp only [execOp, hx, hy, Sem.run_bind, hrun, Result.andThen_ok, Sem.run_pure]
 exact hK _ _ (h _ (hg.row _) (only_row w g _) (by simp))
theorem blk_load_all {t : TypeId} {cs : Array Value} {g : Nat} {d : TypeDesc} {x : Operand} (hu : P.underlying t = some d) (hd : (match d with | .struct _ | .array _ _ => true | _ => false) = true) (hi : (P.info? t).map (·.size) = some cs.size) (hg : Blk w g t cs) (hx : a.eval x = .pointer (some ⟨g, 0, none⟩)) (h : wpList P ops Q rest (a.put dst (.agg cs)) w) :
  wpList P ops Q (⟨dst, .load t x, ty, pos, after, none⟩ :: rest) a w := by
 refine wpList_plain rfl fun K hK => ?_
 have hrun := run_load_all (P := P) hu hd hi w hg
 unfold Oper.wp
 simp only [execOp, hx, Sem.run_bind, hrun, Result.andThen_ok, Sem.run_pure]
 exact hK _ _ h
theorem blk_box {t : TypeId} {x : Operand} {cs : Array Value} (hx : (a.eval x).cells = cs)
  (h : ∀ g w', Blk w' g t cs → w.heap.size ≤ g → Below w.heap.size w w' → wpList P ops Q rest (a.put dst (.pointer (some ⟨g, 0, none⟩))) w') :
  wpList P ops Q (⟨dst, .box t x, ty, pos, after, none⟩ :: rest) a w := by
 refine wpList_plain rfl fun K hK => ?_
 have hrun : (Instr.box t (a.eval x)).run P w = .ok (.pointer (some ⟨w.heap.size, 0, none⟩)) (w.alloc (.cells cs t)) := by
  simp [Instr.box, newVar, newRow, hx]
 unfold Oper.wp
 simp only [execOp, Sem.run_bind, hrun, Result.andThen_ok, Sem.run_pure]
 exact hK _ _ (h _ _ (Blk.new w t cs) (Nat.le_refl _) ((Below.refl _ _).alloc (Nat.le_refl _) _))
theorem blk_alloc {t : TypeId} {cs : Array Value} {z : Value} (hz : ∀ w : World, (zeroValue t).run P w = .ok z w) (hc : z.cells = cs)
  (h : ∀ g w', Blk w' g t cs → w.heap.size ≤ g → Below w.heap.size w w' → wpList P ops Q rest (a.put dst (.pointer (some ⟨g, 0, none⟩))) w') :
  wpList P ops Q (⟨dst, .alloc t, ty, pos, after, none⟩ :: rest) a w := by
 refine wpList_plain rfl fun K hK => ?_
 have hrun : (Instr.alloc t true (.tuple #[])).run P w = .ok (.pointer (some ⟨w.heap.size, 0, none⟩)) (w.alloc (.cells cs t)) := by
  simp [Instr.alloc, newVar, newRow, hz, hc]
 unfold Oper.wp
 simp only [execOp, Sem.run_bind, hrun, Result.andThen_ok, Sem.run_pure]
 exact hK _ _ (h _ _ (Blk.new w t cs) (Nat.le_refl _) ((Below.refl _ _).alloc (Nat.le_refl _) _))
end
theorem zero_run {P : Program} {t : TypeId} {z : Value} (h : (P.info? t).map (·.zero) = some (some z)) (w : World) : (zeroValue t).run P w = .ok z w := by
 obtain ⟨inf, hi1, hi2⟩ := Option.map_eq_some_iff.1 h
 simp [zeroValue, typeInfo, hi1, hi2]
theorem One.mk' {P : Program} {t : TypeId} {d : TypeDesc} (h : P.underlying t = some d) (hd : (match d with | .struct _ | .array _ _ => false | _ => true) = true) (hi : (P.info? t).map (·.size) = some 1) : One P t := by
 refine ⟨hi, fun w => ?_⟩
 unfold isAgg
 rw [Sem.run_bind, run_underlying h w]
 cases d <;> simp_all
end Go.Arm
namespace Go.Arm
section
variable {P : Program} {ops : Array Oper} {Q : Exit → Act → World → Prop} {a : Act} {w : World} {rest : List Oper}
variable {dst : Option Tmp} {ty : TypeId} {pos : String} {after : Array Edge}
theorem stop_store {t : TypeId} {x y : Operand} (h : Stop (wpList P ops Q (⟨dst, .store t x y, ty, pos, after, none⟩ :: rest) a w) .mk) : wpList P ops Q (⟨dst, .store t x y, ty, pos, after, none⟩ :: rest) a w := h
theorem stop_box {t : TypeId} {x : Operand} (h : Stop (wpList P ops Q (⟨dst, .box t x, ty, pos, after, none⟩ :: rest) a w) .mk) : wpList P ops Q (⟨dst, .box t x, ty, pos, after, none⟩ :: rest) a w := h
theorem stop_alloc {t : TypeId} (h : Stop (wpList P ops Q (⟨dst, .alloc t, ty, pos, after, none⟩ :: rest) a w) .mk) : wpList P ops Q (⟨dst, .alloc t, ty, pos, after, none⟩ :: rest) a w := h
end
end Go.Arm
namespace Go.Proofs.YtjkffjngamagkaaDoor
open Go Go.RowKit Go.Arm
def kD : Op → Bool
 | .load t _ => t == 33 || t == 36
 | .store _ _ _ => true
 | .box _ _ => true
 | .alloc _ => true
 | _ => false
def kB (o : Op) : Bool := kD o || kT o
end Go.Proofs.YtjkffjngamagkaaDoor
