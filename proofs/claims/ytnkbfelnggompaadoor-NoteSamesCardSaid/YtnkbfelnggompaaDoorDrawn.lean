/- A region that draws its order, loads, calls, and at its end stores into a cell that it has loaded: one order. 'T' holds throughout; 'T2' till operation number d has come up. -/
import Derived.Test.YtnkbfelnggompaaDoorStep
import Derived.OrdersHeld
namespace Go.Arm
open Go.RowKit
section
variable {P : Program} {ops : Array Oper} {Q : Exit → Act → World → Prop} {md : Region.Mode} {T T2 : World → Prop} {d : Nat}

def heldD (T : World → Prop) (d : Nat) (T2 : World → Prop) (L : Array Bool) (w : World) : Prop := T w ∧ (L.getD d false = false → T2 w)

/-- Whatever order is picked from here on, and what is held is held behind every operation. -/
def wpAnyD (P : Program) (md : Region.Mode) (ops : Array Oper) (Q : Exit → Act → World → Prop) (T : World → Prop) (d : Nat) (T2 : World → Prop) : Nat → Array Bool → Act → World → Prop
  | 0, listed, a, w => Region.ready md ops listed = [] ∧ Q .normal a w
  | fuel + 1, listed, a, w =>
    (Region.ready md ops listed = [] → Q .normal a w) ∧
    ∀ i ∈ Region.ready md ops listed, wpOp P ops Q i (fun a' w' => heldD T d T2 (listed.setIfInBounds i true) w' ∧ wpAnyD P md ops Q T d T2 fuel (listed.setIfInBounds i true) a' w') a w

theorem wpAny_of_D : ∀ (fuel : Nat) (listed : Array Bool) (a : Act) (w : World), wpAnyD P md ops Q T d T2 fuel listed a w → wpAny P md ops Q fuel listed a w
  | 0, _, _, _, h => h
  | fuel + 1, _, _, _, h => ⟨h.1, fun i hi => wpOp_mono (fun a' w' h' => wpAny_of_D fuel _ a' w' h'.2) (h.2 i hi)⟩

theorem wpAnyD_first {i : Nat} {oi : Oper} {v : Value} {S0 : World → Prop} {inv : Array Bool → Prop} (hi : ops[i]? = some oi) (hsel : ∀ (j : Nat) (o : Oper) cs b, ops[j]? = some o → o.op ≠ .select cs b)
    (hQ : ∀ c a w, Q (.panic c) (a.put oi.dst v) w → Q (.panic c) a w)
    (hinv : ∀ L j, inv L → L.getD i true = false → j ∈ Region.ready md ops L → j ≠ i → inv (L.setIfInBounds j true))
    (hget : ∀ L w, inv L → heldD T d T2 (L.setIfInBounds i true) w → S0 w) (hback : ∀ L w, inv L → heldD T d T2 (L.setIfInBounds i true) w → heldD T d T2 L w) :
    ∀ (fuel : Nat) (listed : Array Bool) (a : Act) (w : World),
      (∀ j oj, ops[j]? = some oj → j ≠ i → listed.getD j true = false → (∀ e ∈ oj.after, Region.binds md e = true → e.on ≠ i) → oi.apart ops oj = true) →
      i ∈ Region.ready md ops listed → inv listed → YieldsIf P ops S0 oi v a → S0 w → heldD T d T2 (listed.setIfInBounds i true) w →
      wpAnyD P md ops Q T d T2 fuel (listed.setIfInBounds i true) (a.put oi.dst v) w → wpAnyD P md ops Q T d T2 (fuel + 1) listed a w := by
  intro fuel
  induction fuel with
  | zero =>
    intro listed a w _ hr _ hy hS hh H
    refine ⟨fun h => (by rw [h] at hr; cases hr), fun j hj => ?_⟩
    by_cases hji : j = i
    · subst hji; exact hy.wpOp hi hS ⟨hh, H⟩
    · have := ready_mono hj hji
      rw [H.1] at this
      cases this
  | succ fuel ih =>
    intro listed a w hfree hr hv hy hS hh H
    refine ⟨fun h => (by rw [h] at hr; cases hr), fun j hj => ?_⟩
    by_cases hji : j = i
    · subst hji; exact hy.wpOp hi hS ⟨hh, H⟩
    · have h1 := H.2 j (ready_mono hj hji)
      obtain ⟨hjun, oj, hoj, hall⟩ := mem_ready.1 hj
      have hiun := (mem_ready.1 hr).1
      have hnot : ∀ e ∈ oj.after, Region.binds md e = true → e.on ≠ i := fun e he hb heq => by
        have h1 := hall e he hb
        rw [heq] at h1
        rcases Nat.lt_or_ge i listed.size with h' | h'
        · simp [h'] at hiun h1; rw [hiun] at h1; cases h1
        · simp [Array.getElem?_eq_none h'] at h1
      have h2 := wpOp_putIf hoj (hfree j oj hoj hji hjun hnot) (fun cs b => hsel i oi cs b hi) (fun cs b => hsel j oj cs b hoj) hQ hy h1
      have hfree' : ∀ k ok, ops[k]? = some ok → k ≠ i → (listed.setIfInBounds j true).getD k true = false →
          (∀ e ∈ ok.after, Region.binds md e = true → e.on ≠ i) → oi.apart ops ok = true := fun k ok hk hki hun hno => by
        refine hfree k ok hk hki ?_ hno
        by_cases hjk : j = k
        · subst hjk; exact hjun
        · rw [getD_set_ne true hjk] at hun; exact hun
      have hv' := hinv listed j hv hiun hj hji
      refine wpOp_mono (fun a' w' h3 => ?_) h2
      have h4 := h3.2.1
      rw [Array.setIfInBounds_comm _ _ (Ne.symm hji)] at h4
      refine ⟨hback _ _ hv' h4, ih (listed.setIfInBounds j true) a' w' hfree' (ready_mono hr (Ne.symm hji)) hv' h3.1 (hget _ _ hv' h4) h4 ?_⟩
      rw [Array.setIfInBounds_comm _ _ hji]
      exact h3.2.2

theorem getD_set_d {L : Array Bool} {i d : Nat} (h : L.getD d false = false) (hne : i ≠ d) : (L.setIfInBounds i true).getD d false = false := by
  rw [getD_set_ne false hne]; exact h
theorem getD_of_set {L : Array Bool} {i d : Nat} (h : L.getD d false = true) : (L.setIfInBounds i true).getD d false = true := getD_set_true h

theorem heldD.back {L : Array Bool} {i : Nat} {w : World} (hne : i ≠ d) (h : heldD T d T2 (L.setIfInBounds i true) w) : heldD T d T2 L w :=
  ⟨h.1, fun e => h.2 (getD_set_d e hne)⟩

/-- Take number i first: it yields v in every world in which T holds. -/
theorem wpAnyD_take {i : Nat} {oi : Oper} {v : Value} {dst : Option Tmp} {fuel : Nat} {listed : Array Bool} {a : Act} {w : World} (hi : ops[i]? = some oi) (hdst : oi.dst = dst) (hne : i ≠ d)
    (hs : Region.noSelect ops = true) (hf : Region.free md ops listed i = true) (hr : (Region.ready md ops listed).contains i = true)
    (hQ : ∀ c a w, Q (.panic c) (a.put dst v) w → Q (.panic c) a w) (hy : YieldsIf P ops T oi v a) (hT : T w) (hD : listed.getD d false = true ∨ T2 w)
    (h : wpAnyD P md ops Q T d T2 fuel (listed.setIfInBounds i true) (a.put dst v) w) : wpAnyD P md ops Q T d T2 (fuel + 1) listed a w := by
  subst hdst
  have hh : heldD T d T2 (listed.setIfInBounds i true) w := ⟨hT, fun e => by
    rw [getD_set_ne false hne] at e
    rcases hD with hD | hD
    · rw [hD] at e; cases e
    · exact hD⟩
  exact wpAnyD_first (S0 := T) (inv := fun _ => True) hi (Region.noSelect_spec hs) hQ (fun _ _ _ _ _ _ => trivial) (fun _ _ _ h => h.1) (fun _ _ _ h => h.back hne) fuel listed a w (Region.free_spec hi hf) (by simpa using hr) trivial hy hT hh h

/-- Every operation that has come up has those behind it that it waits for. -/
def closedB (md : Region.Mode) (ops : Array Oper) (L : Array Bool) : Bool := (List.range ops.size).all fun k => !L.getD k false || match ops[k]? with
  | some o => o.after.all fun e => !Region.binds md e || L.getD e.on false
  | none => true
/-- Number d waits for number i, by itself or through others. -/
def behindB (md : Region.Mode) (ops : Array Oper) (i : Nat) : Nat → Nat → Bool
  | 0, _ => false
  | f + 1, d => match ops[d]? with
    | some o => o.after.any fun e => Region.binds md e && (e.on == i || behindB md ops i f e.on)
    | none => false
theorem closedB_spec {L : Array Bool} (h : closedB md ops L = true) {k : Nat} {o : Oper} (ho : ops[k]? = some o) (hk : L.getD k false = true) : ∀ e ∈ o.after, Region.binds md e = true → L.getD e.on false = true := by
  intro e he hb
  simp only [closedB, List.all_eq_true, List.mem_range] at h
  have h1 := h k (Array.getElem?_eq_some_iff.1 ho).1
  simp only [ho, hk, Bool.not_true, Bool.false_or, Array.all_eq_true_iff_forall_mem] at h1
  have h2 := h1 e he
  simpa [hb] using h2
theorem closedB_of {L : Array Bool} (h : ∀ k o, ops[k]? = some o → L.getD k false = true → ∀ e ∈ o.after, Region.binds md e = true → L.getD e.on false = true) : closedB md ops L = true := by
  simp only [closedB, List.all_eq_true, List.mem_range]
  intro k hk
  cases hl : L.getD k false
  · simp
  · simp only [Bool.not_true, Bool.false_or]
    split
    · rename_i o ho
      rw [Array.all_eq_true_iff_forall_mem]
      intro e he
      cases hb : Region.binds md e
      · simp
      · simpa using h k o ho hl e he hb
    · rfl
theorem closedB_set {L : Array Bool} {j : Nat} (h : closedB md ops L = true) (hj : j ∈ Region.ready md ops L) : closedB md ops (L.setIfInBounds j true) = true := by
  obtain ⟨_, oj, hoj, hall⟩ := mem_ready.1 hj
  refine closedB_of fun k o ho hk e he hb => getD_set_true ?_
  by_cases hkj : j = k
  · subst hkj
    obtain rfl := Option.some.inj (hoj.symm.trans ho)
    exact hall e he hb
  · rw [getD_set_ne false hkj] at hk
    exact closedB_spec h ho hk e he hb
theorem behindB_listed {L : Array Bool} {i : Nat} (hc : closedB md ops L = true) : ∀ (f d : Nat), behindB md ops i f d = true → (∀ o, ops[d]? = some o → ∀ e ∈ o.after, Region.binds md e = true → L.getD e.on false = true) → L.getD i false = true
  | 0, _, h, _ => by simp [behindB] at h
  | f + 1, d, h, hd => by
    unfold behindB at h
    split at h
    · rename_i o ho
      obtain ⟨e, he, hb⟩ := Array.any_eq_true'.1 h
      simp only [Bool.and_eq_true, Bool.or_eq_true, beq_iff_eq] at hb
      have h1 := hd o ho e he hb.1
      rcases hb.2 with h2 | h2
      · rw [← h2]; exact h1
      · exact behindB_listed hc f e.on h2 fun o' ho' => closedB_spec hc ho' h1
    · cases h

/-- Take number i first: it yields v in every world in which T and T2 hold, and number d waits for it. -/
theorem wpAnyD_take2 {i : Nat} {oi : Oper} {v : Value} {dst : Option Tmp} {fuel : Nat} {listed : Array Bool} {a : Act} {w : World} (hi : ops[i]? = some oi) (hdst : oi.dst = dst) (hne : i ≠ d)
    (hs : Region.noSelect ops = true) (hf : Region.free md ops listed i = true) (hr : (Region.ready md ops listed).contains i = true) (hd : listed.getD d false = false)
    (hc : closedB md ops listed = true) (hw : behindB md ops i ops.size d = true)
    (hQ : ∀ c a w, Q (.panic c) (a.put dst v) w → Q (.panic c) a w) (hy : YieldsIf P ops (fun w => T w ∧ T2 w) oi v a) (hT : T w) (hT2 : T2 w)
    (h : wpAnyD P md ops Q T d T2 fuel (listed.setIfInBounds i true) (a.put dst v) w) : wpAnyD P md ops Q T d T2 (fuel + 1) listed a w := by
  subst hdst
  have hh : heldD T d T2 (listed.setIfInBounds i true) w := ⟨hT, fun _ => hT2⟩
  refine wpAnyD_first (S0 := fun w => T w ∧ T2 w) (inv := fun L => closedB md ops L = true ∧ L.getD d false = false) hi (Region.noSelect_spec hs) hQ (fun L j hv hiun hj hji => ⟨closedB_set hv.1 hj, ?_⟩) (fun L w hv h => ⟨h.1, h.2 (getD_set_d hv.2 hne)⟩) (fun _ _ _ h => h.back hne) fuel listed a w (Region.free_spec hi hf) (by simpa using hr) ⟨hc, hd⟩ hy ⟨hT, hT2⟩ hh h
  refine getD_set_d hv.2 ?_
  rintro rfl
  obtain ⟨_, oj, hoj, hall⟩ := mem_ready.1 hj
  have := behindB_listed hv.1 ops.size j hw fun o ho => by
    obtain rfl := Option.some.inj (hoj.symm.trans ho)
    exact hall
  rcases Nat.lt_or_ge i L.size with h' | h'
  · simp [h'] at hiun this; rw [hiun] at this; cases this
  · simp [Array.getElem?_eq_none h'] at this

/-- One operation alone may come up. -/
theorem wpAnyD_step0 {i : Nat} {o : Oper} {fuel : Nat} {listed : Array Bool} {a : Act} {w : World} (hr : Region.ready md ops listed = [i]) (ho : ops[i]? = some o)
    (h : ∀ K : Act → World → Prop, (∀ a' w', heldD T d T2 (listed.setIfInBounds i true) w' → wpAnyD P md ops Q T d T2 fuel (listed.setIfInBounds i true) a' w' → K a' w') → if Region.wanted o (yielded ops a.tmps) = true then Oper.wp P o a w K Q else K (a.put o.dst undef) w) :
    wpAnyD P md ops Q T d T2 (fuel + 1) listed a w := by
  refine ⟨fun h0 => (by rw [hr] at h0; cases h0), fun j hj => ?_⟩
  rw [hr] at hj
  obtain rfl : j = i := by simpa using hj
  exact wpOp_step ho fun K' hK => h K' fun a' w' hh hn => hK a' w' ⟨hh, hn⟩
theorem wpAnyD_step {i : Nat} {o : Oper} {fuel : Nat} {listed : Array Bool} {a : Act} {w : World} (hr : Region.ready md ops listed = [i]) (ho : ops[i]? = some o)
    (h : ∀ K : Act → World → Prop, (∀ a' w', T w' → T2 w' → wpAnyD P md ops Q T d T2 fuel (listed.setIfInBounds i true) a' w' → K a' w') → if Region.wanted o (yielded ops a.tmps) = true then Oper.wp P o a w K Q else K (a.put o.dst undef) w) :
    wpAnyD P md ops Q T d T2 (fuel + 1) listed a w :=
  wpAnyD_step0 hr ho fun K hK => h K fun a' w' h1 h2 h3 => hK a' w' ⟨h1, fun _ => h2⟩ h3
/-- The same where number d has come up, or comes up now. -/
theorem wpAnyD_stepd {i : Nat} {o : Oper} {fuel : Nat} {listed : Array Bool} {a : Act} {w : World} (hr : Region.ready md ops listed = [i]) (ho : ops[i]? = some o) (hd : (listed.setIfInBounds i true).getD d false = true)
    (h : ∀ K : Act → World → Prop, (∀ a' w', T w' → wpAnyD P md ops Q T d T2 fuel (listed.setIfInBounds i true) a' w' → K a' w') → if Region.wanted o (yielded ops a.tmps) = true then Oper.wp P o a w K Q else K (a.put o.dst undef) w) :
    wpAnyD P md ops Q T d T2 (fuel + 1) listed a w :=
  wpAnyD_step0 hr ho fun K hK => h K fun a' w' h1 h3 => hK a' w' ⟨h1, fun e => by rw [hd] at e; cases e⟩ h3

theorem wpAnyD_done {listed : Array Bool} {a : Act} {w : World} {fuel : Nat} (hr : Region.ready md ops listed = []) (h : Q .normal a w) : wpAnyD P md ops Q T d T2 fuel listed a w := by
  cases fuel with
  | zero => exact ⟨hr, h⟩
  | succ => exact ⟨fun _ => h, by rw [hr]; simp⟩

theorem wp_region_D {id : Nat} {a : Act} {w : World} (T : World → Prop) (d : Nat) (T2 : World → Prop) (n : Nat) (hn : ops.size = n) (hm : P.follows .mixedOrders = true)
    (h : wpAnyD P .any ops Q T d T2 n (Array.replicate n false) a w.drew) : (Code.region id ops true).wp P Q a w := by
  subst hn
  exact wp_region_any hm (wpAny_of_D _ _ _ _ h)
end
end Go.Arm
namespace Go.Arm
open Go.RowKit
/-- A call of a Go function, as a step. -/
theorem step_call {P : Program} {ops : Array Oper} {a : Act} {w : World} {dst : Option Tmp} {ty : TypeId} {pos : String} {after : Array Edge} {g : Option (Nat × Bool)} {K : Act → World → Prop} {Q : Exit → Act → World → Prop} {E : Prop}
    {f : FuncId} {xs : Array Operand} {ts : Array TypeId} {vs : Array Value} {post : Ending → World → Prop} (hw : Region.wanted ⟨dst, .call ⟨.value (.func f), xs, ts⟩, ty, pos, after, g⟩ (yielded ops a.tmps) = true) (hx : xs.map a.eval = vs)
    (hf : (P.funcs[f]?).map (fun fn => (fn.name == "runtime.NumGoroutine", fn.body.isNone)) = some (false, false)) (hc : Calls P f vs w post) (h : ∀ e w', post e w' → ∃ v, e = .returned v ∧ K (a.put dst v) w') :
    if Region.wanted ⟨dst, .call ⟨.value (.func f), xs, ts⟩, ty, pos, after, g⟩ (yielded ops a.tmps) = true then Oper.wp P ⟨dst, .call ⟨.value (.func f), xs, ts⟩, ty, pos, after, g⟩ a w K Q else E := by
  rw [if_pos hw]
  subst hx
  have hrun : (callFunc f (Array.map a.eval xs)).run P w = .ok (.enter f (Array.map a.eval xs)) w := by
    obtain ⟨fn, h1, h2⟩ := Option.map_eq_some_iff.1 hf
    simp only [Prod.mk.injEq] at h2
    have h3 : fn.name ≠ "runtime.NumGoroutine" := by simpa using h2.1
    have h4 : fn.body ≠ none := by
      intro e
      simp [e] at h2
    simp [callFunc, h1, h3, h4]
  go_simp
  refine hc.mono fun e w' he => ?_
  obtain ⟨v, rfl, hv⟩ := h e w' he
  exact hv
end Go.Arm
