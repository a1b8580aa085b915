/- SealBursts: for every input of the law the call returns true and its arguments read as before; the package-level table holds what its initialiser lays. -/
import Derived.Test.YtiaiagkfkckkpaaDoorBursts
import Derived.Test.YtiaiagkfkckkpaaDoorCardKit
namespace Go.Proofs.YtiaiagkfkckkpaaDoor
open Go Go.RowKit Go.Arm Go.ChangeShapes Go.WideShapes Go.ChangeAt

theorem sealBursts_contract (H : Type) (enc : TypeId × Value → H) (W : World) (base : Nat) (args : Array Value) (ds gs : List (DataW H)) (before : List MemPlace)
    (hval : ∀ (j : Nat) t v, Tryd.f6.params[j]? = some t → args[j]? = some v → Value.okWide Tryd.prog W .any base t v)
    (hW : DataW.Whole enc Tryd.prog Tryd.f6.params.toList Rows.sealBurstsSpec.vars false W args.toList ds gs before) (hL : laidMetH Tryd.prog Rows.sealBurstsRow.laid W) :
    Calls Tryd.prog 6 args W fun e W' => ∃ v, e = .returned v ∧ Rows.sealBurstsSpec.post enc Tryd.prog Tryd.f6 false true false false W args v W' := by
  have hN := nib_laid hL
  have hW' := hW
  obtain ⟨p, q, hA0, hV, rfl, hfz, hnd⟩ := hW
  have hA : DataW.TrodAll enc Tryd.prog W 0 (fun _ => true) true Tryd.f6.params.toList args.toList ds p := hA0
  rw [Tryd.params6] at hA hval
  obtain ⟨v0, vs0, d0, ds0, p0, q0, hargs, rfl, rfl, h0, r0⟩ := trodAll_cons hA
  obtain ⟨v1, vs1, d1, ds1, p1, q1, rfl, rfl, rfl, h1, r1⟩ := trodAll_cons r0
  obtain ⟨v2, vs2, d2, ds2, p2, q2, rfl, rfl, rfl, h2, r2⟩ := trodAll_cons r1
  obtain ⟨rfl, rfl, rfl⟩ := trodAll_nil r2
  obtain rfl : args = #[v0, v1, v2] := by cases args; simp_all
  obtain ⟨rfl, rfl⟩ := trodVars_none hV
  have hlt := hW'.lt
  obtain ⟨l0, s0⟩ := open_u8s Tryd.underlying24 Tryd.underlying5 cellsU8 (hval 0 24 v0 rfl rfl) h0
  obtain ⟨a1, rfl, rfl, rfl, w1⟩ := open_int Tryd.underlying45 (hval 1 45 v1 rfl rfl) h1
  have b1 := bounds_u16 w1
  obtain ⟨n1, rfl⟩ : ∃ n : Nat, a1 = n := ⟨a1.toNat, by omega⟩
  obtain ⟨a2, rfl, rfl, rfl, w2⟩ := open_int Tryd.underlying32 (hval 2 32 v2 rfl rfl) h2
  have b2 := bounds_u32 w2
  obtain ⟨n2, rfl⟩ : ∃ n : Nat, a2 = n := ⟨a2.toNat, by omega⟩
  refine (sealBursts_true W hN s0 (n := n1) (by omega) (n' := n2) (by omega)).mono fun e W' ⟨he, hb⟩ => ?_
  subst he
  exact ⟨_, rfl, _, _, _, [], _, [], hW', trodAll_cons_mk (shut_bool Tryd.underlying4 _) trodAll_mk0, trodAll_cons_mk (Below.trod laidOut (by kernel_rfl) (of_decide_eq_true (by kernel_rfl)) h0 hb (fun x hx => hlt x (by simp [hx]))) (trodAll_cons_mk (shut_int Tryd.underlying45 w1) (trodAll_cons_mk (shut_int Tryd.underlying32 w2) (trodAll_mk0))), rfl, hb.frame _, fun h => by cases h⟩

theorem sealBursts_met (os : Os) : laidMet Tryd.prog Rows.sealBurstsRow.laid ((laidWorld os).forCall (fun _ _ => 0) ⟨#[], #[.slice none 0 0, .int .u16 0, .int .u32 0], []⟩).memory :=
  laidMet_of_run' 8 (by kernel_rfl) (by kernel_rfl)
theorem sealBursts_reads (os : Os) {H : Type} (enc : TypeId × Value → H) : ∃ places, DataW.whole enc Tryd.prog ((laidWorld os).forCall (fun _ _ => 0) ⟨#[], #[.slice none 0 0, .int .u16 0, .int .u32 0], []⟩).memory Tryd.f6.params.toList Rows.sealBurstsSpec.vars false (#[.slice none 0 0, .int .u16 0, .int .u32 0] : Array Value).toList 8 = some ([.nil, .lit (.int .u16 0), .lit (.int .u32 0)], [], places) :=
  ⟨[], by kernel_rfl⟩

set_option maxRecDepth 100000 in
theorem sealBursts_lifted (os : Os) (started : os.Started) (H : Type) (enc : TypeId × Value → H) (F : Stop.Interp) :
    ReturnsInHanded {} Tryd.checked os 6 .any ((OpenSpec.ofChange Rows.sealBurstsSpec).preRow enc Tryd.prog Tryd.f6 Rows.sealBurstsRow.domain false Rows.sealBurstsRow.laid) (((OpenSpec.ofChange Rows.sealBurstsSpec).at F).post enc Tryd.prog Tryd.f6 false true false false) := by
  obtain ⟨places, hx⟩ := sealBursts_reads os enc
  refine returnsInHanded_of_row (C := Tryd.checked) (s := OpenSpec.ofChange Rows.sealBurstsSpec) own started (by kernel_rfl) Tryd.func6
    (witness_row_at (enc := enc) (C := Tryd.checked) false (laidWorld os) #[.slice none 0 0, .int .u16 0, .int .u32 0] rfl (by kernel_rfl) (by kernel_rfl) (by kernel_rfl)
      (OpenSpec.preRow_of_cond 8 hx (by kernel_rfl) (fun k hk => by cases hk) (by kernel_rfl) (sealBursts_met os))) ?_
  intro W base args ds gs before hval hW _ _ _ hL _ _
  exact sealBursts_contract H enc W base args ds gs before hval hW hL

theorem sealBursts_said : Rows.SealBurstsSaid :=
  OpenClaim.holds_of_cond 6 Tryd.f6 rfl rfl rfl rfl rfl rfl rfl ⟨rfl, rfl, rfl, rfl, rfl⟩ rfl rfl rfl rfl rfl (by kernel_rfl) Tryd.func6 (by kernel_rfl)
    (of_decide_eq_true (by kernel_rfl)) (by unfold Func.isWrapper; first | (rw [if_pos (by decide +kernel)]; kernel_rfl) | (rw [if_neg (by decide +kernel)]; exact ⟨rfl, rfl⟩))
    (fun os started H enc _ F => by rw [OpenClaim.pre_eq_preRow]; exact sealBursts_lifted os started H enc F)

theorem sealBursts_plain (f : FuncId) (fn : Func) (hf : Tryd.pinned.checked.prog.funcNamed "armillary/armillarylaw01.SealBursts" = some f) (hfn : Tryd.pinned.checked.prog.funcs[f]? = some fn) :
    false = Tryd.pinned.checked.prog.looks [] ∧ ∀ (j : Nat) t, fn.params[j]? = some t → Tryd.pinned.checked.prog.wantsStandIn t = false := by
  obtain rfl : f = 6 := Option.some.inj ((show Tryd.prog.funcNamed "armillary/armillarylaw01.SealBursts" = some 6 by kernel_rfl).symm.trans hf) |>.symm
  obtain rfl : fn = Tryd.f6 := (Option.some.inj (Tryd.func6.symm.trans hfn)).symm
  refine ⟨by kernel_rfl, fun j t ht => ?_⟩
  have all : Tryd.f6.params.toList.all (fun t => Tryd.prog.wantsStandIn t == false) = true := by kernel_rfl
  have hm : t ∈ Tryd.f6.params.toList := Array.mem_toList_iff.2 (Array.mem_of_getElem? ht)
  exact eq_of_beq (List.all_eq_true.1 all t hm)

theorem sealBursts_card : Rows.SealBurstsCardSaid :=
  Claim7.holds_tied_plain_at .later [] _ _ _ _ sealBursts_said (fun _ h => by cases h) (by kernel_rfl) (fun _ h => by cases h) sealBursts_row_tie rfl ⟨rfl, rfl⟩ (by kernel_rfl) rfl sealBursts_plain (by kernel_rfl)

end Go.Proofs.YtiaiagkfkckkpaaDoor
