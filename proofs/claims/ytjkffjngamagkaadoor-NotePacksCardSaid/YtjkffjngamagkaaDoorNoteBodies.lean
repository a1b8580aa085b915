/- armillarylaw12: NoteBodies. -/
import Derived.Test.YtjkffjngamagkaaDoorRefUnp
import Derived.Test.YtjkffjngamagkaaDoorRefSame
import Derived.Test.YtjkffjngamagkaaDoorNoteShape
namespace Go.Proofs.YtjkffjngamagkaaDoor
open Go Go.RowKit Go.Arm
theorem nunp_eq (l : List UInt8) : nunp rlim l = nunp plim l := by
  unfold nunp
  rw [unp_eq rlim_ok plim_ok]
set_option maxHeartbeats 4000000 in
set_option maxRecDepth 100000 in
theorem noteBodies_any (w : World) (hN : Srt w) (hB : Nib w) (S : Nat → Prop) (l : List UInt8) (p : Value) (hp : Sl w S l p) :
    Calls Tryd.prog 4 #[p] w fun e w' => e = .returned (.bool true) ∧ Below w.heap.size w w' := by
  go_enter Tryd.func4, Tryd.ntmps4
  go_wp2_with (fail)
  refine (awake12_any w hN hB).mono ?_
  rintro e w1 ⟨rfl, ha1⟩
  have p1 := hp.below ha1 (Nat.le_refl _)
  clear hp
  go_wp2_with (fail)
  refine (cut_any w1 S l p 1500 p1 (by decide) (by decide)).mono ?_
  rintro e w2 ⟨q, rfl, hq, hb2⟩
  have hcl : (l.take (Int.toNat 1500)).length ≤ 1500 := by rw [List.length_take]; exact Nat.min_le_left _ _
  generalize l.take (Int.toNat 1500) = c at *
  have ha2 := below_on ha1 hb2 ha1.size
  clear p1 hb2
  go_wp2_with (fail)
  refine (rframe_any w2 _ c q hq.sl' (by omega)).mono ?_
  rintro e w3 ⟨f, rfl, hf, hb3⟩
  have ha3 := below_on ha2 hb3 ha2.size
  have hf3 := hf.sl'
  have hfl : (frame c).length ≤ 140737488355328 := by rw [frame_len]; omega
  have hnf := nunp_frame plim c (by omega)
  obtain ⟨F, hF⟩ : ∃ F, F = frame c := ⟨_, rfl⟩
  rw [← hF] at hf3 hfl hnf
  have HF := Lib.hid hF
  clear hq hb3 hF hf
  go_wp2_with (fail)
  refine (nunpack_any w3 _ F f (hB.below ha3 (Nat.le_refl _)) (hN.below ha3 (Nat.le_refl _)) hf3 hfl).mono ?_
  rintro e w4 ⟨V, rfl, hV, hb4⟩
  have hru := fun w S p h => runpack_any w S F p h hfl
  rw [nunp_eq] at hru
  obtain ⟨U, hU⟩ : ∃ U, U = nunp plim F := ⟨_, rfl⟩
  rw [← hU] at hru hnf hV ⊢
  have HU := Lib.hid hnf
  clear hnf hU
  obtain ⟨n, c1⟩ := U
  have hV : Nt w4 (fun b => w3.heap.size ≤ b) n V := hV
  have ha4 := below_on ha3 hb4 ha3.size
  have hf4 := hf3.below hb4 (Nat.le_refl _)
  have s3 := ha3.size
  have s4 := hb4.size
  clear hf3 hb4
  obtain ⟨vp, vo, vv, vh, rfl, y1, y2, y3, y4⟩ := nt_shape hV
  have one1 := noteV_one n y1 y2 y3 y4
  go_wp2_with (first | ((with_reducible apply wpList_unguard); rfl) | ((with_reducible refine stop_if kD ?_ ?_); rfl))
  refine Stop.go (blk_alloc (z := .agg zeroCells) (cs := zeroCells) (zero_run (by kernel_rfl)) rfl fun b5 w5 k5 hb5 ha5 => ?_)
  go_wp2_with (first | ((with_reducible apply wpList_unguard); rfl) | ((with_reducible refine stop_if kD ?_ ?_); rfl))
  refine Stop.go (blk_store_all (cs' := (noteV n vp vo vv vh).cells) k5 rfl rfl (by kernel_rfl) rfl one1 fun w6 k6 o6 z6 => ?_)
  have hbx6 : Box w6 b5 n vp vo vv vh := k6
  have s56 := ha5.size
  have s66 := o6.size
  have o46 : Only (fun b => w4.heap.size ≤ b) w4 w6 := (Only.of_below ha5).trans o6 fun b hb e => by omega
  have hV6 := hV.keep (S' := fun b => w3.heap.size ≤ b) fun b hb hlt => ⟨o46.block b hlt (by omega), hb⟩
  have hf6 := hf4.only o46 fun b hb hlt => by omega
  have ha6 := below_only ha4 o46 fun b hb => by have := ha4.size; omega
  clear k5 ha5 k6 o6 z6 hV hf4 ha4
  go_wp2_with (first | ((with_reducible apply wpList_unguard); rfl) | ((with_reducible refine stop_if kD ?_ ?_); rfl))
  refine (hru w6 _ f hf6).mono ?_
  rintro e w7 ⟨V2, rfl, hV2, hb7⟩
  have hV2 : Nt w7 (fun b => w6.heap.size ≤ b) n V2 := hV2
  have hbx7 := hbx6.below hb7 (Blk.lt hbx6)
  have hV7 := hV6.below hb7 (Nat.le_refl _)
  have hf7 := hf6.below hb7 (Nat.le_refl _)
  have ha7 := below_on ha6 hb7 ha6.size
  have b5lt := Blk.lt hbx6
  have s7 := hb7.size
  clear hbx6 hV6 hf6 ha6 hb7 hru
  obtain ⟨up, uo, uv, uh, rfl, z1, z2, z3, z4⟩ := nt_shape hV2
  have one2 := noteV_one n z1 z2 z3 z4
  go_wp2_with (first | ((with_reducible apply wpList_unguard); rfl) | ((with_reducible refine stop_if kD ?_ ?_); rfl))
  refine Stop.go (blk_alloc (z := .agg zeroCells) (cs := zeroCells) (zero_run (by kernel_rfl)) rfl fun b8 w8 k8 hb8 ha8 => ?_)
  go_wp2_with (first | ((with_reducible apply wpList_unguard); rfl) | ((with_reducible refine stop_if kD ?_ ?_); rfl))
  refine Stop.go (blk_store_all (cs' := (noteV n up uo uv uh).cells) k8 rfl rfl (by kernel_rfl) rfl one2 fun w9 k9 o9 z9 => ?_)
  have hbx9 : RBox w9 b8 n up uo uv uh := k9
  have o79 : Only (fun b => w7.heap.size ≤ b) w7 w9 := (Only.of_below ha8).trans o9 fun b hb e => by omega
  have hbn9 := hbx7.only o79 (by omega)
  have hV9 := hV7.keep (S' := fun b => w3.heap.size ≤ b) fun b hb hlt => ⟨o79.block b hlt (by omega), hb⟩
  have hU9 := hV2.keep (S' := fun b => w3.heap.size ≤ b) fun b hb hlt => ⟨o79.block b hlt (by omega), by have := hb; omega⟩
  have hf9 := hf7.only o79 fun b hb hlt => by omega
  have ha9 := below_only ha7 o79 fun b hb => by have := ha7.size; omega
  clear k8 ha8 k9 o9 z9 hV7 hf7 ha7 hV2 hbx7 o46
  go_wp2_with (first | ((with_reducible apply wpList_unguard); rfl) | ((with_reducible refine stop_if kD ?_ ?_); rfl))
  refine Stop.go (load_N hbn9 rfl ?_)
  go_wp2_with (first | ((with_reducible apply wpList_unguard); rfl) | ((with_reducible refine stop_if kD ?_ ?_); rfl))
  refine Stop.go (load_R hbx9 rfl ?_)
  go_wp2_with (first | ((with_reducible apply wpList_unguard); rfl) | ((with_reducible refine stop_if kD ?_ ?_); rfl))
  refine (rsame_any w9 _ _ n n _ _ hV9 hU9).mono ?_
  rintro e w10 ⟨rfl, hb10⟩
  have eT : (n == n) = true := by simp
  rw [eT]
  clear eT
  have hbn10 := hbn9.below hb10 (Blk.lt hbn9)
  have hV10 := hV9.below hb10 (Nat.le_refl _)
  have hf10 := hf9.below hb10 (Nat.le_refl _)
  have ha10 := below_on ha9 hb10 ha9.size
  clear hV9 hU9 hf9 ha9 hbx9 hbn9 hb10 o79
  go_wp2_with (first | ((with_reducible apply wpList_unguard); rfl) | ((with_reducible refine stop_if kD ?_ ?_); rfl))
  refine Stop.go (load_N hbn10 rfl ?_)
  go_wp2_with (first | ((with_reducible apply wpList_unguard); rfl) | ((with_reducible refine stop_if kD ?_ ?_); rfl))
  refine (npack_any w10 _ n _ (hN.below ha10 (Nat.le_refl _)) (hB.below ha10 (Nat.le_refl _)) hV10).mono ?_
  rintro e w11 ⟨pv, rfl, hpv, hb11⟩
  have hf11 := hf10.below hb11 (Nat.le_refl _)
  have ha11 := below_on ha10 hb11 ha10.size
  clear hbn10 hV10 hf10 ha10 hb11
  by_cases hc1 : c1 = 0
  · subst hc1
    obtain ⟨hr, hcn⟩ := unp_form plim_ok (l := c) (by rw [← HU.out])
    rw [← HU.out] at hr hcn
    have hr : nright n = true := hr
    have hcn : c = encNote n := hcn
    rw [hr] at hpv ⊢
    simp only [if_true] at hpv ⊢
    rw [← hcn, ← HF.out] at hpv
    go_wp2_with (fail)
    refine (same_any w11 _ _ F F _ _ hpv.sl' hf11).mono ?_
    rintro e w12 ⟨rfl, rfl⟩
    have eT : (F == F) = true := by simp
    rw [eT]
    go_wp2_with (fail)
    go_ret
    exact ⟨rfl, ha11⟩
  · generalize (if nright n = true then (0 : Int) else 4) = c2
    have hc1b : (c1 != 0) = true := by simp [hc1]
    go_wp2_with (fail)
    go_ret
    exact ⟨rfl, ha11⟩
theorem noteBodies_true (w : World) (hN : Srt w) (hB : Nib w) {S : Nat → Prop} {l : List UInt8} {p : Value} (hp : Sl w S l p) :
    Calls Tryd.prog 4 #[p] w fun e w' => e = .returned (.bool true) ∧ Below w.heap.size w w' := noteBodies_any w hN hB S l p hp
end Go.Proofs.YtjkffjngamagkaaDoor
