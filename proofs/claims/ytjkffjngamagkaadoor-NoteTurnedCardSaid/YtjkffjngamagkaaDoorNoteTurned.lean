/- armillarylaw12: NoteTurned. -/
import Derived.Test.YtjkffjngamagkaaDoorNoteCuts
import Derived.Test.YtjkffjngamagkaaDoorBurst
import Derived.Test.YtjkffjngamagkaaDoorRefSame
namespace Go.Proofs.YtjkffjngamagkaaDoor
open Go Go.RowKit Go.Arm
theorem enc_pos : ∀ n : Nat, 0 < (enc n).length := by
  intro n
  unfold enc
  split <;> simp
theorem encNote_pos (n : NoteR) : 0 < (encNote n).length := by
  unfold encNote
  have := enc_pos n.kind.toNat
  simp only [List.length_append]
  omega
theorem or32' (x y : Nat) (hx : x < 4294967296) (hy : y < 4294967296) : bits .or .u32 (x : Int) (y : Int) = ((x ||| y : Nat) : Int) := or32 x y hx hy
set_option maxHeartbeats 4000000 in
set_option maxRecDepth 100000 in
theorem noteTurned_any (w : World) (hN : Srt w) (hB : Nib w) (S : Nat → Prop) (n0 : NoteR) (V : Value) (hV : Nt w S n0 V) (k : Nat) (hk : k < 65536) (n' : Nat) (hn' : n' < 4294967296) :
    Calls Tryd.prog 5 #[V, .int .u16 (k : Int), .int .u32 (n' : Int)] w fun e w' => e = .returned (.bool true) ∧ Below w.heap.size w w' := by
  have hV0 := hV.old
  clear hV
  obtain ⟨vp, vo, vv, vh, hVe, y1, y2, y3, y4⟩ := nt_shape hV0
  go_enter Tryd.func5, Tryd.ntmps5
  subst hVe
  go_wp2_with (first | ((with_reducible apply wpList_unguard); rfl) | ((with_reducible (first | apply len_B)); assumption) | ((with_reducible refine stop_if kX ?_ ?_); rfl))
  refine Stop.go (box_R rfl fun b w1 bx1 hbg ha1 => ?_)
  have hV1 := hV0.below ha1 (Nat.le_refl _)
  clear hV0 y1 y2 y3 y4
  go_wp2_with (first | ((with_reducible apply wpList_unguard); rfl) | ((with_reducible (first | apply len_B)); assumption) | ((with_reducible refine stop_if kX ?_ ?_); rfl))
  refine (awake12_any w1 (hN.below ha1 (Nat.le_refl _)) (hB.below ha1 (Nat.le_refl _))).mono ?_
  rintro e w2 ⟨rfl, hb2⟩
  have hV2 := hV1.below hb2 (Nat.le_refl _)
  have bx2 := bx1.below hb2 (Blk.lt bx1)
  have ha2 := below_on ha1 hb2 ha1.size
  clear hV1 bx1 hb2 ha1
  go_wp2_with (first | ((with_reducible apply wpList_unguard); rfl) | ((with_reducible (first | apply len_B)); assumption) | ((with_reducible refine stop_if kX ?_ ?_); rfl))
  refine Stop.go (load_R bx2 rfl ?_)
  go_wp2_with (first | ((with_reducible apply wpList_unguard); rfl) | ((with_reducible (first | apply len_B)); assumption) | ((with_reducible refine stop_if kX ?_ ?_); rfl))
  refine (rfewn_any w2 _ n0 _ hV2).mono ?_
  rintro e w3 ⟨V3, rfl, hV3, hb3⟩
  generalize fewN n0 = n at *
  have ha3 := below_on ha2 hb3 ha2.size
  clear hV2 bx2 hb3 ha2
  go_wp2_with (first | ((with_reducible apply wpList_unguard); rfl) | ((with_reducible (first | apply len_B)); assumption) | ((with_reducible refine stop_if kX ?_ ?_); rfl))
  refine (rpack_any w3 _ n _ hV3).mono ?_
  rintro e w4 ⟨pv, rfl, hpv, hb4⟩
  have hnl : nright n = true → (encNote n).length ≤ 4096 := fun h => encNote_len (nright_fair h)
  have ha4 := below_on ha3 hb4 ha3.size
  have s34 := hb4.size
  clear hV3 hb4 ha3
  cases hnr : nright n
  · rw [hnr] at hpv
    simp only [Bool.false_eq_true, if_false] at hpv ⊢
    clear hnl hnr
    go_wp2_with (first | ((with_reducible apply wpList_unguard); rfl) | ((with_reducible (first | apply len_B)); assumption) | ((with_reducible refine stop_if kX ?_ ?_); rfl))
    go_ret
    exact ⟨rfl, ha4⟩
  have hl := hnl hnr
  rw [hnr] at hpv
  simp only [if_true] at hpv ⊢
  have hcp := encNote_pos n
  clear hnl hnr
  generalize encNote n = c at *
  have hfl : (frame c).length = 6 + c.length := frame_len c
  have hturn := fun at_ pat h1 h2 => opened_turn c at_ pat hl h1 h2
  have hdr : (frame c).drop 6 = c := by
    have h1 : (low (sum (framed c)).toNat 4 ++ low c.length 2).length = 6 := by simp [low_len]
    have e : frame c = (low (sum (framed c)).toNat 4 ++ low c.length 2) ++ c := by simp [frame_parts]
    rw [e]; exact List.drop_left' h1
  obtain ⟨F, hF⟩ : ∃ F, F = frame c := ⟨_, rfl⟩
  rw [← hF] at hpv hturn hfl hdr
  have HT := Lib.hid hturn
  have hpf := hpv.sl'
  obtain ⟨u1, hu1, hs1⟩ := hpf.slice_run_h (P := Tryd.prog) rowB .i64 6 (by decide) (by omega)
  obtain ⟨u2, hu2, hs2⟩ := hpf.slice_run_l (P := Tryd.prog) rowB .i64 6 (by decide) (by omega)
  have hlr := hpf.len_run (P := Tryd.prog) rowB.1
  have e6 : Int.toNat 6 = 6 := rfl
  rw [e6] at hs1 hs2
  rw [hdr] at hs2
  have htl : (F.take 6).length = 6 := by rw [List.length_take]; omega
  have hFl : (F.length : Int) = 6 + c.length := by omega
  rw [hFl] at hlr
  obtain ⟨H6, hH6⟩ : ∃ H6, H6 = F.take 6 := ⟨_, rfl⟩
  rw [← hH6] at hs1 htl
  obtain ⟨j, hj, hjl⟩ : ∃ j : Nat, (k : Int) % (8 * (c.length : Int)) = j ∧ j < 8 * c.length := ⟨k % (8 * c.length), by simp, Nat.mod_lt _ (by omega)⟩
  have hor : bits .or .u32 (n' : Int) 1 = ((n' ||| 1 : Nat) : Int) := or32 n' 1 hn' (by decide)
  have hpl : n' ||| 1 < 4294967296 := Nat.or_lt_two_pow (n := 32) hn' (by decide)
  have hp0 : (n' ||| 1).testBit 0 = true := by simp
  obtain ⟨pat, hpat⟩ : ∃ pat, pat = n' ||| 1 := ⟨_, rfl⟩
  rw [← hpat] at hpl hp0 hor
  have ht5 := nunp_bad (L := plim) (HT.out j pat hjl hp0) (by decide)
  rw [← hH6] at ht5
  have htn : (turn c j pat).length = c.length := turn_len c j pat
  obtain ⟨R, hR⟩ : ∃ R, R = turn c j pat := ⟨_, rfl⟩
  rw [← hR] at ht5 htn
  have HR := Lib.hid hR
  have HJ := Lib.hid hj
  have HO := Lib.hid hor
  have H5 := Lib.hid ht5
  have hc0 : ¬ 8 * (c.length : Int) = 0 := by omega
  obtain ⟨pa, pn, pc, rfl⟩ := Sl.shape hpf
  clear hF hfl hturn hdr hpf hpv e6 hFl hH6 HT hj hor hp0 hpat ht5 hR
  go_upto_region 6 with (fail)
  have hd := (Below.refl w4.heap.size w4).drew
  have h1d := hs1.below hd (Nat.le_refl _)
  have h2d := hs2.below hd (Nat.le_refl _)
  have had := below_on ha4 hd ha4.size
  clear hs1 hs2 ha4 hd
  refine wp_region_D (fun _ => True) 100 (fun _ => True) 17 rfl (by kernel_rfl) ?_
  generalize w4.drew = wd at *
  refine wpAnyD_take (i := 0) (dst := some 22) (v := .slice pa pn pc) rfl rfl (by decide) (by kernel_rfl) (by kernel_rfl) (by kernel_rfl) (fun _ _ _ h => h) (.inl ⟨by rfl, fun _ _ => by kernel_rfl⟩) (trivial) (.inr trivial) ?_
  simp only [Act.put, List.setIfInBounds_toArray, List.set_cons_zero, List.set_cons_succ]
  refine wpAnyD_take (i := 1) (dst := some 23) (v := u1) rfl rfl (by decide) (by kernel_rfl) (by kernel_rfl) (by kernel_rfl) (fun _ _ _ h => h) (.inl ⟨by rfl, fun _ _ => by go_simp⟩) (trivial) (.inr trivial) ?_
  simp only [Act.put, List.setIfInBounds_toArray, List.set_cons_zero, List.set_cons_succ]
  refine wpAnyD_take (i := 3) (dst := some 25) (v := .slice pa pn pc) rfl rfl (by decide) (by kernel_rfl) (by kernel_rfl) (by kernel_rfl) (fun _ _ _ h => h) (.inl ⟨by rfl, fun _ _ => by kernel_rfl⟩) (trivial) (.inr trivial) ?_
  simp only [Act.put, List.setIfInBounds_toArray, List.set_cons_zero, List.set_cons_succ]
  refine wpAnyD_take (i := 4) (dst := some 26) (v := u2) rfl rfl (by decide) (by kernel_rfl) (by kernel_rfl) (by kernel_rfl) (fun _ _ _ h => h) (.inl ⟨by rfl, fun _ _ => by go_simp⟩) (trivial) (.inr trivial) ?_
  simp only [Act.put, List.setIfInBounds_toArray, List.set_cons_zero, List.set_cons_succ]
  refine wpAnyD_take (i := 5) (dst := some 27) (v := .int .u16 (k : Int)) rfl rfl (by decide) (by kernel_rfl) (by kernel_rfl) (by kernel_rfl) (fun _ _ _ h => h) (.inl ⟨by rfl, fun _ _ => by kernel_rfl⟩) (trivial) (.inr trivial) ?_
  simp only [Act.put, List.setIfInBounds_toArray, List.set_cons_zero, List.set_cons_succ]
  refine wpAnyD_take (i := 6) (dst := some 28) (v := .int .i64 (k : Int)) rfl rfl (by decide) (by kernel_rfl) (by kernel_rfl) (by kernel_rfl) (fun _ _ _ h => h) (.inl ⟨by rfl, fun _ _ => by go_simp; exact IntWalk.i64_in _ (by omega)⟩) (trivial) (.inr trivial) ?_
  simp only [Act.put, List.setIfInBounds_toArray, List.set_cons_zero, List.set_cons_succ]
  refine wpAnyD_take (i := 7) (dst := some 29) (v := .slice pa pn pc) rfl rfl (by decide) (by kernel_rfl) (by kernel_rfl) (by kernel_rfl) (fun _ _ _ h => h) (.inl ⟨by rfl, fun _ _ => by kernel_rfl⟩) (trivial) (.inr trivial) ?_
  simp only [Act.put, List.setIfInBounds_toArray, List.set_cons_zero, List.set_cons_succ]
  refine wpAnyD_take (i := 8) (dst := some 30) (v := .int .i64 (6 + (c.length : Int))) rfl rfl (by decide) (by kernel_rfl) (by kernel_rfl) (by kernel_rfl) (fun _ _ _ h => h) (.inl ⟨by rfl, fun _ _ => by go_simp⟩) (trivial) (.inr trivial) ?_
  simp only [Act.put, List.setIfInBounds_toArray, List.set_cons_zero, List.set_cons_succ]
  refine wpAnyD_take (i := 9) (dst := some 31) (v := .int .i64 (c.length : Int)) rfl rfl (by decide) (by kernel_rfl) (by kernel_rfl) (by kernel_rfl) (fun _ _ _ h => h) (.inl ⟨by rfl, fun _ _ => by go_simp; rw [IntWalk.i64_in _ (by omega)]; omega⟩) (trivial) (.inr trivial) ?_
  simp only [Act.put, List.setIfInBounds_toArray, List.set_cons_zero, List.set_cons_succ]
  refine wpAnyD_take (i := 10) (dst := some 32) (v := .int .i64 (8 * (c.length : Int))) rfl rfl (by decide) (by kernel_rfl) (by kernel_rfl) (by kernel_rfl) (fun _ _ _ h => h) (.inl ⟨by rfl, fun _ _ => by go_simp; exact IntWalk.i64_in _ (by omega)⟩) (trivial) (.inr trivial) ?_
  simp only [Act.put, List.setIfInBounds_toArray, List.set_cons_zero, List.set_cons_succ]
  refine wpAnyD_take (i := 11) (dst := some 33) (v := .int .i64 (j : Int)) rfl rfl (by decide) (by kernel_rfl) (by kernel_rfl) (by kernel_rfl) (fun _ _ _ h => h) (.inl ⟨by rfl, fun _ _ => by go_simp; exact HJ.out⟩) (trivial) (.inr trivial) ?_
  simp only [Act.put, List.setIfInBounds_toArray, List.set_cons_zero, List.set_cons_succ]
  refine wpAnyD_take (i := 12) (dst := some 34) (v := .int .u32 (n' : Int)) rfl rfl (by decide) (by kernel_rfl) (by kernel_rfl) (by kernel_rfl) (fun _ _ _ h => h) (.inl ⟨by rfl, fun _ _ => by kernel_rfl⟩) (trivial) (.inr trivial) ?_
  simp only [Act.put, List.setIfInBounds_toArray, List.set_cons_zero, List.set_cons_succ]
  refine wpAnyD_take (i := 13) (dst := some 35) (v := .int .u32 (pat : Int)) rfl rfl (by decide) (by kernel_rfl) (by kernel_rfl) (by kernel_rfl) (fun _ _ _ h => h) (.inl ⟨by rfl, fun _ _ => by go_simp; exact HO.out⟩) (trivial) (.inr trivial) ?_
  simp only [Act.put, List.setIfInBounds_toArray, List.set_cons_zero, List.set_cons_succ]
  refine wpAnyD_step (i := 2) (by kernel_rfl) rfl fun K hK => ?_
  refine step_call (vs := #[u1]) (by rfl) (by go_simp) (by kernel_rfl) (copy_any wd _ H6 u1 h1d (by omega)) ?_
  rintro e w5 ⟨v5, rfl, hv5, hb5⟩
  have h25 := h2d.below hb5 (Nat.le_refl _)
  have sd5 := hb5.size
  have swd := had.size
  have ha5 := below_on had hb5 had.size
  clear h1d h2d had hb5
  refine ⟨_, rfl, hK _ _ trivial trivial ?_⟩
  clear hK K
  simp only [Act.put, List.setIfInBounds_toArray, List.set_cons_zero, List.set_cons_succ]
  refine wpAnyD_step (i := 14) (by kernel_rfl) rfl fun K hK => ?_
  refine step_call (vs := #[u2, .int .i64 (j : Int), .int .u32 (pat : Int)]) (by rfl) (by go_simp) (by kernel_rfl) (turn_any w5 _ c u2 j pat h25 (by omega) (by omega) hpl) ?_
  rintro e w6 ⟨v6, rfl, hv6, hb6⟩
  rw [← HR.out] at hv6
  have hv56 := hv5.below hb6 (Nat.le_refl _)
  have ha6 := below_on ha5 hb6 ha5.size
  have s56 := hb6.size
  clear h25 hv5 ha5 hb6
  refine ⟨_, rfl, hK _ _ trivial trivial ?_⟩
  clear hK K
  simp only [Act.put, List.setIfInBounds_toArray, List.set_cons_zero, List.set_cons_succ]
  refine wpAnyD_step (i := 15) (by kernel_rfl) rfl fun K hK => ?_
  refine step_app_B (B := wd.heap.size) (l := H6) (m := R) hv56 hv6.sl' (by omega) (by have := ha6.size; omega) fun v8 w8 g1 g2 _ => ?_
  have g2 : w6.grownBy w8 v5.ownBlock := g2
  have ha8 := ha6.grown g2 ha6.size (fun b hb => by have := (hv56.ge b hb).1; omega)
  have hv8 := g1.sl'
  obtain ⟨G, hG⟩ : ∃ G, G = H6 ++ R := ⟨_, rfl⟩
  have hGl : G.length ≤ 140737488355328 := by rw [hG, List.length_append]; omega
  rw [← hG] at hv8 H5
  clear g1 g2 hv56 hv6 ha6 hG
  refine hK _ _ trivial trivial ?_
  clear hK K
  simp only [Act.put, List.setIfInBounds_toArray, List.set_cons_zero, List.set_cons_succ]
  refine wpAnyD_take (i := 16) (dst := some 9) (v := v8) rfl rfl (by decide) (by kernel_rfl) (by kernel_rfl) (by kernel_rfl) (fun _ _ _ h => h) (.inl ⟨by rfl, fun _ _ => by kernel_rfl⟩) (trivial) (.inr trivial) ?_
  simp only [Act.put, List.setIfInBounds_toArray, List.set_cons_zero, List.set_cons_succ]
  refine wpAnyD_done (by kernel_rfl) ?_

  go_wp2_with (first | ((with_reducible apply wpList_unguard); rfl) | ((with_reducible (first | apply len_B)); assumption) | ((with_reducible refine stop_if kX ?_ ?_); rfl))
  refine (nunpack_any w8 _ G v8 (hB.below ha8 (Nat.le_refl _)) (hN.below ha8 (Nat.le_refl _)) hv8 (by omega)).mono ?_
  rw [H5.out]
  rintro e w9 ⟨V9, rfl, hV9, hb9⟩
  have hV9 : Nt w9 (fun b => w8.heap.size ≤ b) zeroN V9 := hV9
  have ha9 := below_on ha8 hb9 ha8.size
  clear hv8 hGl hb9 ha8 H5
  obtain ⟨ap, ao, av, ah, rfl, x1, x2, x3, x4⟩ := nt_shape hV9
  have one := noteV_one zeroN x1 x2 x3 x4
  go_wp2_with (first | ((with_reducible apply wpList_unguard); rfl) | ((with_reducible (first | apply len_B)); assumption) | ((with_reducible refine stop_if kX ?_ ?_); rfl))
  refine Stop.go (blk_alloc (z := .agg zeroCells) (cs := zeroCells) (zero_run (by kernel_rfl)) rfl fun d w10 k10 hd10 ha10 => ?_)
  go_wp2_with (first | ((with_reducible apply wpList_unguard); rfl) | ((with_reducible (first | apply len_B)); assumption) | ((with_reducible refine stop_if kX ?_ ?_); rfl))
  refine Stop.go (blk_store_all (cs' := (noteV zeroN ap ao av ah).cells) k10 rfl rfl (by kernel_rfl) rfl one fun w11 k11 o11 z11 => ?_)
  have o911 : Only (fun k => w9.heap.size ≤ k) w9 w11 := (Only.of_below ha10).trans o11 fun k hk e => by omega
  have bx11 : Box w11 d zeroN ap ao av ah := k11
  have hV11 := hV9.keep (S' := fun b => w8.heap.size ≤ b) fun b hb hlt => ⟨o911.block b hlt (by omega), hb⟩
  have ha11 := below_only ha9 o911 fun b hb => by have := ha9.size; omega
  clear k10 ha10 k11 o11 z11 hV9 one x1 x2 x3 x4 ha9 o911
  go_wp2_with (first | ((with_reducible apply wpList_unguard); rfl) | ((with_reducible (first | apply len_B)); assumption) | ((with_reducible refine stop_if kX ?_ ?_); rfl))
  refine Stop.go (load_N bx11 rfl ?_)
  go_wp2_with (first | ((with_reducible apply wpList_unguard); rfl) | ((with_reducible (first | apply len_B)); assumption) | ((with_reducible refine stop_if kX ?_ ?_); rfl))
  refine (rsame_any w11 _ (fun _ => False) zeroN zeroN _ _ hV11 (zero_nt _ _)).mono ?_
  rintro e w12 ⟨rfl, hb12⟩
  have eT : (zeroN == zeroN) = true := by simp
  rw [eT]
  have ha12 := below_on ha11 hb12 ha11.size
  go_wp2_with (fail)
  go_ret
  exact ⟨rfl, ha12⟩
theorem noteTurned_true (w : World) (hN : Srt w) (hB : Nib w) {S : Nat → Prop} {n0 : NoteR} {V : Value} {n n' : Nat} (hV : Nt w S n0 V) (hk : n < 65536) (hk' : n' < 4294967296) :
    Calls Tryd.prog 5 #[V, .int .u16 (n : Int), .int .u32 (n' : Int)] w fun e w' => e = .returned (.bool true) ∧ Below w.heap.size w w' := noteTurned_any w hN hB S n0 V hV n hk n' hk'
end Go.Proofs.YtjkffjngamagkaaDoor
