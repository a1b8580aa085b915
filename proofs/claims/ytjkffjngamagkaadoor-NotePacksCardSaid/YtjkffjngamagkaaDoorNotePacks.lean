/- armillarylaw12: NotePacks. -/
import Derived.Test.YtjkffjngamagkaaDoorNoteBodies
import Derived.Test.YtjkffjngamagkaaDoorRefFewN
import Derived.Test.YtjkffjngamagkaaDoorRefPack
import Derived.Test.YtjkffjngamagkaaDoorRefRight
import Derived.Test.YtjkffjngamagkaaDoorNoteSame
namespace Go.Arm
theorem few_twice (n : NoteR) : fewN (fewN n) = fewN n := by
  have hO : ∀ l : List OpR, (((l.take 18).map cutO).take 18).map cutO = (l.take 18).map cutO := by
    intro l
    rw [← List.map_take, List.take_take, List.map_map]
    refine List.map_congr_left fun o _ => ?_
    simp [cutO, List.take_take]
  have hH : ∀ l : List HitR, (((l.take 18).map cutH).take 18).map cutH = (l.take 18).map cutH := by
    intro l
    rw [← List.map_take, List.take_take, List.map_map]
    refine List.map_congr_left fun o _ => ?_
    simp [cutH, List.take_take]
  simp only [fewN, hO, hH, List.take_take, Nat.min_self]
end Go.Arm
namespace Go.Proofs.YtjkffjngamagkaaDoor
open Go Go.RowKit Go.Arm
set_option maxHeartbeats 16000000 in
set_option maxRecDepth 100000 in
theorem notePacks_any (w : World) (hN : Srt w) (hB : Nib w) (S : Nat → Prop) (n0 : NoteR) (V : Value) (hV : Nt w S n0 V) :
    Calls Tryd.prog 7 #[V] w fun e w' => e = .returned (.bool true) ∧ Below w.heap.size w w' := by
  have hV0 := hV.old
  clear hV
  obtain ⟨vp, vo, vv, vh, hVe, y1, y2, y3, y4⟩ := nt_shape hV0
  go_enter Tryd.func7, Tryd.ntmps7
  subst hVe
  go_wp2_with (first | ((with_reducible apply wpList_unguard); rfl) | ((with_reducible refine stop_if kD ?_ ?_); rfl))
  refine Stop.go (box_R rfl fun b w1 bx1 hbg ha1 => ?_)
  have hV1 := hV0.below ha1 (Nat.le_refl _)
  clear hV0
  go_wp2_with (first | ((with_reducible apply wpList_unguard); rfl) | ((with_reducible refine stop_if kD ?_ ?_); rfl))
  refine (awake12_any w1 (hN.below ha1 (Nat.le_refl _)) (hB.below ha1 (Nat.le_refl _))).mono ?_
  rintro e w2 ⟨rfl, hb2⟩
  have hV2 := hV1.below hb2 (Nat.le_refl _)
  have bx2 := bx1.below hb2 (Blk.lt bx1)
  have ha2 := below_on ha1 hb2 ha1.size
  clear hV1 bx1 hb2 ha1
  go_wp2_with (first | ((with_reducible apply wpList_unguard); rfl) | ((with_reducible refine stop_if kD ?_ ?_); rfl))
  refine Stop.go (load_R bx2 rfl ?_)
  go_wp2_with (first | ((with_reducible apply wpList_unguard); rfl) | ((with_reducible refine stop_if kD ?_ ?_); rfl))
  refine (rfewn_any w2 _ n0 _ hV2).mono ?_
  rintro e w3 ⟨V3, rfl, hV3, hb3⟩
  have bx3 := bx2.below hb3 (Blk.lt bx2)
  have ha3 := below_on ha2 hb3 ha2.size
  have hblt := Blk.lt bx2
  have s23 := hb3.size
  have hid := few_twice n0
  generalize fewN n0 = n at *
  have HID := Lib.hid hid
  clear hV2 bx2 hb3 ha2 hid y1 y2 y3 y4
  obtain ⟨up, uo, uv, uh, rfl, z1, z2, z3, z4⟩ := nt_shape hV3
  go_wp2_with (first | ((with_reducible apply wpList_unguard); rfl) | ((with_reducible refine stop_if kD ?_ ?_); rfl))
  refine Stop.go (store_R bx3 rfl rfl z1 z2 z3 z4 fun w4 bx4 o4 s4 => ?_)
  have hV4 := hV3.keep (S' := fun k => w2.heap.size ≤ k) fun k hk hlt => ⟨o4.block k hlt (by omega), hk⟩
  have ha4 := below_only ha3 o4 fun k hk => by omega
  clear hV3 bx3 o4 ha3
  go_wp2_with (first | ((with_reducible apply wpList_unguard); rfl) | ((with_reducible refine stop_if kD ?_ ?_); rfl))
  refine Stop.go (load_R bx4 rfl ?_)
  go_wp2_with (first | ((with_reducible apply wpList_unguard); rfl) | ((with_reducible refine stop_if kD ?_ ?_); rfl))
  refine (rfewn_any w4 _ n _ hV4).mono ?_
  rw [HID.out]
  rintro e w5 ⟨V5, rfl, hV5, hb5⟩
  have bx5 := bx4.below hb5 (Blk.lt bx4)
  have hU5 := hV4.below hb5 (Nat.le_refl _)
  have ha5 := below_on ha4 hb5 ha4.size
  have s5 := hb5.size
  have hblt4 := Blk.lt bx4
  clear bx4 hV4 hb5 ha4
  obtain ⟨ap, ao, av, ah, rfl, x1, x2, x3, x4⟩ := nt_shape hV5
  have one := noteV_one n x1 x2 x3 x4
  go_wp2_with (first | ((with_reducible apply wpList_unguard); rfl) | ((with_reducible refine stop_if kD ?_ ?_); rfl))
  refine Stop.go (blk_alloc (z := .agg zeroCells) (cs := zeroCells) (zero_run (by kernel_rfl)) rfl fun c w6 k6 hc6 ha6 => ?_)
  go_wp2_with (first | ((with_reducible apply wpList_unguard); rfl) | ((with_reducible refine stop_if kD ?_ ?_); rfl))
  refine Stop.go (blk_store_all (cs' := (noteV n ap ao av ah).cells) k6 rfl rfl (by kernel_rfl) rfl one fun w7 k7 o7 z7 => ?_)
  have cx7 : Box w7 c n ap ao av ah := k7
  have o57 : Only (fun k => w5.heap.size ≤ k) w5 w7 := (Only.of_below ha6).trans o7 fun k hk e => by omega
  have bx7 := bx5.only o57 (by omega)
  have hV7 := hV5.keep (S' := fun k => w2.heap.size ≤ k) fun k hk hlt => ⟨o57.block k hlt (by omega), by omega⟩
  have hU7 := hU5.keep (S' := fun k => w2.heap.size ≤ k) fun k hk hlt => ⟨o57.block k hlt (by omega), hk⟩
  have ha7 := below_only ha5 o57 fun k hk => by have := ha5.size; omega
  clear bx5 hV5 hU5 ha5 k6 ha6 k7 o7 z7 o57
  go_wp2_with (first | ((with_reducible apply wpList_unguard); rfl) | ((with_reducible refine stop_if kD ?_ ?_); rfl))
  refine Stop.go (load_N cx7 rfl ?_)
  obtain ⟨NR, hNR⟩ : ∃ NR, NR = nright n := ⟨_, rfl⟩
  obtain ⟨F, hF⟩ : ∃ F, F = (if nright n = true then frame (encNote n) else []) := ⟨_, rfl⟩
  obtain ⟨EC, hEC⟩ : ∃ EC : Int, EC = (if nright n = true then 0 else 4) := ⟨_, rfl⟩
  have hnp := npack_any w7 _ n _ (hN.below ha7 (Nat.le_refl _)) (hB.below ha7 (Nat.le_refl _)) hV7
  have hrp := fun w S V h => rpack_any w S n V h
  rw [← hF, ← hEC] at hnp hrp
  have HNR := Lib.hid hNR
  have HF := Lib.hid hF
  have HEC := Lib.hid hEC
  have HRP := Lib.hid hrp
  clear hNR hF hEC hrp
  go_wp2_with (first | ((with_reducible apply wpList_unguard); rfl) | ((with_reducible refine stop_if kD ?_ ?_); rfl))
  refine hnp.mono ?_
  clear hnp
  rintro e w8 ⟨pv, rfl, hpv, hb8⟩
  have bx8 := bx7.below hb8 (Blk.lt bx7)
  have cx8 := cx7.below hb8 (Blk.lt cx7)
  have hV8 := hV7.below hb8 (Nat.le_refl _)
  have hU8 := hU7.below hb8 (Nat.le_refl _)
  have ha8 := below_on ha7 hb8 ha7.size
  clear bx7 cx7 hV7 hU7 ha7 hb8
  go_wp2_with (first | ((with_reducible apply wpList_unguard); rfl) | ((with_reducible refine stop_if kD ?_ ?_); rfl))
  refine Stop.go (load_R bx8 rfl ?_)
  go_wp2_with (first | ((with_reducible apply wpList_unguard); rfl) | ((with_reducible refine stop_if kD ?_ ?_); rfl))
  refine (HRP.out w8 _ _ hU8).mono ?_
  rintro e w9 ⟨qv, rfl, hqv, hb9⟩
  have bx9 := bx8.below hb9 (Blk.lt bx8)
  have cx9 := cx8.below hb9 (Blk.lt cx8)
  have hV9 := hV8.below hb9 (Nat.le_refl _)
  have hU9 := hU8.below hb9 (Nat.le_refl _)
  have hp9 := hpv.sl'.below hb9 (Nat.le_refl _)
  have hq9 := hqv.sl'
  have ha9 := below_on ha8 hb9 ha8.size
  clear bx8 cx8 hV8 hU8 ha8 hb9 hpv hqv HRP
  obtain ⟨pa, pn, pc, rfl⟩ := Sl.shape hp9
  obtain ⟨qa, qn, qc, rfl⟩ := Sl.shape hq9
  have hu := unp_right (L := plim) plim_ok (n := n)
  have hnl : nright n = true → (encNote n).length ≤ 4096 := fun h => encNote_len (nright_fair h)
  have hr1 := fun w S V h => nright_any w S n V h
  have hr2 := fun w S V h => rright_any w S n V h
  have hNR := HNR.out
  have hF := HF.out
  have hEC := HEC.out
  clear HNR HF HEC
  rw [← hNR] at hu hnl hr1 hr2 hF hEC
  have HF := Lib.hid hF
  have HEC := Lib.hid hEC
  have HU := Lib.hid hu
  have HL := Lib.hid hnl
  have HR1 := Lib.hid hr1
  have HR2 := Lib.hid hr2
  clear hF hEC hu hnl hNR hr1 hr2
  go_upto_region 7 with (fail)
  have hd := (Below.refl w9.heap.size w9).drew
  have bxd : RBox w9.drew b n up uo uv uh := bx9
  have cxd : Box w9.drew c n ap ao av ah := cx9
  have hVd := hV9.below hd (Nat.le_refl _)
  have hUd := hU9.below hd (Nat.le_refl _)
  have hpd := hp9.below hd (Nat.le_refl _)
  have hqd := hq9.below hd (Nat.le_refl _)
  have had := below_on ha9 hd ha9.size
  clear bx9 cx9 hV9 hU9 hp9 hq9 ha9 hd
  refine wp_region_D (fun wq => RBox wq b n up uo uv uh ∧ Box wq c n ap ao av ah) 100 (fun _ => True) 22 rfl (by kernel_rfl) ?_
  generalize w9.drew = wd at *
  refine wpAnyD_take (i := 0) (dst := some 26) (v := .slice pa pn pc) rfl rfl (by decide) (by kernel_rfl) (by kernel_rfl) (by kernel_rfl) (fun _ _ _ h => h) (.inl ⟨by rfl, fun _ _ => by kernel_rfl⟩) (⟨bxd, cxd⟩) (.inr trivial) ?_
  simp only [Act.put, List.setIfInBounds_toArray, List.set_cons_zero, List.set_cons_succ]
  refine wpAnyD_take (i := 1) (dst := some 27) (v := .slice qa qn qc) rfl rfl (by decide) (by kernel_rfl) (by kernel_rfl) (by kernel_rfl) (fun _ _ _ h => h) (.inl ⟨by rfl, fun _ _ => by kernel_rfl⟩) (⟨bxd, cxd⟩) (.inr trivial) ?_
  simp only [Act.put, List.setIfInBounds_toArray, List.set_cons_zero, List.set_cons_succ]
  refine wpAnyD_step (i := 2) (by kernel_rfl) rfl fun K hK => ?_
  refine step_call (vs := #[.slice pa pn pc, .slice qa qn qc]) (by rfl) (by go_simp) (by kernel_rfl) (same_any wd _ _ F F _ _ hpd hqd) ?_
  rintro e w2 ⟨rfl, rfl⟩
  have eT : (F == F) = true := by simp
  rw [eT]
  clear eT
  refine ⟨_, rfl, hK _ _ ⟨bxd, cxd⟩ trivial ?_⟩
  clear hK K
  simp only [Act.put, List.setIfInBounds_toArray, List.set_cons_zero, List.set_cons_succ]
  refine wpAnyD_take (i := 3) (dst := some 29) (v := .bool false) rfl rfl (by decide) (by kernel_rfl) (by kernel_rfl) (by kernel_rfl) (fun _ _ _ h => h) (.inl ⟨by rfl, fun _ _ => by kernel_rfl⟩) (⟨bxd, cxd⟩) (.inr trivial) ?_
  simp only [Act.put, List.setIfInBounds_toArray, List.set_cons_zero, List.set_cons_succ]
  refine wpAnyD_take (i := 4) (dst := some 30) (v := .bool false) rfl rfl (by decide) (by kernel_rfl) (by kernel_rfl) (by kernel_rfl) (fun _ _ _ h => h) (.inl ⟨by rfl, fun _ _ => by kernel_rfl⟩) (⟨bxd, cxd⟩) (.inr trivial) ?_
  simp only [Act.put, List.setIfInBounds_toArray, List.set_cons_zero, List.set_cons_succ]
  refine wpAnyD_take (i := 5) (dst := some 31) (v := .int .i64 EC) rfl rfl (by decide) (by kernel_rfl) (by kernel_rfl) (by kernel_rfl) (fun _ _ _ h => h) (.inl ⟨by rfl, fun _ _ => by kernel_rfl⟩) (⟨bxd, cxd⟩) (.inr trivial) ?_
  simp only [Act.put, List.setIfInBounds_toArray, List.set_cons_zero, List.set_cons_succ]
  refine wpAnyD_take (i := 6) (dst := some 32) (v := .int .i64 EC) rfl rfl (by decide) (by kernel_rfl) (by kernel_rfl) (by kernel_rfl) (fun _ _ _ h => h) (.inl ⟨by rfl, fun _ _ => by kernel_rfl⟩) (⟨bxd, cxd⟩) (.inr trivial) ?_
  simp only [Act.put, List.setIfInBounds_toArray, List.set_cons_zero, List.set_cons_succ]
  refine wpAnyD_take (i := 7) (dst := some 33) (v := .bool false) rfl rfl (by decide) (by kernel_rfl) (by kernel_rfl) (by kernel_rfl) (fun _ _ _ h => h) (.inl ⟨by rfl, fun _ _ => by go_simp⟩) (⟨bxd, cxd⟩) (.inr trivial) ?_
  simp only [Act.put, List.setIfInBounds_toArray, List.set_cons_zero, List.set_cons_succ]
  refine wpAnyD_take (i := 8) (dst := some 34) (v := .bool false) rfl rfl (by decide) (by kernel_rfl) (by kernel_rfl) (by kernel_rfl) (fun _ _ _ h => h) (.inl ⟨by rfl, fun _ _ => by kernel_rfl⟩) (⟨bxd, cxd⟩) (.inr trivial) ?_
  simp only [Act.put, List.setIfInBounds_toArray, List.set_cons_zero, List.set_cons_succ]
  refine wpAnyD_take (i := 9) (dst := some 35) (v := .bool false) rfl rfl (by decide) (by kernel_rfl) (by kernel_rfl) (by kernel_rfl) (fun _ _ _ h => h) (.inl ⟨by rfl, fun _ _ => by kernel_rfl⟩) (⟨bxd, cxd⟩) (.inr trivial) ?_
  simp only [Act.put, List.setIfInBounds_toArray, List.set_cons_zero, List.set_cons_succ]
  refine wpAnyD_take (i := 10) (dst := some 36) (v := noteV n ap ao av ah) rfl rfl (by decide) (by kernel_rfl) (by kernel_rfl) (by kernel_rfl) (fun _ _ _ h => h) (yields_N (by rfl) rfl fun _ h => h.2) (⟨bxd, cxd⟩) (.inr trivial) ?_
  simp only [Act.put, List.setIfInBounds_toArray, List.set_cons_zero, List.set_cons_succ]
  refine wpAnyD_take (i := 12) (dst := some 38) (v := noteV n up uo uv uh) rfl rfl (by decide) (by kernel_rfl) (by kernel_rfl) (by kernel_rfl) (fun _ _ _ h => h) (yields_R (by rfl) rfl fun _ h => h.1) (⟨bxd, cxd⟩) (.inr trivial) ?_
  simp only [Act.put, List.setIfInBounds_toArray, List.set_cons_zero, List.set_cons_succ]
  refine wpAnyD_step (i := 11) (by kernel_rfl) rfl fun K hK => ?_
  refine step_call (vs := #[noteV n ap ao av ah]) (by rfl) (by go_simp) (by kernel_rfl) (HR1.out wd _ _ (hN.below had (Nat.le_refl _)) hVd) ?_
  rintro e w3 ⟨rfl, hb3⟩
  have bxd := bxd.below hb3 (Blk.lt bxd)
  have cxd := cxd.below hb3 (Blk.lt cxd)
  have hVd := hVd.below hb3 (Nat.le_refl _)
  have hUd := hUd.below hb3 (Nat.le_refl _)
  have hpd := hpd.below hb3 (Nat.le_refl _)
  have had := below_on had hb3 had.size
  refine ⟨_, rfl, hK _ _ ⟨bxd, cxd⟩ trivial ?_⟩
  clear hK K
  simp only [Act.put, List.setIfInBounds_toArray, List.set_cons_zero, List.set_cons_succ]
  refine wpAnyD_step (i := 13) (by kernel_rfl) rfl fun K hK => ?_
  refine step_call (vs := #[noteV n up uo uv uh]) (by rfl) (by go_simp) (by kernel_rfl) (HR2.out w3 _ _ hUd) ?_
  rintro e w4 ⟨rfl, hb4⟩
  have bxd := bxd.below hb4 (Blk.lt bxd)
  have cxd := cxd.below hb4 (Blk.lt cxd)
  have hVd := hVd.below hb4 (Nat.le_refl _)
  have hUd := hUd.below hb4 (Nat.le_refl _)
  have hpd := hpd.below hb4 (Nat.le_refl _)
  have had := below_on had hb4 had.size
  refine ⟨_, rfl, hK _ _ ⟨bxd, cxd⟩ trivial ?_⟩
  clear hK K
  simp only [Act.put, List.setIfInBounds_toArray, List.set_cons_zero, List.set_cons_succ]
  refine wpAnyD_take (i := 14) (dst := some 40) (v := .bool false) rfl rfl (by decide) (by kernel_rfl) (by kernel_rfl) (by kernel_rfl) (fun _ _ _ h => h) (.inl ⟨by rfl, fun _ _ => by cases NR <;> kernel_rfl⟩) (⟨bxd, cxd⟩) (.inr trivial) ?_
  simp only [Act.put, List.setIfInBounds_toArray, List.set_cons_zero, List.set_cons_succ]
  refine wpAnyD_take (i := 15) (dst := some 41) (v := .bool false) rfl rfl (by decide) (by kernel_rfl) (by kernel_rfl) (by kernel_rfl) (fun _ _ _ h => h) (.inl ⟨by rfl, fun _ _ => by kernel_rfl⟩) (⟨bxd, cxd⟩) (.inr trivial) ?_
  simp only [Act.put, List.setIfInBounds_toArray, List.set_cons_zero, List.set_cons_succ]
  refine wpAnyD_take (i := 16) (dst := some 42) (v := .bool false) rfl rfl (by decide) (by kernel_rfl) (by kernel_rfl) (by kernel_rfl) (fun _ _ _ h => h) (.inl ⟨by rfl, fun _ _ => by kernel_rfl⟩) (⟨bxd, cxd⟩) (.inr trivial) ?_
  simp only [Act.put, List.setIfInBounds_toArray, List.set_cons_zero, List.set_cons_succ]
  refine wpAnyD_take (i := 17) (dst := some 43) (v := noteV n ap ao av ah) rfl rfl (by decide) (by kernel_rfl) (by kernel_rfl) (by kernel_rfl) (fun _ _ _ h => h) (yields_N (by rfl) rfl fun _ h => h.2) (⟨bxd, cxd⟩) (.inr trivial) ?_
  simp only [Act.put, List.setIfInBounds_toArray, List.set_cons_zero, List.set_cons_succ]
  refine wpAnyD_take (i := 18) (dst := some 44) (v := noteV n up uo uv uh) rfl rfl (by decide) (by kernel_rfl) (by kernel_rfl) (by kernel_rfl) (fun _ _ _ h => h) (yields_R (by rfl) rfl fun _ h => h.1) (⟨bxd, cxd⟩) (.inr trivial) ?_
  simp only [Act.put, List.setIfInBounds_toArray, List.set_cons_zero, List.set_cons_succ]
  refine wpAnyD_step (i := 19) (by kernel_rfl) rfl fun K hK => ?_
  refine step_call (vs := #[noteV n ap ao av ah, noteV n up uo uv uh]) (by rfl) (by go_simp) (by kernel_rfl) (rsame_any w4 _ _ n n _ _ hVd hUd) ?_
  rintro e wl ⟨rfl, hbl⟩
  have eT : (n == n) = true := by simp
  rw [eT]
  clear eT
  have bxd := bxd.below hbl (Blk.lt bxd)
  have cxd := cxd.below hbl (Blk.lt cxd)
  have hVd := hVd.below hbl (Nat.le_refl _)
  have hUd := hUd.below hbl (Nat.le_refl _)
  have hpd := hpd.below hbl (Nat.le_refl _)
  have had := below_on had hbl had.size
  refine ⟨_, rfl, hK _ _ ⟨bxd, cxd⟩ trivial ?_⟩
  clear hK K
  simp only [Act.put, List.setIfInBounds_toArray, List.set_cons_zero, List.set_cons_succ]
  refine wpAnyD_take (i := 20) (dst := some 46) (v := .bool false) rfl rfl (by decide) (by kernel_rfl) (by kernel_rfl) (by kernel_rfl) (fun _ _ _ h => h) (.inl ⟨by rfl, fun _ _ => by kernel_rfl⟩) (⟨bxd, cxd⟩) (.inr trivial) ?_
  simp only [Act.put, List.setIfInBounds_toArray, List.set_cons_zero, List.set_cons_succ]
  refine wpAnyD_take (i := 21) (dst := some 47) (v := .bool false) rfl rfl (by decide) (by kernel_rfl) (by kernel_rfl) (by kernel_rfl) (fun _ _ _ h => h) (.inl ⟨by rfl, fun _ _ => by kernel_rfl⟩) (⟨bxd, cxd⟩) (.inr trivial) ?_
  simp only [Act.put, List.setIfInBounds_toArray, List.set_cons_zero, List.set_cons_succ]
  refine wpAnyD_done (by kernel_rfl) ?_
  cases NR
  · have e : EC = 4 := HEC.out
    subst e
    go_wp2_with (fail)
    go_ret
    exact ⟨rfl, had⟩
  have e : EC = 0 := HEC.out
  subst e
  have e : F = frame (encNote n) := HF.out
  subst e
  have hl := HL.out rfl
  have hfl : (frame (encNote n)).length ≤ 140737488355328 := by rw [frame_len]; omega
  have hnu : nunp plim (frame (encNote n)) = (n, 0) := by rw [nunp_frame plim _ hl]; exact HU.out rfl
  generalize frame (encNote n) = G at *
  clear HF HEC HU HL hl HR1 HR2
  go_wp2_with (fail)
  refine (nunpack_any wl _ G _ (hB.below had (Nat.le_refl _)) (hN.below had (Nat.le_refl _)) hpd hfl).mono ?_
  rw [hnu]
  rintro e wm ⟨V6, rfl, hV6, hbm⟩
  have hV6 : Nt wm (fun k => wl.heap.size ≤ k) n V6 := hV6
  have bxm := bxd.below hbm (Blk.lt bxd)
  have cxm := cxd.below hbm (Blk.lt cxd)
  have hVm := hVd.below hbm (Nat.le_refl _)
  have hUm := hUd.below hbm (Nat.le_refl _)
  have ham := below_on had hbm had.size
  have blm := Blk.lt bxd
  have clm := Blk.lt cxd
  have sml := hbm.size
  clear bxd cxd hVd hUd had hbm hpd hqd hnu hfl
  obtain ⟨bp, bo, bv, bh, rfl, m1, m2, m3, m4⟩ := nt_shape hV6
  have one2 := noteV_one n m1 m2 m3 m4
  go_wp2_with (first | ((with_reducible apply wpList_unguard); rfl) | ((with_reducible refine stop_if kD ?_ ?_); rfl))
  refine Stop.go (blk_alloc (z := .agg zeroCells) (cs := zeroCells) (zero_run (by kernel_rfl)) rfl fun d wn kn hdn han => ?_)
  go_wp2_with (first | ((with_reducible apply wpList_unguard); rfl) | ((with_reducible refine stop_if kD ?_ ?_); rfl))
  refine Stop.go (blk_store_all (cs' := (noteV n bp bo bv bh).cells) kn rfl rfl (by kernel_rfl) rfl one2 fun wo ko oo zo => ?_)
  have dxo : Box wo d n bp bo bv bh := ko
  have omo : Only (fun k => wm.heap.size ≤ k) wm wo := (Only.of_below han).trans oo fun k hk e => by omega
  have bxo := bxm.only omo (by omega)
  have cxo := cxm.only omo (by omega)
  have fk : ∀ k, k < wm.heap.size → ¬ wm.heap.size ≤ k := fun k hk => by omega
  have hVo := hVm.keep fun k hk hlt => ⟨omo.block k hlt (fk k hlt), hk⟩
  have hUo := hUm.keep fun k hk hlt => ⟨omo.block k hlt (fk k hlt), hk⟩
  have hWo := hV6.keep fun k hk hlt => ⟨omo.block k hlt (fk k hlt), hk⟩
  have hao := below_only ham omo fun k hk => by have := ham.size; omega
  clear bxm cxm hVm hUm hV6 ham kn han ko oo zo omo fk
  go_wp2_with (first | ((with_reducible apply wpList_unguard); rfl) | ((with_reducible refine stop_if kD ?_ ?_); rfl))
  refine Stop.go (load_N dxo rfl ?_)
  go_wp2_with (first | ((with_reducible apply wpList_unguard); rfl) | ((with_reducible refine stop_if kD ?_ ?_); rfl))
  refine Stop.go (load_R bxo rfl ?_)
  go_wp2_with (first | ((with_reducible apply wpList_unguard); rfl) | ((with_reducible refine stop_if kD ?_ ?_); rfl))
  refine (rsame_any wo _ _ n n _ _ hWo hUo).mono ?_
  rintro e wq ⟨rfl, hbq⟩
  have eT : (n == n) = true := by simp
  rw [eT]
  have dxq := dxo.below hbq (Blk.lt dxo)
  have cxq := cxo.below hbq (Blk.lt cxo)
  have hVq := hVo.below hbq (Nat.le_refl _)
  have hWq := hWo.below hbq (Nat.le_refl _)
  have haq := below_on hao hbq hao.size
  clear dxo cxo hVo hWo hUo hao hbq bxo
  go_wp2_with (first | ((with_reducible apply wpList_unguard); rfl) | ((with_reducible refine stop_if kD ?_ ?_); rfl))
  refine Stop.go (load_N dxq rfl ?_)
  go_wp2_with (first | ((with_reducible apply wpList_unguard); rfl) | ((with_reducible refine stop_if kD ?_ ?_); rfl))
  refine Stop.go (load_N cxq rfl ?_)
  go_wp2_with (first | ((with_reducible apply wpList_unguard); rfl) | ((with_reducible refine stop_if kD ?_ ?_); rfl))
  refine (nsame_any wq _ _ n n _ _ hWq hVq).mono ?_
  rintro e wr ⟨rfl, hbr⟩
  rw [eT]
  have har := below_on haq hbr haq.size
  go_wp2_with (fail)
  go_ret
  exact ⟨rfl, har⟩
theorem notePacks_true (w : World) (hN : Srt w) (hB : Nib w) {S : Nat → Prop} {n : NoteR} {V : Value} (hV : Nt w S n V) :
    Calls Tryd.prog 7 #[V] w fun e w' => e = .returned (.bool true) ∧ Below w.heap.size w w' := notePacks_any w hN hB S n V hV
end Go.Proofs.YtjkffjngamagkaaDoor
