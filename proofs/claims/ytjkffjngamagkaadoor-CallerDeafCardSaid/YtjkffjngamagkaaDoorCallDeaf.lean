/- armillarylaw19: CallerDeaf. -/
import Derived.Test.YtjkffjngamagkaaDoorCallMost
import Derived.Test.YtjkffjngamagkaaDoorGen3
namespace Go.Arm
open Go.RowKit
theorem few_again (n : NoteR) : fewN (fewN n) = fewN n := by
  have hO : ∀ l : List OpR, (((l.take 18).map cutO).take 18).map cutO = (l.take 18).map cutO := by
    intro l
    rw [← List.map_take, List.take_take, List.map_map]
    refine List.map_congr_left fun o _ => ?_
    simp [cutO, List.take_take]
  have hH : ∀ l : List HitR, (((l.take 18).map cutH).take 18).map cutH = (l.take 18).map cutH := by
    intro l
    rw [← List.map_take, List.take_take, List.map_map]
    refine List.map_congr_left fun o _ => ?_
    simp [cutH, List.take_take]
  simp only [fewN, hO, hH, List.take_take, Nat.min_self]
def deafC : CallR := ⟨3, [newW (askN 1 [op1])], [newW (qryN 1)]⟩
theorem deaf_codes : (⟨3, [], []⟩ : CallR).putCode 1 [op1] = 0 ∧ (⟨3, [newW (askN 1 [op1])], []⟩ : CallR).askCode (qryN 1) = 0 := by decide +kernel
theorem deaf_ok : deafC.Ok := by
  have h := ((Ok0 3).put 1 [op1]).ask (qryN 1)
  rw [put_done _ _ _ deaf_codes.1] at h
  have e : (⟨3, [newW (askN 1 [op1])], []⟩ : CallR).ask (qryN 1) = deafC := ask_done _ _ deaf_codes.2
  exact e ▸ h
def mineB (src : Int) (m : NoteR) : Bool := decide (src = 0) && nright m
def obB (src : Int) (m : NoteR) : Bool := mineB src m && m.kind == 2 && m.batch == 1
def oqB (src : Int) (m : NoteR) : Bool := mineB src m && m.kind == 11 && m.query == 1
theorem deaf_hear (src : Int) (m : NoteR) (hm : fewN m = m) : deafC.hearN src m = if mineB src m = true then deafC.heard m else deafC := by
  unfold CallR.hearN mineB
  rw [hm]
  by_cases h1 : nright m = true <;> by_cases h2 : src = 0 <;> simp [h1, h2]
theorem deaf_bat (src : Int) (m : NoteR) (hm : fewN m = m) : ∃ cb sb, (deafC.hearN src m).B.map WantR.bat = [⟨1, obB src m, cb, sb⟩] := by
  rw [deaf_hear src m hm]
  unfold obB
  cases h : mineB src m
  · exact ⟨_, _, rfl⟩
  · rw [if_pos rfl]
    unfold CallR.heard
    by_cases h2 : m.kind = 2
    · rw [if_pos h2]
      by_cases h1 : m.batch = 1
      · refine ⟨m.code, m.stamp, ?_⟩
        show [(hearB m (newW (askN 1 [op1]))).bat] = _
        rw [hearB_yes m _ (show ((1 : UInt64) == m.batch) = true by rw [h1]; rfl) (.inl rfl)]
        simp [WantR.bat, newW, askN, h1, h2]
      · refine ⟨0, 0, ?_⟩
        show [(hearB m (newW (askN 1 [op1]))).bat] = _
        rw [hearB_no m _ (show ((1 : UInt64) == m.batch) = false by simpa using fun e : (1 : UInt64) = m.batch => h1 e.symm)]
        simp [WantR.bat, newW, askN, h1, h2]
    · rw [if_neg h2]
      refine ⟨0, 0, ?_⟩
      split <;> simp [deafC, WantR.bat, newW, askN, h2]
theorem deaf_qst (src : Int) (m : NoteR) (hm : fewN m = m) : ∃ cb sb hb, (deafC.hearN src m).Q.map WantR.qst = [⟨1, oqB src m, cb, sb, hb⟩] := by
  rw [deaf_hear src m hm]
  unfold oqB
  cases h : mineB src m
  · exact ⟨_, _, _, rfl⟩
  · rw [if_pos rfl]
    unfold CallR.heard
    by_cases h2 : m.kind = 2
    · rw [if_pos h2]
      refine ⟨0, 0, [], ?_⟩
      simp [deafC, WantR.qst, newW, qryN, h2]
    · rw [if_neg h2]
      by_cases h11 : m.kind = 11
      · rw [if_pos h11]
        by_cases h1 : m.query = 1
        · refine ⟨m.code, m.stamp, m.hits, ?_⟩
          show [(hearQ m (newW (qryN 1))).qst] = _
          rw [hearQ_yes m _ (show ((1 : UInt64) == m.query) = true by rw [h1]; rfl) rfl]
          simp [WantR.qst, newW, qryN, h1, h11]
        · refine ⟨0, 0, [], ?_⟩
          show [(hearQ m (newW (qryN 1))).qst] = _
          rw [hearQ_no m _ (show ((1 : UInt64) == m.query) = false by simpa using fun e : (1 : UInt64) = m.query => h1 e.symm)]
          simp [WantR.qst, newW, qryN, h1, h11]
      · rw [if_neg h11]
        refine ⟨0, 0, [], ?_⟩
        simp [deafC, WantR.qst, newW, qryN, h11]
theorem u8_beq (a : UInt8) (k : Nat) (hk : k < 256) : ((a.toNat : Int) == (k : Int)) = (a == UInt8.ofNat k) := by
  have e : (UInt8.ofNat k).toNat = k := UInt8.toNat_ofNat_of_lt' (by show k < 256; exact hk)
  rw [Bool.eq_iff_iff]
  simp only [beq_iff_eq]
  constructor
  · intro h; exact UInt8.toNat_inj.1 (by omega)
  · rintro rfl; omega
end Go.Arm
namespace Go.Proofs.YtjkffjngamagkaaDoor
open Go Go.RowKit Go.Arm
set_option maxHeartbeats 16000000 in
set_option maxRecDepth 100000 in
theorem callerDeaf_any (w : World) (hN : Srt w) (hB : Nib w) (src : Int) (hs1 : -9223372036854775808 ≤ src) (hs2 : src ≤ 9223372036854775807) (S : Nat → Prop) (n0 : NoteR) (V : Value) (hV : Nt w S n0 V) :
    Calls Tryd.prog 11 #[.int .i64 src, V] w fun e w' => e = .returned (.bool true) ∧ Below w.heap.size w w' := by
  have hV0 := hV.old
  clear hV
  obtain ⟨vp, vo, vv, vh, hVe, y1, y2, y3, y4⟩ := nt_shape hV0
  go_enter Tryd.func11, Tryd.ntmps11
  subst hVe
  go_wp2_with (first | ((with_reducible apply wpList_unguard); rfl) | ((with_reducible (first | apply len_B | apply len_PB | apply len_PQ | apply len_L | apply len_Bat | apply len_Qst | apply len_H)); assumption) | ((with_reducible refine stop_ig kC ?_ ?_); rfl))
  refine Stop.go (box_R rfl fun bn w1 bx1 hbg ha1 => ?_)
  have hV1 := hV0.below ha1 (Nat.le_refl _)
  clear hV0 y1 y2 y3 y4
  go_wp2_with (first | ((with_reducible apply wpList_unguard); rfl) | ((with_reducible (first | apply len_B | apply len_PB | apply len_PQ | apply len_L | apply len_Bat | apply len_Qst | apply len_H)); assumption) | ((with_reducible refine stop_ig kC ?_ ?_); rfl))
  refine (awake19_any w1 (hN.below ha1 (Nat.le_refl _)) (hB.below ha1 (Nat.le_refl _))).mono ?_
  rintro e w2 ⟨rfl, hb2⟩
  have hV2 := hV1.below hb2 (Nat.le_refl _)
  have bx2 := bx1.below hb2 (Blk.lt bx1)
  have ha2 := below_on ha1 hb2 ha1.size
  have s2 := ha2.size
  clear hV1 bx1 hb2 ha1
  go_wp2_with (first | ((with_reducible apply wpList_unguard); rfl) | ((with_reducible (first | apply len_B | apply len_PB | apply len_PQ | apply len_L | apply len_Bat | apply len_Qst | apply len_H)); assumption) | ((with_reducible refine stop_ig kC ?_ ?_); rfl))
  refine (new_has w2 3 (by decide) (by decide)).mono ?_
  rintro e w3 ⟨g, rfl, hc3, hb3⟩
  have hV3 := hV2.below hb3 (Nat.le_refl _)
  have bx3 := bx2.below hb3 (Blk.lt bx2)
  have ha3 := below_on ha2 hb3 s2
  have s23 := hb3.size
  have hl2 := Blk.lt bx2
  clear hV2 hb3 ha2
  go_wp2_with (first | ((with_reducible apply wpList_unguard); rfl) | ((with_reducible (first | apply len_B | apply len_PB | apply len_PQ | apply len_L | apply len_Bat | apply len_Qst | apply len_H)); assumption) | ((with_reducible refine stop_ig kC ?_ ?_); rfl))
  refine Stop.go (wpList_lit1 (α := OpR) (S := fun _ => False) rowO rfl (by decide) (by decide) op1 rfl ⟨.slice none 0 0, rfl, Sl.nil _ _⟩ fun vo3 w4 m1 m2 m3 m4 => ?_)
  have b34 := below_of_grown (B := w3.heap.size) m2 (Nat.le_refl _) (by simp)
  have hV4 := hV3.below b34 (Nat.le_refl _)
  have bx4 := bx3.below b34 (Blk.lt bx3)
  have ha4 := below_on ha3 b34 ha3.size
  have hc4 := hc3.below b34 (Nat.le_refl _)
  have s3 := b34.size
  have hput := put_has w4 (hN.below ha4 (Nat.le_refl _)) (hB.below ha4 (Nat.le_refl _)) w2.heap.size g _ ⟨3, [], []⟩ 1 [op1] vo3 hc4 (by omega) m1.sl' (Ok0 3)
  rw [deaf_codes.1, put_done _ _ _ deaf_codes.1] at hput
  clear hV3 bx3 ha3 hc3 m1 m2 m3 m4 b34 hc4
  go_wp2_with (first | ((with_reducible apply wpList_unguard); rfl) | ((with_reducible (first | apply len_B | apply len_PB | apply len_PQ | apply len_L | apply len_Bat | apply len_Qst | apply len_H)); assumption) | ((with_reducible refine stop_ig kC ?_ ?_); rfl))
  refine hput.mono ?_
  clear hput
  rintro e w5 ⟨a1, p1, rfl, hc5, hb5⟩
  have b25 : Below w2.heap.size w4 w5 := hb5
  have hV5 := hV4.keep (S' := (· < w.heap.size)) fun k hk hlt => ⟨b25.block k (by omega), hk⟩
  have bx5 : RBox w5 bn n0 vp vo vv vh := (b25.block bn hl2).trans bx4
  have ha5 := ha4.trans (b25.mono s2)
  have s5 := b25.size
  have hok1 : (⟨3, [newW (askN 1 [op1])], []⟩ : CallR).Ok := by have h := (Ok0 3).put 1 [op1]; rw [put_done _ _ _ deaf_codes.1] at h; exact h
  have hask := ask_has w5 (hN.below ha5 (Nat.le_refl _)) (hB.below ha5 (Nat.le_refl _)) w2.heap.size g _ ⟨3, [newW (askN 1 [op1])], []⟩ (qryN 1) _ hc5 (by omega) (qry_nt w5 1 (by decide)) hok1
  rw [deaf_codes.2, ask_done _ _ deaf_codes.2] at hask
  have hask : Calls _ _ _ _ fun e w' => ∃ ao cp, e = _ ∧ Has w' w2.heap.size g deafC ∧ Below w2.heap.size w5 w' := hask
  clear hV4 bx4 ha4 hb5 hc5
  go_wp2_with (first | ((with_reducible apply wpList_unguard); rfl) | ((with_reducible (first | apply len_B | apply len_PB | apply len_PQ | apply len_L | apply len_Bat | apply len_Qst | apply len_H)); assumption) | ((with_reducible refine stop_ig kC ?_ ?_); rfl))
  refine hask.mono ?_
  clear hask
  rintro e w6 ⟨a2, p2, rfl, hc6, hb6⟩
  have hV6 := hV5.keep (S' := (· < w.heap.size)) fun k hk hlt => ⟨hb6.block k (by omega), hk⟩
  have bx6 : RBox w6 bn n0 vp vo vv vh := (hb6.block bn hl2).trans bx5
  have ha6 := ha5.trans (hb6.mono s2)
  have s6 := hb6.size
  clear hV5 bx5 ha5 hb6 b25
  go_wp2_with (first | ((with_reducible apply wpList_unguard); rfl) | ((with_reducible (first | apply len_B | apply len_PB | apply len_PQ | apply len_L | apply len_Bat | apply len_Qst | apply len_H)); assumption) | ((with_reducible refine stop_ig kC ?_ ?_); rfl))
  refine Stop.go (load_R bx6 rfl ?_)
  go_wp2_with (first | ((with_reducible apply wpList_unguard); rfl) | ((with_reducible (first | apply len_B | apply len_PB | apply len_PQ | apply len_L | apply len_Bat | apply len_Qst | apply len_H)); assumption) | ((with_reducible refine stop_ig kC ?_ ?_); rfl))
  refine (rfewn_any w6 _ n0 _ hV6).mono ?_
  rintro e w7 ⟨V7, rfl, hV7, hb7⟩
  have hfe := few_again n0
  generalize fewN n0 = m at *
  have HFE := Lib.hid hfe
  have bx7 := bx6.below hb7 (Blk.lt bx6)
  have ha7 := below_on ha6 hb7 ha6.size
  obtain ⟨M, Sd, hc6, hf6, hsd⟩ := hc6
  have hM6 : ∀ k, M k → w2.heap.size ≤ k ∧ k < w6.heap.size := fun k hk => ⟨(hf6 k hk).1, (hf6 k hk).2.1⟩
  have hc7 := hc6.below hf6 hb7 (Nat.le_refl _)
  have hf7 := hf6.below hb7
  have s7 := hb7.size
  clear hV6 bx6 ha6 hb7 hc6 hfe hf6
  obtain ⟨up, uo, uv, uh, rfl, z1, z2, z3, z4⟩ := nt_shape hV7
  go_wp2_with (first | ((with_reducible apply wpList_unguard); rfl) | ((with_reducible (first | apply len_B | apply len_PB | apply len_PQ | apply len_L | apply len_Bat | apply len_Qst | apply len_H)); assumption) | ((with_reducible refine stop_ig kC ?_ ?_); rfl))
  refine Stop.go (store_R bx7 rfl rfl z1 z2 z3 z4 fun w8 bx8 o8 s8 => ?_)
  have hV8 := hV7.keep (S' := fun k => w6.heap.size ≤ k) fun k hk hlt => ⟨o8.block k hlt (by omega), hk⟩
  have ha8 := below_only ha7 o8 fun k hk => by omega
  have hc8 := hc7.only hf7 o8 (fun k hk e => by have := (hM6 k hk).1; omega) (fun k hk _ e => by have := hsd k hk; omega)
  have hf8 := hf7.mono o8.size fun _ _ _ h => h
  clear hV7 bx7 ha7 hc7 hf7 o8 z1 z2 z3 z4
  go_wp2_with (first | ((with_reducible apply wpList_unguard); rfl) | ((with_reducible (first | apply len_B | apply len_PB | apply len_PQ | apply len_L | apply len_Bat | apply len_Qst | apply len_H)); assumption) | ((with_reducible refine stop_ig kC ?_ ?_); rfl))
  refine Stop.go (load_R bx8 rfl ?_)
  go_wp2_with (first | ((with_reducible apply wpList_unguard); rfl) | ((with_reducible (first | apply len_B | apply len_PB | apply len_PQ | apply len_L | apply len_Bat | apply len_Qst | apply len_H)); assumption) | ((with_reducible refine stop_ig kC ?_ ?_); rfl))
  refine (body_any w8 (hN.below ha8 (Nat.le_refl _)) (hB.below ha8 (Nat.le_refl _)) _ m _ hV8).mono ?_
  rintro e w9 ⟨pv, rfl, hpv, hb9⟩
  have bx9 := bx8.below hb9 (Blk.lt bx8)
  have ha9 := below_on ha8 hb9 ha8.size
  have hc9 := hc8.below hf8 hb9 (Nat.le_refl _)
  have hf9 := hf8.below hb9
  have hV9 := hV8.below hb9 (Nat.le_refl _)
  have s9 := hb9.size
  have hhear := hear_any w9 (hN.below ha9 (Nat.le_refl _)) (hB.below ha9 (Nat.le_refl _)) _ M Sd _ g deafC src (bodyOf m) pv hc9 hf9 (by omega) hpv.sl' (by have := bodyOf_len m; omega) deaf_ok
  rw [hear_body] at hhear
  have hok3 := deaf_ok.hearN src m
  obtain ⟨cb, sb, hbq⟩ := deaf_bat src m HFE.out
  obtain ⟨cq, sq, lq, hqq⟩ := deaf_qst src m HFE.out
  generalize deafC.hearN src m = c3 at *
  have HBQ := Lib.hid hbq
  have HQQ := Lib.hid hqq
  clear bx8 ha8 hb9 hc9 hV8 hpv hbq hqq hc8
  go_wp2_with (first | ((with_reducible apply wpList_unguard); rfl) | ((with_reducible (first | apply len_B | apply len_PB | apply len_PQ | apply len_L | apply len_Bat | apply len_Qst | apply len_H)); assumption) | ((with_reducible refine stop_ig kC ?_ ?_); rfl))
  refine hhear.mono ?_
  clear hhear
  rintro e wa ⟨rfl, hca, hfa, hoa⟩
  have bxa : RBox wa bn m up uo uv uh := bx9.only hoa (fun e => by have := (hM6 bn e).1; omega)
  have haa := below_only ha9 hoa fun k hk => by have := (hM6 k hk).1; omega
  have hVa := hV9.keep (S' := fun k => w6.heap.size ≤ k ∧ k < wa.heap.size) fun k hk hlt => ⟨hoa.block k hlt (fun e => by have := (hM6 k e).2; omega), hk, by have := hoa.size; omega⟩
  have hca : Has wa w2.heap.size g c3 := ⟨_, _, hca, hfa, sx_base hsd (by omega)⟩
  have sa := hoa.size
  clear bx9 ha9 hV9 hoa hfa hsd hM6 hf9
  obtain ⟨OB, hOB⟩ : ∃ OB, OB = obB src m := ⟨_, rfl⟩
  obtain ⟨OQ, hOQ⟩ : ∃ OQ, OQ = oqB src m := ⟨_, rfl⟩
  rw [← hOB] at HBQ
  rw [← hOQ] at HQQ
  have HOB := Lib.hid hOB
  have HOQ := Lib.hid hOQ
  clear hOB hOQ
  go_upto_region 8 with (fail)
  have hd := (Below.refl wa.heap.size wa).drew
  have hca := hca.below hd (Nat.le_refl _)
  have bxa : RBox wa.drew bn m up uo uv uh := bxa.below hd (Blk.lt bxa)
  have hVa := hVa.below hd (Nat.le_refl _)
  have haa := below_on haa hd haa.size
  have sda : wa.drew.heap.size = wa.heap.size := rfl
  clear hd
  go_cut [7, 8] (fun x7 x8 wx => ∃ b7 b8 vq, x7 = .pointer (some ⟨b7, 0, none⟩) ∧ x8 = .pointer (some ⟨b8, 0, none⟩) ∧ Blk wx b7 90 #[.int .u64 1, .bool OB, .int .i64 cb, .int .u64 (sb.toNat : Int)] ∧ Blk wx b8 94 #[.int .u64 1, .bool OQ, .int .i64 cq, .int .u64 (sq.toNat : Int), vq] ∧ RBox wx bn m up uo uv uh ∧ Nt wx (fun k => k < wx.heap.size) m (noteV m up uo uv uh) ∧ Below w.heap.size w wx)
  case first =>
    refine wp_region_D (fun _ => True) 100 (fun _ => True) 12 rfl (by kernel_rfl) ?_
    have hbx := bxa
    have hnt := hVa
    have hbl := haa
    have hbl0 := haa
    clear bxa hVa haa
    generalize wa.drew = wd at *
    refine wpAnyD_take (i := 0) (dst := some 30) (v := .pointer (some ⟨g, 0, none⟩)) rfl rfl (by decide) (by kernel_rfl) (by kernel_rfl) (by kernel_rfl) (fun _ _ _ h => h) (.inl ⟨by rfl, fun _ _ => by kernel_rfl⟩) (trivial) (.inr trivial) ?_
    simp only [Act.put, List.setIfInBounds_toArray, List.set_cons_zero, List.set_cons_succ]
    refine wpAnyD_take (i := 4) (dst := some 34) (v := .pointer (some ⟨g, 0, none⟩)) rfl rfl (by decide) (by kernel_rfl) (by kernel_rfl) (by kernel_rfl) (fun _ _ _ h => h) (.inl ⟨by rfl, fun _ _ => by kernel_rfl⟩) (trivial) (.inr trivial) ?_
    simp only [Act.put, List.setIfInBounds_toArray, List.set_cons_zero, List.set_cons_succ]
    refine wpAnyD_branch (rs := [1, 8, 9]) (by kernel_rfl) (by decide) (List.forall_mem_cons.2 ⟨wpAnyD_op rfl fun K hK => ?_, List.forall_mem_cons.2 ⟨wpAnyD_op rfl fun K hK => ?_, List.forall_mem_cons.2 ⟨wpAnyD_op rfl fun K hK => ?_, fun _ h => absurd h List.not_mem_nil⟩⟩⟩)
    · refine step_call (vs := #[.pointer (some ⟨g, 0, none⟩)]) (by rfl) (by go_simp) (by kernel_rfl) (batches_has wd _ g c3 hca hok3) ?_
      rintro e v1 ⟨vB, rfl, hvB, hbv1⟩
      rw [HBQ.out] at hvB
      have hsv1 := hbv1.size
      have hca := hca.below hbv1 (Nat.le_refl _)
      have hbx := hbx.below hbv1 (Blk.lt hbx)
      have hnt := hnt.below hbv1 (Nat.le_refl _)
      have hbl := below_on hbl hbv1 hbl.size
      obtain ⟨b1, o1, yB, dB, hyB, runB, rdB, hcb, hb1⟩ := hvB.index_runS (P := Tryd.prog) rowBat (by decide) .i64 0 (by decide) (by simp)
      obtain rfl : yB = ⟨1, OB, cb, sb⟩ := by simpa using hyB.symm
      obtain rfl : dB = _ := rdB
      have hcb : ∀ j v, [.int .u64 1, .bool OB, .int .i64 cb, .int .u64 (sb.toNat : Int)][j]? = some v → v1.cell? ⟨b1, o1 + j, none⟩ = some v := hcb
      have RB := Lib.hid runB
      clear hvB hyB runB
      refine ⟨_, rfl, hK _ _ trivial trivial ?_⟩
      clear hK K
      simp only [Act.put, List.setIfInBounds_toArray, List.set_cons_zero, List.set_cons_succ]
      refine wpAnyD_take (i := 2) (dst := some 32) (v := .pointer (some ⟨b1, o1, none⟩)) rfl rfl (by decide) (by kernel_rfl) (by kernel_rfl) (by kernel_rfl) (fun _ _ _ h => h) (yields_index (by rfl) rfl rfl RB.out) (trivial) (.inr trivial) ?_
      simp only [Act.put, List.setIfInBounds_toArray, List.set_cons_zero, List.set_cons_succ]
      refine wpAnyD_stronger (fun wq => (∀ j v, [.int .u64 1, .bool OB, .int .i64 cb, .int .u64 (sb.toNat : Int)][j]? = some v → wq.cell? ⟨b1, o1 + j, none⟩ = some v)) (fun _ _ => trivial) _ _ _ _ ?_
      refine wpAnyD_take (i := 3) (dst := some 33) (v := .agg #[.int .u64 1, .bool OB, .int .i64 cb, .int .u64 (sb.toNat : Int)]) rfl rfl (by decide) (by kernel_rfl) (by kernel_rfl) (by kernel_rfl) (fun _ _ _ h => h) (yields_cells [.int .u64 1, .bool OB, .int .i64 cb, .int .u64 (sb.toNat : Int)] Tryd.underlying90 rfl (by kernel_rfl) (by rfl) rfl fun _ h => h) (hcb) (.inr trivial) ?_
      simp only [Act.put, List.setIfInBounds_toArray, List.set_cons_zero, List.set_cons_succ]
      refine wpAnyD_branch (rs := [5, 8, 9]) (by kernel_rfl) (by decide) (List.forall_mem_cons.2 ⟨wpAnyD_op rfl fun K hK => ?_, List.forall_mem_cons.2 ⟨wpAnyD_op rfl fun K hK => ?_, List.forall_mem_cons.2 ⟨wpAnyD_op rfl fun K hK => ?_, fun _ h => absurd h List.not_mem_nil⟩⟩⟩)
      · refine step_call (vs := #[.pointer (some ⟨g, 0, none⟩)]) (by rfl) (by go_simp) (by kernel_rfl) (questions_has v1 _ g c3 hca hok3) ?_
        rintro e v2 ⟨vQ, rfl, hvQ, hbv2⟩
        rw [HQQ.out] at hvQ
        have hsv2 := hbv2.size
        have hca := hca.below hbv2 (Nat.le_refl _)
        have hbx := hbx.below hbv2 (Blk.lt hbx)
        have hnt := hnt.below hbv2 (Nat.le_refl _)
        have hbl := below_on hbl hbv2 hbl.size
        have hcb := cells_below hcb hbv2 (by omega)
        obtain ⟨b2, o2, yQ, dQ, hyQ, runQ, rdQ, hcq, hb2⟩ := hvQ.index_runS (P := Tryd.prog) rowQst (by decide) .i64 0 (by decide) (by simp)
        obtain rfl : yQ = ⟨1, OQ, cq, sq, lq⟩ := by simpa using hyQ.symm
        obtain ⟨vq, rfl, svq⟩ := rdQ
        obtain ⟨qa, qn, qc, rfl⟩ := Sl.shape svq
        have hcq : ∀ j v, [.int .u64 1, .bool OQ, .int .i64 cq, .int .u64 (sq.toNat : Int), .slice qa qn qc][j]? = some v → v2.cell? ⟨b2, o2 + j, none⟩ = some v := hcq
        have RQ := Lib.hid runQ
        clear hvQ hyQ svq runQ
        refine ⟨_, rfl, hK _ _ hcb trivial ?_⟩
        clear hK K
        simp only [Act.put, List.setIfInBounds_toArray, List.set_cons_zero, List.set_cons_succ]
        refine wpAnyD_take (i := 6) (dst := some 36) (v := .pointer (some ⟨b2, o2, none⟩)) rfl rfl (by decide) (by kernel_rfl) (by kernel_rfl) (by kernel_rfl) (fun _ _ _ h => h) (yields_index (by rfl) rfl rfl RQ.out) (hcb) (.inr trivial) ?_
        simp only [Act.put, List.setIfInBounds_toArray, List.set_cons_zero, List.set_cons_succ]
        refine wpAnyD_stronger (fun wq => (∀ j v, [.int .u64 1, .bool OB, .int .i64 cb, .int .u64 (sb.toNat : Int)][j]? = some v → wq.cell? ⟨b1, o1 + j, none⟩ = some v) ∧ (∀ j v, [.int .u64 1, .bool OQ, .int .i64 cq, .int .u64 (sq.toNat : Int), .slice qa qn qc][j]? = some v → wq.cell? ⟨b2, o2 + j, none⟩ = some v)) (fun _ h => h.1) _ _ _ _ ?_
        refine wpAnyD_take (i := 7) (dst := some 37) (v := .agg #[.int .u64 1, .bool OQ, .int .i64 cq, .int .u64 (sq.toNat : Int), .slice qa qn qc]) rfl rfl (by decide) (by kernel_rfl) (by kernel_rfl) (by kernel_rfl) (fun _ _ _ h => h) (yields_cells [.int .u64 1, .bool OQ, .int .i64 cq, .int .u64 (sq.toNat : Int), .slice qa qn qc] Tryd.underlying94 rfl (by kernel_rfl) (by rfl) rfl fun _ h => h.2) (⟨hcb, hcq⟩) (.inr trivial) ?_
        simp only [Act.put, List.setIfInBounds_toArray, List.set_cons_zero, List.set_cons_succ]
        refine wpAnyD_branch (rs := [8, 9]) (by kernel_rfl) (by decide) (List.forall_mem_cons.2 ⟨wpAnyD_op rfl fun K hK => ?_, List.forall_mem_cons.2 ⟨wpAnyD_op rfl fun K hK => ?_, fun _ h => absurd h List.not_mem_nil⟩⟩)
        · refine step_blk_alloc (z := .agg #[.int .u64 0, .bool false, .int .i64 0, .int .u64 0]) (cs := #[.int .u64 0, .bool false, .int .i64 0, .int .u64 0]) (zero_run (by kernel_rfl)) rfl fun b7 v3 h7 h7ge hbv3 => ?_
          have h7lt := h7.lt
          have hsv3 := hbv3.size
          have hca := hca.below hbv3 (Nat.le_refl _)
          have hbx := hbx.below hbv3 (Blk.lt hbx)
          have hnt := hnt.below hbv3 (Nat.le_refl _)
          have hbl := below_on hbl hbv3 hbl.size
          have hcb := cells_below hcb hbv3 (by omega)
          have hcq := cells_below hcq hbv3 (by omega)
          refine hK _ _ ⟨hcb, hcq⟩ trivial ?_
          clear hK K
          simp only [Act.put, List.setIfInBounds_toArray, List.set_cons_zero, List.set_cons_succ]
          refine wpAnyD_step (i := 9) (by kernel_rfl) rfl fun K hK => ?_
          refine step_blk_alloc (z := .agg #[.int .u64 0, .bool false, .int .i64 0, .int .u64 0, .slice none 0 0]) (cs := #[.int .u64 0, .bool false, .int .i64 0, .int .u64 0, .slice none 0 0]) (zero_run (by kernel_rfl)) rfl fun b8 v4 h8 h8ge hbv4 => ?_
          have h8lt := h8.lt
          have hsv4 := hbv4.size
          have hca := hca.below hbv4 (Nat.le_refl _)
          have hbx := hbx.below hbv4 (Blk.lt hbx)
          have hnt := hnt.below hbv4 (Nat.le_refl _)
          have hbl := below_on hbl hbv4 hbl.size
          have hcb := cells_below hcb hbv4 (by omega)
          have hcq := cells_below hcq hbv4 (by omega)
          have h7 := h7.below hbv4 h7.lt
          refine hK _ _ ⟨hcb, hcq⟩ trivial ?_
          clear hK K
          simp only [Act.put, List.setIfInBounds_toArray, List.set_cons_zero, List.set_cons_succ]
          refine wpAnyD_step (i := 10) (by kernel_rfl) rfl fun K hK => ?_
          refine step_blk_store_all (cs' := #[.int .u64 1, .bool OB, .int .i64 cb, .int .u64 (sb.toNat : Int)]) h7 rfl rfl (by kernel_rfl) rfl (by simp [Value.oneCell']) fun v4a h7n ho hs => ?_
          have h8 := h8.only ho (blk_ne h8 h7 (by decide))
          have hbx := hbx.only ho (by omega)
          have hnt := hnt.keep (S' := fun k => k < wd.heap.size) fun k hk hlt => ⟨ho.block k hlt (by have := hk.2; omega), by have := hk.2; omega⟩
          have hbl := below_only hbl ho (by rintro k rfl; have := hbl0.size; omega)
          have hcb := cells_only hcb ho (by omega) (by omega)
          have hcq := cells_only hcq ho (by omega) (by omega)
          have h7 := h7n
          clear h7n ho
          refine hK _ _ ⟨hcb, hcq⟩ trivial ?_
          clear hK K
          simp only [Act.put]
          refine wpAnyD_step (i := 11) (by kernel_rfl) rfl fun K hK => ?_
          refine step_blk_store_all (cs' := #[.int .u64 1, .bool OQ, .int .i64 cq, .int .u64 (sq.toNat : Int), .slice qa qn qc]) h8 rfl rfl (by kernel_rfl) rfl (by simp [Value.oneCell']) fun v4z h8n ho hs2 => ?_
          have h7 := h7.only ho (blk_ne h7 h8 (by decide))
          have hbx := hbx.only ho (by omega)
          have hnt := hnt.keep (S' := fun k => k < v4z.heap.size) fun k hk hlt => ⟨ho.block k hlt (by omega), by omega⟩
          have hbl := below_only hbl ho (by rintro k rfl; have := hbl0.size; omega)
          have hcb := cells_only hcb ho (by omega) (by omega)
          have hcq := cells_only hcq ho (by omega) (by omega)
          refine hK _ _ ⟨hcb, hcq⟩ trivial ?_
          clear hK K
          simp only [Act.put]
          refine wpAnyD_done (by kernel_rfl) ?_
          go_wp2_with (fail)
          go_meet
          case rel => exact ⟨b7, b8, .slice qa qn qc, rfl, rfl, h7, h8n, hbx, hnt, hbl⟩
        · refine step_blk_alloc (z := .agg #[.int .u64 0, .bool false, .int .i64 0, .int .u64 0, .slice none 0 0]) (cs := #[.int .u64 0, .bool false, .int .i64 0, .int .u64 0, .slice none 0 0]) (zero_run (by kernel_rfl)) rfl fun b8 v5 h8 h8ge hbv5 => ?_
          have h8lt := h8.lt
          have hsv5 := hbv5.size
          have hca := hca.below hbv5 (Nat.le_refl _)
          have hbx := hbx.below hbv5 (Blk.lt hbx)
          have hnt := hnt.below hbv5 (Nat.le_refl _)
          have hbl := below_on hbl hbv5 hbl.size
          have hcb := cells_below hcb hbv5 (by omega)
          have hcq := cells_below hcq hbv5 (by omega)
          refine hK _ _ ⟨hcb, hcq⟩ trivial ?_
          clear hK K
          simp only [Act.put, List.setIfInBounds_toArray, List.set_cons_zero, List.set_cons_succ]
          refine wpAnyD_step (i := 8) (by kernel_rfl) rfl fun K hK => ?_
          refine step_blk_alloc (z := .agg #[.int .u64 0, .bool false, .int .i64 0, .int .u64 0]) (cs := #[.int .u64 0, .bool false, .int .i64 0, .int .u64 0]) (zero_run (by kernel_rfl)) rfl fun b7 v6 h7 h7ge hbv6 => ?_
          have h7lt := h7.lt
          have hsv6 := hbv6.size
          have hca := hca.below hbv6 (Nat.le_refl _)
          have hbx := hbx.below hbv6 (Blk.lt hbx)
          have hnt := hnt.below hbv6 (Nat.le_refl _)
          have hbl := below_on hbl hbv6 hbl.size
          have hcb := cells_below hcb hbv6 (by omega)
          have hcq := cells_below hcq hbv6 (by omega)
          have h8 := h8.below hbv6 h8.lt
          refine hK _ _ ⟨hcb, hcq⟩ trivial ?_
          clear hK K
          simp only [Act.put, List.setIfInBounds_toArray, List.set_cons_zero, List.set_cons_succ]
          refine wpAnyD_step (i := 10) (by kernel_rfl) rfl fun K hK => ?_
          refine step_blk_store_all (cs' := #[.int .u64 1, .bool OB, .int .i64 cb, .int .u64 (sb.toNat : Int)]) h7 rfl rfl (by kernel_rfl) rfl (by simp [Value.oneCell']) fun v6a h7n ho hs => ?_
          have h8 := h8.only ho (blk_ne h8 h7 (by decide))
          have hbx := hbx.only ho (by omega)
          have hnt := hnt.keep (S' := fun k => k < wd.heap.size) fun k hk hlt => ⟨ho.block k hlt (by have := hk.2; omega), by have := hk.2; omega⟩
          have hbl := below_only hbl ho (by rintro k rfl; have := hbl0.size; omega)
          have hcb := cells_only hcb ho (by omega) (by omega)
          have hcq := cells_only hcq ho (by omega) (by omega)
          have h7 := h7n
          clear h7n ho
          refine hK _ _ ⟨hcb, hcq⟩ trivial ?_
          clear hK K
          simp only [Act.put]
          refine wpAnyD_step (i := 11) (by kernel_rfl) rfl fun K hK => ?_
          refine step_blk_store_all (cs' := #[.int .u64 1, .bool OQ, .int .i64 cq, .int .u64 (sq.toNat : Int), .slice qa qn qc]) h8 rfl rfl (by kernel_rfl) rfl (by simp [Value.oneCell']) fun v6z h8n ho hs2 => ?_
          have h7 := h7.only ho (blk_ne h7 h8 (by decide))
          have hbx := hbx.only ho (by omega)
          have hnt := hnt.keep (S' := fun k => k < v6z.heap.size) fun k hk hlt => ⟨ho.block k hlt (by omega), by omega⟩
          have hbl := below_only hbl ho (by rintro k rfl; have := hbl0.size; omega)
          have hcb := cells_only hcb ho (by omega) (by omega)
          have hcq := cells_only hcq ho (by omega) (by omega)
          refine hK _ _ ⟨hcb, hcq⟩ trivial ?_
          clear hK K
          simp only [Act.put]
          refine wpAnyD_done (by kernel_rfl) ?_
          go_wp2_with (fail)
          go_meet
          case rel => exact ⟨b7, b8, .slice qa qn qc, rfl, rfl, h7, h8n, hbx, hnt, hbl⟩
      · refine step_blk_alloc (z := .agg #[.int .u64 0, .bool false, .int .i64 0, .int .u64 0]) (cs := #[.int .u64 0, .bool false, .int .i64 0, .int .u64 0]) (zero_run (by kernel_rfl)) rfl fun b7 v7 h7 h7ge hbv7 => ?_
        have h7lt := h7.lt
        have hsv7 := hbv7.size
        have hca := hca.below hbv7 (Nat.le_refl _)
        have hbx := hbx.below hbv7 (Blk.lt hbx)
        have hnt := hnt.below hbv7 (Nat.le_refl _)
        have hbl := below_on hbl hbv7 hbl.size
        have hcb := cells_below hcb hbv7 (by omega)
        refine hK _ _ hcb trivial ?_
        clear hK K
        simp only [Act.put, List.setIfInBounds_toArray, List.set_cons_zero, List.set_cons_succ]
        refine wpAnyD_branch (rs := [5, 9]) (by kernel_rfl) (by decide) (List.forall_mem_cons.2 ⟨wpAnyD_op rfl fun K hK => ?_, List.forall_mem_cons.2 ⟨wpAnyD_op rfl fun K hK => ?_, fun _ h => absurd h List.not_mem_nil⟩⟩)
        · refine step_call (vs := #[.pointer (some ⟨g, 0, none⟩)]) (by rfl) (by go_simp) (by kernel_rfl) (questions_has v7 _ g c3 hca hok3) ?_
          rintro e v8 ⟨vQ, rfl, hvQ, hbv8⟩
          rw [HQQ.out] at hvQ
          have hsv8 := hbv8.size
          have hca := hca.below hbv8 (Nat.le_refl _)
          have hbx := hbx.below hbv8 (Blk.lt hbx)
          have hnt := hnt.below hbv8 (Nat.le_refl _)
          have hbl := below_on hbl hbv8 hbl.size
          have hcb := cells_below hcb hbv8 (by omega)
          have h7 := h7.below hbv8 h7.lt
          obtain ⟨b2, o2, yQ, dQ, hyQ, runQ, rdQ, hcq, hb2⟩ := hvQ.index_runS (P := Tryd.prog) rowQst (by decide) .i64 0 (by decide) (by simp)
          obtain rfl : yQ = ⟨1, OQ, cq, sq, lq⟩ := by simpa using hyQ.symm
          obtain ⟨vq, rfl, svq⟩ := rdQ
          obtain ⟨qa, qn, qc, rfl⟩ := Sl.shape svq
          have hcq : ∀ j v, [.int .u64 1, .bool OQ, .int .i64 cq, .int .u64 (sq.toNat : Int), .slice qa qn qc][j]? = some v → v8.cell? ⟨b2, o2 + j, none⟩ = some v := hcq
          have RQ := Lib.hid runQ
          clear hvQ hyQ svq runQ
          refine ⟨_, rfl, hK _ _ hcb trivial ?_⟩
          clear hK K
          simp only [Act.put, List.setIfInBounds_toArray, List.set_cons_zero, List.set_cons_succ]
          refine wpAnyD_take (i := 6) (dst := some 36) (v := .pointer (some ⟨b2, o2, none⟩)) rfl rfl (by decide) (by kernel_rfl) (by kernel_rfl) (by kernel_rfl) (fun _ _ _ h => h) (yields_index (by rfl) rfl rfl RQ.out) (hcb) (.inr trivial) ?_
          simp only [Act.put, List.setIfInBounds_toArray, List.set_cons_zero, List.set_cons_succ]
          refine wpAnyD_stronger (fun wq => (∀ j v, [.int .u64 1, .bool OB, .int .i64 cb, .int .u64 (sb.toNat : Int)][j]? = some v → wq.cell? ⟨b1, o1 + j, none⟩ = some v) ∧ (∀ j v, [.int .u64 1, .bool OQ, .int .i64 cq, .int .u64 (sq.toNat : Int), .slice qa qn qc][j]? = some v → wq.cell? ⟨b2, o2 + j, none⟩ = some v)) (fun _ h => h.1) _ _ _ _ ?_
          refine wpAnyD_take (i := 7) (dst := some 37) (v := .agg #[.int .u64 1, .bool OQ, .int .i64 cq, .int .u64 (sq.toNat : Int), .slice qa qn qc]) rfl rfl (by decide) (by kernel_rfl) (by kernel_rfl) (by kernel_rfl) (fun _ _ _ h => h) (yields_cells [.int .u64 1, .bool OQ, .int .i64 cq, .int .u64 (sq.toNat : Int), .slice qa qn qc] Tryd.underlying94 rfl (by kernel_rfl) (by rfl) rfl fun _ h => h.2) (⟨hcb, hcq⟩) (.inr trivial) ?_
          simp only [Act.put, List.setIfInBounds_toArray, List.set_cons_zero, List.set_cons_succ]
          refine wpAnyD_step (i := 9) (by kernel_rfl) rfl fun K hK => ?_
          refine step_blk_alloc (z := .agg #[.int .u64 0, .bool false, .int .i64 0, .int .u64 0, .slice none 0 0]) (cs := #[.int .u64 0, .bool false, .int .i64 0, .int .u64 0, .slice none 0 0]) (zero_run (by kernel_rfl)) rfl fun b8 v9 h8 h8ge hbv9 => ?_
          have h8lt := h8.lt
          have hsv9 := hbv9.size
          have hca := hca.below hbv9 (Nat.le_refl _)
          have hbx := hbx.below hbv9 (Blk.lt hbx)
          have hnt := hnt.below hbv9 (Nat.le_refl _)
          have hbl := below_on hbl hbv9 hbl.size
          have hcb := cells_below hcb hbv9 (by omega)
          have hcq := cells_below hcq hbv9 (by omega)
          have h7 := h7.below hbv9 h7.lt
          refine hK _ _ ⟨hcb, hcq⟩ trivial ?_
          clear hK K
          simp only [Act.put, List.setIfInBounds_toArray, List.set_cons_zero, List.set_cons_succ]
          refine wpAnyD_step (i := 10) (by kernel_rfl) rfl fun K hK => ?_
          refine step_blk_store_all (cs' := #[.int .u64 1, .bool OB, .int .i64 cb, .int .u64 (sb.toNat : Int)]) h7 rfl rfl (by kernel_rfl) rfl (by simp [Value.oneCell']) fun v9a h7n ho hs => ?_
          have h8 := h8.only ho (blk_ne h8 h7 (by decide))
          have hbx := hbx.only ho (by omega)
          have hnt := hnt.keep (S' := fun k => k < wd.heap.size) fun k hk hlt => ⟨ho.block k hlt (by have := hk.2; omega), by have := hk.2; omega⟩
          have hbl := below_only hbl ho (by rintro k rfl; have := hbl0.size; omega)
          have hcb := cells_only hcb ho (by omega) (by omega)
          have hcq := cells_only hcq ho (by omega) (by omega)
          have h7 := h7n
          clear h7n ho
          refine hK _ _ ⟨hcb, hcq⟩ trivial ?_
          clear hK K
          simp only [Act.put]
          refine wpAnyD_step (i := 11) (by kernel_rfl) rfl fun K hK => ?_
          refine step_blk_store_all (cs' := #[.int .u64 1, .bool OQ, .int .i64 cq, .int .u64 (sq.toNat : Int), .slice qa qn qc]) h8 rfl rfl (by kernel_rfl) rfl (by simp [Value.oneCell']) fun v9z h8n ho hs2 => ?_
          have h7 := h7.only ho (blk_ne h7 h8 (by decide))
          have hbx := hbx.only ho (by omega)
          have hnt := hnt.keep (S' := fun k => k < v9z.heap.size) fun k hk hlt => ⟨ho.block k hlt (by omega), by omega⟩
          have hbl := below_only hbl ho (by rintro k rfl; have := hbl0.size; omega)
          have hcb := cells_only hcb ho (by omega) (by omega)
          have hcq := cells_only hcq ho (by omega) (by omega)
          refine hK _ _ ⟨hcb, hcq⟩ trivial ?_
          clear hK K
          simp only [Act.put]
          refine wpAnyD_done (by kernel_rfl) ?_
          go_wp2_with (fail)
          go_meet
          case rel => exact ⟨b7, b8, .slice qa qn qc, rfl, rfl, h7, h8n, hbx, hnt, hbl⟩
        · refine step_blk_alloc (z := .agg #[.int .u64 0, .bool false, .int .i64 0, .int .u64 0, .slice none 0 0]) (cs := #[.int .u64 0, .bool false, .int .i64 0, .int .u64 0, .slice none 0 0]) (zero_run (by kernel_rfl)) rfl fun b8 v10 h8 h8ge hbv10 => ?_
          have h8lt := h8.lt
          have hsv10 := hbv10.size
          have hca := hca.below hbv10 (Nat.le_refl _)
          have hbx := hbx.below hbv10 (Blk.lt hbx)
          have hnt := hnt.below hbv10 (Nat.le_refl _)
          have hbl := below_on hbl hbv10 hbl.size
          have hcb := cells_below hcb hbv10 (by omega)
          have h7 := h7.below hbv10 h7.lt
          refine hK _ _ hcb trivial ?_
          clear hK K
          simp only [Act.put, List.setIfInBounds_toArray, List.set_cons_zero, List.set_cons_succ]
          refine wpAnyD_step (i := 5) (by kernel_rfl) rfl fun K hK => ?_
          refine step_call (vs := #[.pointer (some ⟨g, 0, none⟩)]) (by rfl) (by go_simp) (by kernel_rfl) (questions_has v10 _ g c3 hca hok3) ?_
          rintro e v11 ⟨vQ, rfl, hvQ, hbv11⟩
          rw [HQQ.out] at hvQ
          have hsv11 := hbv11.size
          have hca := hca.below hbv11 (Nat.le_refl _)
          have hbx := hbx.below hbv11 (Blk.lt hbx)
          have hnt := hnt.below hbv11 (Nat.le_refl _)
          have hbl := below_on hbl hbv11 hbl.size
          have hcb := cells_below hcb hbv11 (by omega)
          have h7 := h7.below hbv11 h7.lt
          have h8 := h8.below hbv11 h8.lt
          obtain ⟨b2, o2, yQ, dQ, hyQ, runQ, rdQ, hcq, hb2⟩ := hvQ.index_runS (P := Tryd.prog) rowQst (by decide) .i64 0 (by decide) (by simp)
          obtain rfl : yQ = ⟨1, OQ, cq, sq, lq⟩ := by simpa using hyQ.symm
          obtain ⟨vq, rfl, svq⟩ := rdQ
          obtain ⟨qa, qn, qc, rfl⟩ := Sl.shape svq
          have hcq : ∀ j v, [.int .u64 1, .bool OQ, .int .i64 cq, .int .u64 (sq.toNat : Int), .slice qa qn qc][j]? = some v → v11.cell? ⟨b2, o2 + j, none⟩ = some v := hcq
          have RQ := Lib.hid runQ
          clear hvQ hyQ svq runQ
          refine ⟨_, rfl, hK _ _ hcb trivial ?_⟩
          clear hK K
          simp only [Act.put, List.setIfInBounds_toArray, List.set_cons_zero, List.set_cons_succ]
          refine wpAnyD_take (i := 6) (dst := some 36) (v := .pointer (some ⟨b2, o2, none⟩)) rfl rfl (by decide) (by kernel_rfl) (by kernel_rfl) (by kernel_rfl) (fun _ _ _ h => h) (yields_index (by rfl) rfl rfl RQ.out) (hcb) (.inr trivial) ?_
          simp only [Act.put, List.setIfInBounds_toArray, List.set_cons_zero, List.set_cons_succ]
          refine wpAnyD_stronger (fun wq => (∀ j v, [.int .u64 1, .bool OB, .int .i64 cb, .int .u64 (sb.toNat : Int)][j]? = some v → wq.cell? ⟨b1, o1 + j, none⟩ = some v) ∧ (∀ j v, [.int .u64 1, .bool OQ, .int .i64 cq, .int .u64 (sq.toNat : Int), .slice qa qn qc][j]? = some v → wq.cell? ⟨b2, o2 + j, none⟩ = some v)) (fun _ h => h.1) _ _ _ _ ?_
          refine wpAnyD_take (i := 7) (dst := some 37) (v := .agg #[.int .u64 1, .bool OQ, .int .i64 cq, .int .u64 (sq.toNat : Int), .slice qa qn qc]) rfl rfl (by decide) (by kernel_rfl) (by kernel_rfl) (by kernel_rfl) (fun _ _ _ h => h) (yields_cells [.int .u64 1, .bool OQ, .int .i64 cq, .int .u64 (sq.toNat : Int), .slice qa qn qc] Tryd.underlying94 rfl (by kernel_rfl) (by rfl) rfl fun _ h => h.2) (⟨hcb, hcq⟩) (.inr trivial) ?_
          simp only [Act.put, List.setIfInBounds_toArray, List.set_cons_zero, List.set_cons_succ]
          refine wpAnyD_step (i := 10) (by kernel_rfl) rfl fun K hK => ?_
          refine step_blk_store_all (cs' := #[.int .u64 1, .bool OB, .int .i64 cb, .int .u64 (sb.toNat : Int)]) h7 rfl rfl (by kernel_rfl) rfl (by simp [Value.oneCell']) fun v11a h7n ho hs => ?_
          have h8 := h8.only ho (blk_ne h8 h7 (by decide))
          have hbx := hbx.only ho (by omega)
          have hnt := hnt.keep (S' := fun k => k < wd.heap.size) fun k hk hlt => ⟨ho.block k hlt (by have := hk.2; omega), by have := hk.2; omega⟩
          have hbl := below_only hbl ho (by rintro k rfl; have := hbl0.size; omega)
          have hcb := cells_only hcb ho (by omega) (by omega)
          have hcq := cells_only hcq ho (by omega) (by omega)
          have h7 := h7n
          clear h7n ho
          refine hK _ _ ⟨hcb, hcq⟩ trivial ?_
          clear hK K
          simp only [Act.put]
          refine wpAnyD_step (i := 11) (by kernel_rfl) rfl fun K hK => ?_
          refine step_blk_store_all (cs' := #[.int .u64 1, .bool OQ, .int .i64 cq, .int .u64 (sq.toNat : Int), .slice qa qn qc]) h8 rfl rfl (by kernel_rfl) rfl (by simp [Value.oneCell']) fun v11z h8n ho hs2 => ?_
          have h7 := h7.only ho (blk_ne h7 h8 (by decide))
          have hbx := hbx.only ho (by omega)
          have hnt := hnt.keep (S' := fun k => k < v11z.heap.size) fun k hk hlt => ⟨ho.block k hlt (by omega), by omega⟩
          have hbl := below_only hbl ho (by rintro k rfl; have := hbl0.size; omega)
          have hcb := cells_only hcb ho (by omega) (by omega)
          have hcq := cells_only hcq ho (by omega) (by omega)
          refine hK _ _ ⟨hcb, hcq⟩ trivial ?_
          clear hK K
          simp only [Act.put]
          refine wpAnyD_done (by kernel_rfl) ?_
          go_wp2_with (fail)
          go_meet
          case rel => exact ⟨b7, b8, .slice qa qn qc, rfl, rfl, h7, h8n, hbx, hnt, hbl⟩
      · refine step_blk_alloc (z := .agg #[.int .u64 0, .bool false, .int .i64 0, .int .u64 0, .slice none 0 0]) (cs := #[.int .u64 0, .bool false, .int .i64 0, .int .u64 0, .slice none 0 0]) (zero_run (by kernel_rfl)) rfl fun b8 v12 h8 h8ge hbv12 => ?_
        have h8lt := h8.lt
        have hsv12 := hbv12.size
        have hca := hca.below hbv12 (Nat.le_refl _)
        have hbx := hbx.below hbv12 (Blk.lt hbx)
        have hnt := hnt.below hbv12 (Nat.le_refl _)
        have hbl := below_on hbl hbv12 hbl.size
        have hcb := cells_below hcb hbv12 (by omega)
        refine hK _ _ hcb trivial ?_
        clear hK K
        simp only [Act.put, List.setIfInBounds_toArray, List.set_cons_zero, List.set_cons_succ]
        refine wpAnyD_branch (rs := [5, 8]) (by kernel_rfl) (by decide) (List.forall_mem_cons.2 ⟨wpAnyD_op rfl fun K hK => ?_, List.forall_mem_cons.2 ⟨wpAnyD_op rfl fun K hK => ?_, fun _ h => absurd h List.not_mem_nil⟩⟩)
        · refine step_call (vs := #[.pointer (some ⟨g, 0, none⟩)]) (by rfl) (by go_simp) (by kernel_rfl) (questions_has v12 _ g c3 hca hok3) ?_
          rintro e v13 ⟨vQ, rfl, hvQ, hbv13⟩
          rw [HQQ.out] at hvQ
          have hsv13 := hbv13.size
          have hca := hca.below hbv13 (Nat.le_refl _)
          have hbx := hbx.below hbv13 (Blk.lt hbx)
          have hnt := hnt.below hbv13 (Nat.le_refl _)
          have hbl := below_on hbl hbv13 hbl.size
          have hcb := cells_below hcb hbv13 (by omega)
          have h8 := h8.below hbv13 h8.lt
          obtain ⟨b2, o2, yQ, dQ, hyQ, runQ, rdQ, hcq, hb2⟩ := hvQ.index_runS (P := Tryd.prog) rowQst (by decide) .i64 0 (by decide) (by simp)
          obtain rfl : yQ = ⟨1, OQ, cq, sq, lq⟩ := by simpa using hyQ.symm
          obtain ⟨vq, rfl, svq⟩ := rdQ
          obtain ⟨qa, qn, qc, rfl⟩ := Sl.shape svq
          have hcq : ∀ j v, [.int .u64 1, .bool OQ, .int .i64 cq, .int .u64 (sq.toNat : Int), .slice qa qn qc][j]? = some v → v13.cell? ⟨b2, o2 + j, none⟩ = some v := hcq
          have RQ := Lib.hid runQ
          clear hvQ hyQ svq runQ
          refine ⟨_, rfl, hK _ _ hcb trivial ?_⟩
          clear hK K
          simp only [Act.put, List.setIfInBounds_toArray, List.set_cons_zero, List.set_cons_succ]
          refine wpAnyD_take (i := 6) (dst := some 36) (v := .pointer (some ⟨b2, o2, none⟩)) rfl rfl (by decide) (by kernel_rfl) (by kernel_rfl) (by kernel_rfl) (fun _ _ _ h => h) (yields_index (by rfl) rfl rfl RQ.out) (hcb) (.inr trivial) ?_
          simp only [Act.put, List.setIfInBounds_toArray, List.set_cons_zero, List.set_cons_succ]
          refine wpAnyD_stronger (fun wq => (∀ j v, [.int .u64 1, .bool OB, .int .i64 cb, .int .u64 (sb.toNat : Int)][j]? = some v → wq.cell? ⟨b1, o1 + j, none⟩ = some v) ∧ (∀ j v, [.int .u64 1, .bool OQ, .int .i64 cq, .int .u64 (sq.toNat : Int), .slice qa qn qc][j]? = some v → wq.cell? ⟨b2, o2 + j, none⟩ = some v)) (fun _ h => h.1) _ _ _ _ ?_
          refine wpAnyD_take (i := 7) (dst := some 37) (v := .agg #[.int .u64 1, .bool OQ, .int .i64 cq, .int .u64 (sq.toNat : Int), .slice qa qn qc]) rfl rfl (by decide) (by kernel_rfl) (by kernel_rfl) (by kernel_rfl) (fun _ _ _ h => h) (yields_cells [.int .u64 1, .bool OQ, .int .i64 cq, .int .u64 (sq.toNat : Int), .slice qa qn qc] Tryd.underlying94 rfl (by kernel_rfl) (by rfl) rfl fun _ h => h.2) (⟨hcb, hcq⟩) (.inr trivial) ?_
          simp only [Act.put, List.setIfInBounds_toArray, List.set_cons_zero, List.set_cons_succ]
          refine wpAnyD_step (i := 8) (by kernel_rfl) rfl fun K hK => ?_
          refine step_blk_alloc (z := .agg #[.int .u64 0, .bool false, .int .i64 0, .int .u64 0]) (cs := #[.int .u64 0, .bool false, .int .i64 0, .int .u64 0]) (zero_run (by kernel_rfl)) rfl fun b7 v14 h7 h7ge hbv14 => ?_
          have h7lt := h7.lt
          have hsv14 := hbv14.size
          have hca := hca.below hbv14 (Nat.le_refl _)
          have hbx := hbx.below hbv14 (Blk.lt hbx)
          have hnt := hnt.below hbv14 (Nat.le_refl _)
          have hbl := below_on hbl hbv14 hbl.size
          have hcb := cells_below hcb hbv14 (by omega)
          have hcq := cells_below hcq hbv14 (by omega)
          have h8 := h8.below hbv14 h8.lt
          refine hK _ _ ⟨hcb, hcq⟩ trivial ?_
          clear hK K
          simp only [Act.put, List.setIfInBounds_toArray, List.set_cons_zero, List.set_cons_succ]
          refine wpAnyD_step (i := 10) (by kernel_rfl) rfl fun K hK => ?_
          refine step_blk_store_all (cs' := #[.int .u64 1, .bool OB, .int .i64 cb, .int .u64 (sb.toNat : Int)]) h7 rfl rfl (by kernel_rfl) rfl (by simp [Value.oneCell']) fun v14a h7n ho hs => ?_
          have h8 := h8.only ho (blk_ne h8 h7 (by decide))
          have hbx := hbx.only ho (by omega)
          have hnt := hnt.keep (S' := fun k => k < wd.heap.size) fun k hk hlt => ⟨ho.block k hlt (by have := hk.2; omega), by have := hk.2; omega⟩
          have hbl := below_only hbl ho (by rintro k rfl; have := hbl0.size; omega)
          have hcb := cells_only hcb ho (by omega) (by omega)
          have hcq := cells_only hcq ho (by omega) (by omega)
          have h7 := h7n
          clear h7n ho
          refine hK _ _ ⟨hcb, hcq⟩ trivial ?_
          clear hK K
          simp only [Act.put]
          refine wpAnyD_step (i := 11) (by kernel_rfl) rfl fun K hK => ?_
          refine step_blk_store_all (cs' := #[.int .u64 1, .bool OQ, .int .i64 cq, .int .u64 (sq.toNat : Int), .slice qa qn qc]) h8 rfl rfl (by kernel_rfl) rfl (by simp [Value.oneCell']) fun v14z h8n ho hs2 => ?_
          have h7 := h7.only ho (blk_ne h7 h8 (by decide))
          have hbx := hbx.only ho (by omega)
          have hnt := hnt.keep (S' := fun k => k < v14z.heap.size) fun k hk hlt => ⟨ho.block k hlt (by omega), by omega⟩
          have hbl := below_only hbl ho (by rintro k rfl; have := hbl0.size; omega)
          have hcb := cells_only hcb ho (by omega) (by omega)
          have hcq := cells_only hcq ho (by omega) (by omega)
          refine hK _ _ ⟨hcb, hcq⟩ trivial ?_
          clear hK K
          simp only [Act.put]
          refine wpAnyD_done (by kernel_rfl) ?_
          go_wp2_with (fail)
          go_meet
          case rel => exact ⟨b7, b8, .slice qa qn qc, rfl, rfl, h7, h8n, hbx, hnt, hbl⟩
        · refine step_blk_alloc (z := .agg #[.int .u64 0, .bool false, .int .i64 0, .int .u64 0]) (cs := #[.int .u64 0, .bool false, .int .i64 0, .int .u64 0]) (zero_run (by kernel_rfl)) rfl fun b7 v15 h7 h7ge hbv15 => ?_
          have h7lt := h7.lt
          have hsv15 := hbv15.size
          have hca := hca.below hbv15 (Nat.le_refl _)
          have hbx := hbx.below hbv15 (Blk.lt hbx)
          have hnt := hnt.below hbv15 (Nat.le_refl _)
          have hbl := below_on hbl hbv15 hbl.size
          have hcb := cells_below hcb hbv15 (by omega)
          have h8 := h8.below hbv15 h8.lt
          refine hK _ _ hcb trivial ?_
          clear hK K
          simp only [Act.put, List.setIfInBounds_toArray, List.set_cons_zero, List.set_cons_succ]
          refine wpAnyD_step (i := 5) (by kernel_rfl) rfl fun K hK => ?_
          refine step_call (vs := #[.pointer (some ⟨g, 0, none⟩)]) (by rfl) (by go_simp) (by kernel_rfl) (questions_has v15 _ g c3 hca hok3) ?_
          rintro e v16 ⟨vQ, rfl, hvQ, hbv16⟩
          rw [HQQ.out] at hvQ
          have hsv16 := hbv16.size
          have hca := hca.below hbv16 (Nat.le_refl _)
          have hbx := hbx.below hbv16 (Blk.lt hbx)
          have hnt := hnt.below hbv16 (Nat.le_refl _)
          have hbl := below_on hbl hbv16 hbl.size
          have hcb := cells_below hcb hbv16 (by omega)
          have h7 := h7.below hbv16 h7.lt
          have h8 := h8.below hbv16 h8.lt
          obtain ⟨b2, o2, yQ, dQ, hyQ, runQ, rdQ, hcq, hb2⟩ := hvQ.index_runS (P := Tryd.prog) rowQst (by decide) .i64 0 (by decide) (by simp)
          obtain rfl : yQ = ⟨1, OQ, cq, sq, lq⟩ := by simpa using hyQ.symm
          obtain ⟨vq, rfl, svq⟩ := rdQ
          obtain ⟨qa, qn, qc, rfl⟩ := Sl.shape svq
          have hcq : ∀ j v, [.int .u64 1, .bool OQ, .int .i64 cq, .int .u64 (sq.toNat : Int), .slice qa qn qc][j]? = some v → v16.cell? ⟨b2, o2 + j, none⟩ = some v := hcq
          have RQ := Lib.hid runQ
          clear hvQ hyQ svq runQ
          refine ⟨_, rfl, hK _ _ hcb trivial ?_⟩
          clear hK K
          simp only [Act.put, List.setIfInBounds_toArray, List.set_cons_zero, List.set_cons_succ]
          refine wpAnyD_take (i := 6) (dst := some 36) (v := .pointer (some ⟨b2, o2, none⟩)) rfl rfl (by decide) (by kernel_rfl) (by kernel_rfl) (by kernel_rfl) (fun _ _ _ h => h) (yields_index (by rfl) rfl rfl RQ.out) (hcb) (.inr trivial) ?_
          simp only [Act.put, List.setIfInBounds_toArray, List.set_cons_zero, List.set_cons_succ]
          refine wpAnyD_stronger (fun wq => (∀ j v, [.int .u64 1, .bool OB, .int .i64 cb, .int .u64 (sb.toNat : Int)][j]? = some v → wq.cell? ⟨b1, o1 + j, none⟩ = some v) ∧ (∀ j v, [.int .u64 1, .bool OQ, .int .i64 cq, .int .u64 (sq.toNat : Int), .slice qa qn qc][j]? = some v → wq.cell? ⟨b2, o2 + j, none⟩ = some v)) (fun _ h => h.1) _ _ _ _ ?_
          refine wpAnyD_take (i := 7) (dst := some 37) (v := .agg #[.int .u64 1, .bool OQ, .int .i64 cq, .int .u64 (sq.toNat : Int), .slice qa qn qc]) rfl rfl (by decide) (by kernel_rfl) (by kernel_rfl) (by kernel_rfl) (fun _ _ _ h => h) (yields_cells [.int .u64 1, .bool OQ, .int .i64 cq, .int .u64 (sq.toNat : Int), .slice qa qn qc] Tryd.underlying94 rfl (by kernel_rfl) (by rfl) rfl fun _ h => h.2) (⟨hcb, hcq⟩) (.inr trivial) ?_
          simp only [Act.put, List.setIfInBounds_toArray, List.set_cons_zero, List.set_cons_succ]
          refine wpAnyD_step (i := 10) (by kernel_rfl) rfl fun K hK => ?_
          refine step_blk_store_all (cs' := #[.int .u64 1, .bool OB, .int .i64 cb, .int .u64 (sb.toNat : Int)]) h7 rfl rfl (by kernel_rfl) rfl (by simp [Value.oneCell']) fun v16a h7n ho hs => ?_
          have h8 := h8.only ho (blk_ne h8 h7 (by decide))
          have hbx := hbx.only ho (by omega)
          have hnt := hnt.keep (S' := fun k => k < wd.heap.size) fun k hk hlt => ⟨ho.block k hlt (by have := hk.2; omega), by have := hk.2; omega⟩
          have hbl := below_only hbl ho (by rintro k rfl; have := hbl0.size; omega)
          have hcb := cells_only hcb ho (by omega) (by omega)
          have hcq := cells_only hcq ho (by omega) (by omega)
          have h7 := h7n
          clear h7n ho
          refine hK _ _ ⟨hcb, hcq⟩ trivial ?_
          clear hK K
          simp only [Act.put]
          refine wpAnyD_step (i := 11) (by kernel_rfl) rfl fun K hK => ?_
          refine step_blk_store_all (cs' := #[.int .u64 1, .bool OQ, .int .i64 cq, .int .u64 (sq.toNat : Int), .slice qa qn qc]) h8 rfl rfl (by kernel_rfl) rfl (by simp [Value.oneCell']) fun v16z h8n ho hs2 => ?_
          have h7 := h7.only ho (blk_ne h7 h8 (by decide))
          have hbx := hbx.only ho (by omega)
          have hnt := hnt.keep (S' := fun k => k < v16z.heap.size) fun k hk hlt => ⟨ho.block k hlt (by omega), by omega⟩
          have hbl := below_only hbl ho (by rintro k rfl; have := hbl0.size; omega)
          have hcb := cells_only hcb ho (by omega) (by omega)
          have hcq := cells_only hcq ho (by omega) (by omega)
          refine hK _ _ ⟨hcb, hcq⟩ trivial ?_
          clear hK K
          simp only [Act.put]
          refine wpAnyD_done (by kernel_rfl) ?_
          go_wp2_with (fail)
          go_meet
          case rel => exact ⟨b7, b8, .slice qa qn qc, rfl, rfl, h7, h8n, hbx, hnt, hbl⟩
    · refine step_blk_alloc (z := .agg #[.int .u64 0, .bool false, .int .i64 0, .int .u64 0]) (cs := #[.int .u64 0, .bool false, .int .i64 0, .int .u64 0]) (zero_run (by kernel_rfl)) rfl fun b7 v17 h7 h7ge hbv17 => ?_
      have h7lt := h7.lt
      have hsv17 := hbv17.size
      have hca := hca.below hbv17 (Nat.le_refl _)
      have hbx := hbx.below hbv17 (Blk.lt hbx)
      have hnt := hnt.below hbv17 (Nat.le_refl _)
      have hbl := below_on hbl hbv17 hbl.size
      refine hK _ _ trivial trivial ?_
      clear hK K
      simp only [Act.put, List.setIfInBounds_toArray, List.set_cons_zero, List.set_cons_succ]
      refine wpAnyD_branch (rs := [1, 9]) (by kernel_rfl) (by decide) (List.forall_mem_cons.2 ⟨wpAnyD_op rfl fun K hK => ?_, List.forall_mem_cons.2 ⟨wpAnyD_op rfl fun K hK => ?_, fun _ h => absurd h List.not_mem_nil⟩⟩)
      · refine step_call (vs := #[.pointer (some ⟨g, 0, none⟩)]) (by rfl) (by go_simp) (by kernel_rfl) (batches_has v17 _ g c3 hca hok3) ?_
        rintro e v18 ⟨vB, rfl, hvB, hbv18⟩
        rw [HBQ.out] at hvB
        have hsv18 := hbv18.size
        have hca := hca.below hbv18 (Nat.le_refl _)
        have hbx := hbx.below hbv18 (Blk.lt hbx)
        have hnt := hnt.below hbv18 (Nat.le_refl _)
        have hbl := below_on hbl hbv18 hbl.size
        have h7 := h7.below hbv18 h7.lt
        obtain ⟨b1, o1, yB, dB, hyB, runB, rdB, hcb, hb1⟩ := hvB.index_runS (P := Tryd.prog) rowBat (by decide) .i64 0 (by decide) (by simp)
        obtain rfl : yB = ⟨1, OB, cb, sb⟩ := by simpa using hyB.symm
        obtain rfl : dB = _ := rdB
        have hcb : ∀ j v, [.int .u64 1, .bool OB, .int .i64 cb, .int .u64 (sb.toNat : Int)][j]? = some v → v18.cell? ⟨b1, o1 + j, none⟩ = some v := hcb
        have RB := Lib.hid runB
        clear hvB hyB runB
        refine ⟨_, rfl, hK _ _ trivial trivial ?_⟩
        clear hK K
        simp only [Act.put, List.setIfInBounds_toArray, List.set_cons_zero, List.set_cons_succ]
        refine wpAnyD_take (i := 2) (dst := some 32) (v := .pointer (some ⟨b1, o1, none⟩)) rfl rfl (by decide) (by kernel_rfl) (by kernel_rfl) (by kernel_rfl) (fun _ _ _ h => h) (yields_index (by rfl) rfl rfl RB.out) (trivial) (.inr trivial) ?_
        simp only [Act.put, List.setIfInBounds_toArray, List.set_cons_zero, List.set_cons_succ]
        refine wpAnyD_stronger (fun wq => (∀ j v, [.int .u64 1, .bool OB, .int .i64 cb, .int .u64 (sb.toNat : Int)][j]? = some v → wq.cell? ⟨b1, o1 + j, none⟩ = some v)) (fun _ _ => trivial) _ _ _ _ ?_
        refine wpAnyD_take (i := 3) (dst := some 33) (v := .agg #[.int .u64 1, .bool OB, .int .i64 cb, .int .u64 (sb.toNat : Int)]) rfl rfl (by decide) (by kernel_rfl) (by kernel_rfl) (by kernel_rfl) (fun _ _ _ h => h) (yields_cells [.int .u64 1, .bool OB, .int .i64 cb, .int .u64 (sb.toNat : Int)] Tryd.underlying90 rfl (by kernel_rfl) (by rfl) rfl fun _ h => h) (hcb) (.inr trivial) ?_
        simp only [Act.put, List.setIfInBounds_toArray, List.set_cons_zero, List.set_cons_succ]
        refine wpAnyD_branch (rs := [5, 9]) (by kernel_rfl) (by decide) (List.forall_mem_cons.2 ⟨wpAnyD_op rfl fun K hK => ?_, List.forall_mem_cons.2 ⟨wpAnyD_op rfl fun K hK => ?_, fun _ h => absurd h List.not_mem_nil⟩⟩)
        · refine step_call (vs := #[.pointer (some ⟨g, 0, none⟩)]) (by rfl) (by go_simp) (by kernel_rfl) (questions_has v18 _ g c3 hca hok3) ?_
          rintro e v19 ⟨vQ, rfl, hvQ, hbv19⟩
          rw [HQQ.out] at hvQ
          have hsv19 := hbv19.size
          have hca := hca.below hbv19 (Nat.le_refl _)
          have hbx := hbx.below hbv19 (Blk.lt hbx)
          have hnt := hnt.below hbv19 (Nat.le_refl _)
          have hbl := below_on hbl hbv19 hbl.size
          have hcb := cells_below hcb hbv19 (by omega)
          have h7 := h7.below hbv19 h7.lt
          obtain ⟨b2, o2, yQ, dQ, hyQ, runQ, rdQ, hcq, hb2⟩ := hvQ.index_runS (P := Tryd.prog) rowQst (by decide) .i64 0 (by decide) (by simp)
          obtain rfl : yQ = ⟨1, OQ, cq, sq, lq⟩ := by simpa using hyQ.symm
          obtain ⟨vq, rfl, svq⟩ := rdQ
          obtain ⟨qa, qn, qc, rfl⟩ := Sl.shape svq
          have hcq : ∀ j v, [.int .u64 1, .bool OQ, .int .i64 cq, .int .u64 (sq.toNat : Int), .slice qa qn qc][j]? = some v → v19.cell? ⟨b2, o2 + j, none⟩ = some v := hcq
          have RQ := Lib.hid runQ
          clear hvQ hyQ svq runQ
          refine ⟨_, rfl, hK _ _ hcb trivial ?_⟩
          clear hK K
          simp only [Act.put, List.setIfInBounds_toArray, List.set_cons_zero, List.set_cons_succ]
          refine wpAnyD_take (i := 6) (dst := some 36) (v := .pointer (some ⟨b2, o2, none⟩)) rfl rfl (by decide) (by kernel_rfl) (by kernel_rfl) (by kernel_rfl) (fun _ _ _ h => h) (yields_index (by rfl) rfl rfl RQ.out) (hcb) (.inr trivial) ?_
          simp only [Act.put, List.setIfInBounds_toArray, List.set_cons_zero, List.set_cons_succ]
          refine wpAnyD_stronger (fun wq => (∀ j v, [.int .u64 1, .bool OB, .int .i64 cb, .int .u64 (sb.toNat : Int)][j]? = some v → wq.cell? ⟨b1, o1 + j, none⟩ = some v) ∧ (∀ j v, [.int .u64 1, .bool OQ, .int .i64 cq, .int .u64 (sq.toNat : Int), .slice qa qn qc][j]? = some v → wq.cell? ⟨b2, o2 + j, none⟩ = some v)) (fun _ h => h.1) _ _ _ _ ?_
          refine wpAnyD_take (i := 7) (dst := some 37) (v := .agg #[.int .u64 1, .bool OQ, .int .i64 cq, .int .u64 (sq.toNat : Int), .slice qa qn qc]) rfl rfl (by decide) (by kernel_rfl) (by kernel_rfl) (by kernel_rfl) (fun _ _ _ h => h) (yields_cells [.int .u64 1, .bool OQ, .int .i64 cq, .int .u64 (sq.toNat : Int), .slice qa qn qc] Tryd.underlying94 rfl (by kernel_rfl) (by rfl) rfl fun _ h => h.2) (⟨hcb, hcq⟩) (.inr trivial) ?_
          simp only [Act.put, List.setIfInBounds_toArray, List.set_cons_zero, List.set_cons_succ]
          refine wpAnyD_step (i := 9) (by kernel_rfl) rfl fun K hK => ?_
          refine step_blk_alloc (z := .agg #[.int .u64 0, .bool false, .int .i64 0, .int .u64 0, .slice none 0 0]) (cs := #[.int .u64 0, .bool false, .int .i64 0, .int .u64 0, .slice none 0 0]) (zero_run (by kernel_rfl)) rfl fun b8 v20 h8 h8ge hbv20 => ?_
          have h8lt := h8.lt
          have hsv20 := hbv20.size
          have hca := hca.below hbv20 (Nat.le_refl _)
          have hbx := hbx.below hbv20 (Blk.lt hbx)
          have hnt := hnt.below hbv20 (Nat.le_refl _)
          have hbl := below_on hbl hbv20 hbl.size
          have hcb := cells_below hcb hbv20 (by omega)
          have hcq := cells_below hcq hbv20 (by omega)
          have h7 := h7.below hbv20 h7.lt
          refine hK _ _ ⟨hcb, hcq⟩ trivial ?_
          clear hK K
          simp only [Act.put, List.setIfInBounds_toArray, List.set_cons_zero, List.set_cons_succ]
          refine wpAnyD_step (i := 10) (by kernel_rfl) rfl fun K hK => ?_
          refine step_blk_store_all (cs' := #[.int .u64 1, .bool OB, .int .i64 cb, .int .u64 (sb.toNat : Int)]) h7 rfl rfl (by kernel_rfl) rfl (by simp [Value.oneCell']) fun v20a h7n ho hs => ?_
          have h8 := h8.only ho (blk_ne h8 h7 (by decide))
          have hbx := hbx.only ho (by omega)
          have hnt := hnt.keep (S' := fun k => k < wd.heap.size) fun k hk hlt => ⟨ho.block k hlt (by have := hk.2; omega), by have := hk.2; omega⟩
          have hbl := below_only hbl ho (by rintro k rfl; have := hbl0.size; omega)
          have hcb := cells_only hcb ho (by omega) (by omega)
          have hcq := cells_only hcq ho (by omega) (by omega)
          have h7 := h7n
          clear h7n ho
          refine hK _ _ ⟨hcb, hcq⟩ trivial ?_
          clear hK K
          simp only [Act.put]
          refine wpAnyD_step (i := 11) (by kernel_rfl) rfl fun K hK => ?_
          refine step_blk_store_all (cs' := #[.int .u64 1, .bool OQ, .int .i64 cq, .int .u64 (sq.toNat : Int), .slice qa qn qc]) h8 rfl rfl (by kernel_rfl) rfl (by simp [Value.oneCell']) fun v20z h8n ho hs2 => ?_
          have h7 := h7.only ho (blk_ne h7 h8 (by decide))
          have hbx := hbx.only ho (by omega)
          have hnt := hnt.keep (S' := fun k => k < v20z.heap.size) fun k hk hlt => ⟨ho.block k hlt (by omega), by omega⟩
          have hbl := below_only hbl ho (by rintro k rfl; have := hbl0.size; omega)
          have hcb := cells_only hcb ho (by omega) (by omega)
          have hcq := cells_only hcq ho (by omega) (by omega)
          refine hK _ _ ⟨hcb, hcq⟩ trivial ?_
          clear hK K
          simp only [Act.put]
          refine wpAnyD_done (by kernel_rfl) ?_
          go_wp2_with (fail)
          go_meet
          case rel => exact ⟨b7, b8, .slice qa qn qc, rfl, rfl, h7, h8n, hbx, hnt, hbl⟩
        · refine step_blk_alloc (z := .agg #[.int .u64 0, .bool false, .int .i64 0, .int .u64 0, .slice none 0 0]) (cs := #[.int .u64 0, .bool false, .int .i64 0, .int .u64 0, .slice none 0 0]) (zero_run (by kernel_rfl)) rfl fun b8 v21 h8 h8ge hbv21 => ?_
          have h8lt := h8.lt
          have hsv21 := hbv21.size
          have hca := hca.below hbv21 (Nat.le_refl _)
          have hbx := hbx.below hbv21 (Blk.lt hbx)
          have hnt := hnt.below hbv21 (Nat.le_refl _)
          have hbl := below_on hbl hbv21 hbl.size
          have hcb := cells_below hcb hbv21 (by omega)
          have h7 := h7.below hbv21 h7.lt
          refine hK _ _ hcb trivial ?_
          clear hK K
          simp only [Act.put, List.setIfInBounds_toArray, List.set_cons_zero, List.set_cons_succ]
          refine wpAnyD_step (i := 5) (by kernel_rfl) rfl fun K hK => ?_
          refine step_call (vs := #[.pointer (some ⟨g, 0, none⟩)]) (by rfl) (by go_simp) (by kernel_rfl) (questions_has v21 _ g c3 hca hok3) ?_
          rintro e v22 ⟨vQ, rfl, hvQ, hbv22⟩
          rw [HQQ.out] at hvQ
          have hsv22 := hbv22.size
          have hca := hca.below hbv22 (Nat.le_refl _)
          have hbx := hbx.below hbv22 (Blk.lt hbx)
          have hnt := hnt.below hbv22 (Nat.le_refl _)
          have hbl := below_on hbl hbv22 hbl.size
          have hcb := cells_below hcb hbv22 (by omega)
          have h7 := h7.below hbv22 h7.lt
          have h8 := h8.below hbv22 h8.lt
          obtain ⟨b2, o2, yQ, dQ, hyQ, runQ, rdQ, hcq, hb2⟩ := hvQ.index_runS (P := Tryd.prog) rowQst (by decide) .i64 0 (by decide) (by simp)
          obtain rfl : yQ = ⟨1, OQ, cq, sq, lq⟩ := by simpa using hyQ.symm
          obtain ⟨vq, rfl, svq⟩ := rdQ
          obtain ⟨qa, qn, qc, rfl⟩ := Sl.shape svq
          have hcq : ∀ j v, [.int .u64 1, .bool OQ, .int .i64 cq, .int .u64 (sq.toNat : Int), .slice qa qn qc][j]? = some v → v22.cell? ⟨b2, o2 + j, none⟩ = some v := hcq
          have RQ := Lib.hid runQ
          clear hvQ hyQ svq runQ
          refine ⟨_, rfl, hK _ _ hcb trivial ?_⟩
          clear hK K
          simp only [Act.put, List.setIfInBounds_toArray, List.set_cons_zero, List.set_cons_succ]
          refine wpAnyD_take (i := 6) (dst := some 36) (v := .pointer (some ⟨b2, o2, none⟩)) rfl rfl (by decide) (by kernel_rfl) (by kernel_rfl) (by kernel_rfl) (fun _ _ _ h => h) (yields_index (by rfl) rfl rfl RQ.out) (hcb) (.inr trivial) ?_
          simp only [Act.put, List.setIfInBounds_toArray, List.set_cons_zero, List.set_cons_succ]
          refine wpAnyD_stronger (fun wq => (∀ j v, [.int .u64 1, .bool OB, .int .i64 cb, .int .u64 (sb.toNat : Int)][j]? = some v → wq.cell? ⟨b1, o1 + j, none⟩ = some v) ∧ (∀ j v, [.int .u64 1, .bool OQ, .int .i64 cq, .int .u64 (sq.toNat : Int), .slice qa qn qc][j]? = some v → wq.cell? ⟨b2, o2 + j, none⟩ = some v)) (fun _ h => h.1) _ _ _ _ ?_
          refine wpAnyD_take (i := 7) (dst := some 37) (v := .agg #[.int .u64 1, .bool OQ, .int .i64 cq, .int .u64 (sq.toNat : Int), .slice qa qn qc]) rfl rfl (by decide) (by kernel_rfl) (by kernel_rfl) (by kernel_rfl) (fun _ _ _ h => h) (yields_cells [.int .u64 1, .bool OQ, .int .i64 cq, .int .u64 (sq.toNat : Int), .slice qa qn qc] Tryd.underlying94 rfl (by kernel_rfl) (by rfl) rfl fun _ h => h.2) (⟨hcb, hcq⟩) (.inr trivial) ?_
          simp only [Act.put, List.setIfInBounds_toArray, List.set_cons_zero, List.set_cons_succ]
          refine wpAnyD_step (i := 10) (by kernel_rfl) rfl fun K hK => ?_
          refine step_blk_store_all (cs' := #[.int .u64 1, .bool OB, .int .i64 cb, .int .u64 (sb.toNat : Int)]) h7 rfl rfl (by kernel_rfl) rfl (by simp [Value.oneCell']) fun v22a h7n ho hs => ?_
          have h8 := h8.only ho (blk_ne h8 h7 (by decide))
          have hbx := hbx.only ho (by omega)
          have hnt := hnt.keep (S' := fun k => k < wd.heap.size) fun k hk hlt => ⟨ho.block k hlt (by have := hk.2; omega), by have := hk.2; omega⟩
          have hbl := below_only hbl ho (by rintro k rfl; have := hbl0.size; omega)
          have hcb := cells_only hcb ho (by omega) (by omega)
          have hcq := cells_only hcq ho (by omega) (by omega)
          have h7 := h7n
          clear h7n ho
          refine hK _ _ ⟨hcb, hcq⟩ trivial ?_
          clear hK K
          simp only [Act.put]
          refine wpAnyD_step (i := 11) (by kernel_rfl) rfl fun K hK => ?_
          refine step_blk_store_all (cs' := #[.int .u64 1, .bool OQ, .int .i64 cq, .int .u64 (sq.toNat : Int), .slice qa qn qc]) h8 rfl rfl (by kernel_rfl) rfl (by simp [Value.oneCell']) fun v22z h8n ho hs2 => ?_
          have h7 := h7.only ho (blk_ne h7 h8 (by decide))
          have hbx := hbx.only ho (by omega)
          have hnt := hnt.keep (S' := fun k => k < v22z.heap.size) fun k hk hlt => ⟨ho.block k hlt (by omega), by omega⟩
          have hbl := below_only hbl ho (by rintro k rfl; have := hbl0.size; omega)
          have hcb := cells_only hcb ho (by omega) (by omega)
          have hcq := cells_only hcq ho (by omega) (by omega)
          refine hK _ _ ⟨hcb, hcq⟩ trivial ?_
          clear hK K
          simp only [Act.put]
          refine wpAnyD_done (by kernel_rfl) ?_
          go_wp2_with (fail)
          go_meet
          case rel => exact ⟨b7, b8, .slice qa qn qc, rfl, rfl, h7, h8n, hbx, hnt, hbl⟩
      · refine step_blk_alloc (z := .agg #[.int .u64 0, .bool false, .int .i64 0, .int .u64 0, .slice none 0 0]) (cs := #[.int .u64 0, .bool false, .int .i64 0, .int .u64 0, .slice none 0 0]) (zero_run (by kernel_rfl)) rfl fun b8 v23 h8 h8ge hbv23 => ?_
        have h8lt := h8.lt
        have hsv23 := hbv23.size
        have hca := hca.below hbv23 (Nat.le_refl _)
        have hbx := hbx.below hbv23 (Blk.lt hbx)
        have hnt := hnt.below hbv23 (Nat.le_refl _)
        have hbl := below_on hbl hbv23 hbl.size
        have h7 := h7.below hbv23 h7.lt
        refine hK _ _ trivial trivial ?_
        clear hK K
        simp only [Act.put, List.setIfInBounds_toArray, List.set_cons_zero, List.set_cons_succ]
        refine wpAnyD_step (i := 1) (by kernel_rfl) rfl fun K hK => ?_
        refine step_call (vs := #[.pointer (some ⟨g, 0, none⟩)]) (by rfl) (by go_simp) (by kernel_rfl) (batches_has v23 _ g c3 hca hok3) ?_
        rintro e v24 ⟨vB, rfl, hvB, hbv24⟩
        rw [HBQ.out] at hvB
        have hsv24 := hbv24.size
        have hca := hca.below hbv24 (Nat.le_refl _)
        have hbx := hbx.below hbv24 (Blk.lt hbx)
        have hnt := hnt.below hbv24 (Nat.le_refl _)
        have hbl := below_on hbl hbv24 hbl.size
        have h7 := h7.below hbv24 h7.lt
        have h8 := h8.below hbv24 h8.lt
        obtain ⟨b1, o1, yB, dB, hyB, runB, rdB, hcb, hb1⟩ := hvB.index_runS (P := Tryd.prog) rowBat (by decide) .i64 0 (by decide) (by simp)
        obtain rfl : yB = ⟨1, OB, cb, sb⟩ := by simpa using hyB.symm
        obtain rfl : dB = _ := rdB
        have hcb : ∀ j v, [.int .u64 1, .bool OB, .int .i64 cb, .int .u64 (sb.toNat : Int)][j]? = some v → v24.cell? ⟨b1, o1 + j, none⟩ = some v := hcb
        have RB := Lib.hid runB
        clear hvB hyB runB
        refine ⟨_, rfl, hK _ _ trivial trivial ?_⟩
        clear hK K
        simp only [Act.put, List.setIfInBounds_toArray, List.set_cons_zero, List.set_cons_succ]
        refine wpAnyD_take (i := 2) (dst := some 32) (v := .pointer (some ⟨b1, o1, none⟩)) rfl rfl (by decide) (by kernel_rfl) (by kernel_rfl) (by kernel_rfl) (fun _ _ _ h => h) (yields_index (by rfl) rfl rfl RB.out) (trivial) (.inr trivial) ?_
        simp only [Act.put, List.setIfInBounds_toArray, List.set_cons_zero, List.set_cons_succ]
        refine wpAnyD_stronger (fun wq => (∀ j v, [.int .u64 1, .bool OB, .int .i64 cb, .int .u64 (sb.toNat : Int)][j]? = some v → wq.cell? ⟨b1, o1 + j, none⟩ = some v)) (fun _ _ => trivial) _ _ _ _ ?_
        refine wpAnyD_take (i := 3) (dst := some 33) (v := .agg #[.int .u64 1, .bool OB, .int .i64 cb, .int .u64 (sb.toNat : Int)]) rfl rfl (by decide) (by kernel_rfl) (by kernel_rfl) (by kernel_rfl) (fun _ _ _ h => h) (yields_cells [.int .u64 1, .bool OB, .int .i64 cb, .int .u64 (sb.toNat : Int)] Tryd.underlying90 rfl (by kernel_rfl) (by rfl) rfl fun _ h => h) (hcb) (.inr trivial) ?_
        simp only [Act.put, List.setIfInBounds_toArray, List.set_cons_zero, List.set_cons_succ]
        refine wpAnyD_step (i := 5) (by kernel_rfl) rfl fun K hK => ?_
        refine step_call (vs := #[.pointer (some ⟨g, 0, none⟩)]) (by rfl) (by go_simp) (by kernel_rfl) (questions_has v24 _ g c3 hca hok3) ?_
        rintro e v25 ⟨vQ, rfl, hvQ, hbv25⟩
        rw [HQQ.out] at hvQ
        have hsv25 := hbv25.size
        have hca := hca.below hbv25 (Nat.le_refl _)
        have hbx := hbx.below hbv25 (Blk.lt hbx)
        have hnt := hnt.below hbv25 (Nat.le_refl _)
        have hbl := below_on hbl hbv25 hbl.size
        have hcb := cells_below hcb hbv25 (by omega)
        have h7 := h7.below hbv25 h7.lt
        have h8 := h8.below hbv25 h8.lt
        obtain ⟨b2, o2, yQ, dQ, hyQ, runQ, rdQ, hcq, hb2⟩ := hvQ.index_runS (P := Tryd.prog) rowQst (by decide) .i64 0 (by decide) (by simp)
        obtain rfl : yQ = ⟨1, OQ, cq, sq, lq⟩ := by simpa using hyQ.symm
        obtain ⟨vq, rfl, svq⟩ := rdQ
        obtain ⟨qa, qn, qc, rfl⟩ := Sl.shape svq
        have hcq : ∀ j v, [.int .u64 1, .bool OQ, .int .i64 cq, .int .u64 (sq.toNat : Int), .slice qa qn qc][j]? = some v → v25.cell? ⟨b2, o2 + j, none⟩ = some v := hcq
        have RQ := Lib.hid runQ
        clear hvQ hyQ svq runQ
        refine ⟨_, rfl, hK _ _ hcb trivial ?_⟩
        clear hK K
        simp only [Act.put, List.setIfInBounds_toArray, List.set_cons_zero, List.set_cons_succ]
        refine wpAnyD_take (i := 6) (dst := some 36) (v := .pointer (some ⟨b2, o2, none⟩)) rfl rfl (by decide) (by kernel_rfl) (by kernel_rfl) (by kernel_rfl) (fun _ _ _ h => h) (yields_index (by rfl) rfl rfl RQ.out) (hcb) (.inr trivial) ?_
        simp only [Act.put, List.setIfInBounds_toArray, List.set_cons_zero, List.set_cons_succ]
        refine wpAnyD_stronger (fun wq => (∀ j v, [.int .u64 1, .bool OB, .int .i64 cb, .int .u64 (sb.toNat : Int)][j]? = some v → wq.cell? ⟨b1, o1 + j, none⟩ = some v) ∧ (∀ j v, [.int .u64 1, .bool OQ, .int .i64 cq, .int .u64 (sq.toNat : Int), .slice qa qn qc][j]? = some v → wq.cell? ⟨b2, o2 + j, none⟩ = some v)) (fun _ h => h.1) _ _ _ _ ?_
        refine wpAnyD_take (i := 7) (dst := some 37) (v := .agg #[.int .u64 1, .bool OQ, .int .i64 cq, .int .u64 (sq.toNat : Int), .slice qa qn qc]) rfl rfl (by decide) (by kernel_rfl) (by kernel_rfl) (by kernel_rfl) (fun _ _ _ h => h) (yields_cells [.int .u64 1, .bool OQ, .int .i64 cq, .int .u64 (sq.toNat : Int), .slice qa qn qc] Tryd.underlying94 rfl (by kernel_rfl) (by rfl) rfl fun _ h => h.2) (⟨hcb, hcq⟩) (.inr trivial) ?_
        simp only [Act.put, List.setIfInBounds_toArray, List.set_cons_zero, List.set_cons_succ]
        refine wpAnyD_step (i := 10) (by kernel_rfl) rfl fun K hK => ?_
        refine step_blk_store_all (cs' := #[.int .u64 1, .bool OB, .int .i64 cb, .int .u64 (sb.toNat : Int)]) h7 rfl rfl (by kernel_rfl) rfl (by simp [Value.oneCell']) fun v25a h7n ho hs => ?_
        have h8 := h8.only ho (blk_ne h8 h7 (by decide))
        have hbx := hbx.only ho (by omega)
        have hnt := hnt.keep (S' := fun k => k < wd.heap.size) fun k hk hlt => ⟨ho.block k hlt (by have := hk.2; omega), by have := hk.2; omega⟩
        have hbl := below_only hbl ho (by rintro k rfl; have := hbl0.size; omega)
        have hcb := cells_only hcb ho (by omega) (by omega)
        have hcq := cells_only hcq ho (by omega) (by omega)
        have h7 := h7n
        clear h7n ho
        refine hK _ _ ⟨hcb, hcq⟩ trivial ?_
        clear hK K
        simp only [Act.put]
        refine wpAnyD_step (i := 11) (by kernel_rfl) rfl fun K hK => ?_
        refine step_blk_store_all (cs' := #[.int .u64 1, .bool OQ, .int .i64 cq, .int .u64 (sq.toNat : Int), .slice qa qn qc]) h8 rfl rfl (by kernel_rfl) rfl (by simp [Value.oneCell']) fun v25z h8n ho hs2 => ?_
        have h7 := h7.only ho (blk_ne h7 h8 (by decide))
        have hbx := hbx.only ho (by omega)
        have hnt := hnt.keep (S' := fun k => k < v25z.heap.size) fun k hk hlt => ⟨ho.block k hlt (by omega), by omega⟩
        have hbl := below_only hbl ho (by rintro k rfl; have := hbl0.size; omega)
        have hcb := cells_only hcb ho (by omega) (by omega)
        have hcq := cells_only hcq ho (by omega) (by omega)
        refine hK _ _ ⟨hcb, hcq⟩ trivial ?_
        clear hK K
        simp only [Act.put]
        refine wpAnyD_done (by kernel_rfl) ?_
        go_wp2_with (fail)
        go_meet
        case rel => exact ⟨b7, b8, .slice qa qn qc, rfl, rfl, h7, h8n, hbx, hnt, hbl⟩
    · refine step_blk_alloc (z := .agg #[.int .u64 0, .bool false, .int .i64 0, .int .u64 0, .slice none 0 0]) (cs := #[.int .u64 0, .bool false, .int .i64 0, .int .u64 0, .slice none 0 0]) (zero_run (by kernel_rfl)) rfl fun b8 v26 h8 h8ge hbv26 => ?_
      have h8lt := h8.lt
      have hsv26 := hbv26.size
      have hca := hca.below hbv26 (Nat.le_refl _)
      have hbx := hbx.below hbv26 (Blk.lt hbx)
      have hnt := hnt.below hbv26 (Nat.le_refl _)
      have hbl := below_on hbl hbv26 hbl.size
      refine hK _ _ trivial trivial ?_
      clear hK K
      simp only [Act.put, List.setIfInBounds_toArray, List.set_cons_zero, List.set_cons_succ]
      refine wpAnyD_branch (rs := [1, 8]) (by kernel_rfl) (by decide) (List.forall_mem_cons.2 ⟨wpAnyD_op rfl fun K hK => ?_, List.forall_mem_cons.2 ⟨wpAnyD_op rfl fun K hK => ?_, fun _ h => absurd h List.not_mem_nil⟩⟩)
      · refine step_call (vs := #[.pointer (some ⟨g, 0, none⟩)]) (by rfl) (by go_simp) (by kernel_rfl) (batches_has v26 _ g c3 hca hok3) ?_
        rintro e v27 ⟨vB, rfl, hvB, hbv27⟩
        rw [HBQ.out] at hvB
        have hsv27 := hbv27.size
        have hca := hca.below hbv27 (Nat.le_refl _)
        have hbx := hbx.below hbv27 (Blk.lt hbx)
        have hnt := hnt.below hbv27 (Nat.le_refl _)
        have hbl := below_on hbl hbv27 hbl.size
        have h8 := h8.below hbv27 h8.lt
        obtain ⟨b1, o1, yB, dB, hyB, runB, rdB, hcb, hb1⟩ := hvB.index_runS (P := Tryd.prog) rowBat (by decide) .i64 0 (by decide) (by simp)
        obtain rfl : yB = ⟨1, OB, cb, sb⟩ := by simpa using hyB.symm
        obtain rfl : dB = _ := rdB
        have hcb : ∀ j v, [.int .u64 1, .bool OB, .int .i64 cb, .int .u64 (sb.toNat : Int)][j]? = some v → v27.cell? ⟨b1, o1 + j, none⟩ = some v := hcb
        have RB := Lib.hid runB
        clear hvB hyB runB
        refine ⟨_, rfl, hK _ _ trivial trivial ?_⟩
        clear hK K
        simp only [Act.put, List.setIfInBounds_toArray, List.set_cons_zero, List.set_cons_succ]
        refine wpAnyD_take (i := 2) (dst := some 32) (v := .pointer (some ⟨b1, o1, none⟩)) rfl rfl (by decide) (by kernel_rfl) (by kernel_rfl) (by kernel_rfl) (fun _ _ _ h => h) (yields_index (by rfl) rfl rfl RB.out) (trivial) (.inr trivial) ?_
        simp only [Act.put, List.setIfInBounds_toArray, List.set_cons_zero, List.set_cons_succ]
        refine wpAnyD_stronger (fun wq => (∀ j v, [.int .u64 1, .bool OB, .int .i64 cb, .int .u64 (sb.toNat : Int)][j]? = some v → wq.cell? ⟨b1, o1 + j, none⟩ = some v)) (fun _ _ => trivial) _ _ _ _ ?_
        refine wpAnyD_take (i := 3) (dst := some 33) (v := .agg #[.int .u64 1, .bool OB, .int .i64 cb, .int .u64 (sb.toNat : Int)]) rfl rfl (by decide) (by kernel_rfl) (by kernel_rfl) (by kernel_rfl) (fun _ _ _ h => h) (yields_cells [.int .u64 1, .bool OB, .int .i64 cb, .int .u64 (sb.toNat : Int)] Tryd.underlying90 rfl (by kernel_rfl) (by rfl) rfl fun _ h => h) (hcb) (.inr trivial) ?_
        simp only [Act.put, List.setIfInBounds_toArray, List.set_cons_zero, List.set_cons_succ]
        refine wpAnyD_branch (rs := [5, 8]) (by kernel_rfl) (by decide) (List.forall_mem_cons.2 ⟨wpAnyD_op rfl fun K hK => ?_, List.forall_mem_cons.2 ⟨wpAnyD_op rfl fun K hK => ?_, fun _ h => absurd h List.not_mem_nil⟩⟩)
        · refine step_call (vs := #[.pointer (some ⟨g, 0, none⟩)]) (by rfl) (by go_simp) (by kernel_rfl) (questions_has v27 _ g c3 hca hok3) ?_
          rintro e v28 ⟨vQ, rfl, hvQ, hbv28⟩
          rw [HQQ.out] at hvQ
          have hsv28 := hbv28.size
          have hca := hca.below hbv28 (Nat.le_refl _)
          have hbx := hbx.below hbv28 (Blk.lt hbx)
          have hnt := hnt.below hbv28 (Nat.le_refl _)
          have hbl := below_on hbl hbv28 hbl.size
          have hcb := cells_below hcb hbv28 (by omega)
          have h8 := h8.below hbv28 h8.lt
          obtain ⟨b2, o2, yQ, dQ, hyQ, runQ, rdQ, hcq, hb2⟩ := hvQ.index_runS (P := Tryd.prog) rowQst (by decide) .i64 0 (by decide) (by simp)
          obtain rfl : yQ = ⟨1, OQ, cq, sq, lq⟩ := by simpa using hyQ.symm
          obtain ⟨vq, rfl, svq⟩ := rdQ
          obtain ⟨qa, qn, qc, rfl⟩ := Sl.shape svq
          have hcq : ∀ j v, [.int .u64 1, .bool OQ, .int .i64 cq, .int .u64 (sq.toNat : Int), .slice qa qn qc][j]? = some v → v28.cell? ⟨b2, o2 + j, none⟩ = some v := hcq
          have RQ := Lib.hid runQ
          clear hvQ hyQ svq runQ
          refine ⟨_, rfl, hK _ _ hcb trivial ?_⟩
          clear hK K
          simp only [Act.put, List.setIfInBounds_toArray, List.set_cons_zero, List.set_cons_succ]
          refine wpAnyD_take (i := 6) (dst := some 36) (v := .pointer (some ⟨b2, o2, none⟩)) rfl rfl (by decide) (by kernel_rfl) (by kernel_rfl) (by kernel_rfl) (fun _ _ _ h => h) (yields_index (by rfl) rfl rfl RQ.out) (hcb) (.inr trivial) ?_
          simp only [Act.put, List.setIfInBounds_toArray, List.set_cons_zero, List.set_cons_succ]
          refine wpAnyD_stronger (fun wq => (∀ j v, [.int .u64 1, .bool OB, .int .i64 cb, .int .u64 (sb.toNat : Int)][j]? = some v → wq.cell? ⟨b1, o1 + j, none⟩ = some v) ∧ (∀ j v, [.int .u64 1, .bool OQ, .int .i64 cq, .int .u64 (sq.toNat : Int), .slice qa qn qc][j]? = some v → wq.cell? ⟨b2, o2 + j, none⟩ = some v)) (fun _ h => h.1) _ _ _ _ ?_
          refine wpAnyD_take (i := 7) (dst := some 37) (v := .agg #[.int .u64 1, .bool OQ, .int .i64 cq, .int .u64 (sq.toNat : Int), .slice qa qn qc]) rfl rfl (by decide) (by kernel_rfl) (by kernel_rfl) (by kernel_rfl) (fun _ _ _ h => h) (yields_cells [.int .u64 1, .bool OQ, .int .i64 cq, .int .u64 (sq.toNat : Int), .slice qa qn qc] Tryd.underlying94 rfl (by kernel_rfl) (by rfl) rfl fun _ h => h.2) (⟨hcb, hcq⟩) (.inr trivial) ?_
          simp only [Act.put, List.setIfInBounds_toArray, List.set_cons_zero, List.set_cons_succ]
          refine wpAnyD_step (i := 8) (by kernel_rfl) rfl fun K hK => ?_
          refine step_blk_alloc (z := .agg #[.int .u64 0, .bool false, .int .i64 0, .int .u64 0]) (cs := #[.int .u64 0, .bool false, .int .i64 0, .int .u64 0]) (zero_run (by kernel_rfl)) rfl fun b7 v29 h7 h7ge hbv29 => ?_
          have h7lt := h7.lt
          have hsv29 := hbv29.size
          have hca := hca.below hbv29 (Nat.le_refl _)
          have hbx := hbx.below hbv29 (Blk.lt hbx)
          have hnt := hnt.below hbv29 (Nat.le_refl _)
          have hbl := below_on hbl hbv29 hbl.size
          have hcb := cells_below hcb hbv29 (by omega)
          have hcq := cells_below hcq hbv29 (by omega)
          have h8 := h8.below hbv29 h8.lt
          refine hK _ _ ⟨hcb, hcq⟩ trivial ?_
          clear hK K
          simp only [Act.put, List.setIfInBounds_toArray, List.set_cons_zero, List.set_cons_succ]
          refine wpAnyD_step (i := 10) (by kernel_rfl) rfl fun K hK => ?_
          refine step_blk_store_all (cs' := #[.int .u64 1, .bool OB, .int .i64 cb, .int .u64 (sb.toNat : Int)]) h7 rfl rfl (by kernel_rfl) rfl (by simp [Value.oneCell']) fun v29a h7n ho hs => ?_
          have h8 := h8.only ho (blk_ne h8 h7 (by decide))
          have hbx := hbx.only ho (by omega)
          have hnt := hnt.keep (S' := fun k => k < wd.heap.size) fun k hk hlt => ⟨ho.block k hlt (by have := hk.2; omega), by have := hk.2; omega⟩
          have hbl := below_only hbl ho (by rintro k rfl; have := hbl0.size; omega)
          have hcb := cells_only hcb ho (by omega) (by omega)
          have hcq := cells_only hcq ho (by omega) (by omega)
          have h7 := h7n
          clear h7n ho
          refine hK _ _ ⟨hcb, hcq⟩ trivial ?_
          clear hK K
          simp only [Act.put]
          refine wpAnyD_step (i := 11) (by kernel_rfl) rfl fun K hK => ?_
          refine step_blk_store_all (cs' := #[.int .u64 1, .bool OQ, .int .i64 cq, .int .u64 (sq.toNat : Int), .slice qa qn qc]) h8 rfl rfl (by kernel_rfl) rfl (by simp [Value.oneCell']) fun v29z h8n ho hs2 => ?_
          have h7 := h7.only ho (blk_ne h7 h8 (by decide))
          have hbx := hbx.only ho (by omega)
          have hnt := hnt.keep (S' := fun k => k < v29z.heap.size) fun k hk hlt => ⟨ho.block k hlt (by omega), by omega⟩
          have hbl := below_only hbl ho (by rintro k rfl; have := hbl0.size; omega)
          have hcb := cells_only hcb ho (by omega) (by omega)
          have hcq := cells_only hcq ho (by omega) (by omega)
          refine hK _ _ ⟨hcb, hcq⟩ trivial ?_
          clear hK K
          simp only [Act.put]
          refine wpAnyD_done (by kernel_rfl) ?_
          go_wp2_with (fail)
          go_meet
          case rel => exact ⟨b7, b8, .slice qa qn qc, rfl, rfl, h7, h8n, hbx, hnt, hbl⟩
        · refine step_blk_alloc (z := .agg #[.int .u64 0, .bool false, .int .i64 0, .int .u64 0]) (cs := #[.int .u64 0, .bool false, .int .i64 0, .int .u64 0]) (zero_run (by kernel_rfl)) rfl fun b7 v30 h7 h7ge hbv30 => ?_
          have h7lt := h7.lt
          have hsv30 := hbv30.size
          have hca := hca.below hbv30 (Nat.le_refl _)
          have hbx := hbx.below hbv30 (Blk.lt hbx)
          have hnt := hnt.below hbv30 (Nat.le_refl _)
          have hbl := below_on hbl hbv30 hbl.size
          have hcb := cells_below hcb hbv30 (by omega)
          have h8 := h8.below hbv30 h8.lt
          refine hK _ _ hcb trivial ?_
          clear hK K
          simp only [Act.put, List.setIfInBounds_toArray, List.set_cons_zero, List.set_cons_succ]
          refine wpAnyD_step (i := 5) (by kernel_rfl) rfl fun K hK => ?_
          refine step_call (vs := #[.pointer (some ⟨g, 0, none⟩)]) (by rfl) (by go_simp) (by kernel_rfl) (questions_has v30 _ g c3 hca hok3) ?_
          rintro e v31 ⟨vQ, rfl, hvQ, hbv31⟩
          rw [HQQ.out] at hvQ
          have hsv31 := hbv31.size
          have hca := hca.below hbv31 (Nat.le_refl _)
          have hbx := hbx.below hbv31 (Blk.lt hbx)
          have hnt := hnt.below hbv31 (Nat.le_refl _)
          have hbl := below_on hbl hbv31 hbl.size
          have hcb := cells_below hcb hbv31 (by omega)
          have h7 := h7.below hbv31 h7.lt
          have h8 := h8.below hbv31 h8.lt
          obtain ⟨b2, o2, yQ, dQ, hyQ, runQ, rdQ, hcq, hb2⟩ := hvQ.index_runS (P := Tryd.prog) rowQst (by decide) .i64 0 (by decide) (by simp)
          obtain rfl : yQ = ⟨1, OQ, cq, sq, lq⟩ := by simpa using hyQ.symm
          obtain ⟨vq, rfl, svq⟩ := rdQ
          obtain ⟨qa, qn, qc, rfl⟩ := Sl.shape svq
          have hcq : ∀ j v, [.int .u64 1, .bool OQ, .int .i64 cq, .int .u64 (sq.toNat : Int), .slice qa qn qc][j]? = some v → v31.cell? ⟨b2, o2 + j, none⟩ = some v := hcq
          have RQ := Lib.hid runQ
          clear hvQ hyQ svq runQ
          refine ⟨_, rfl, hK _ _ hcb trivial ?_⟩
          clear hK K
          simp only [Act.put, List.setIfInBounds_toArray, List.set_cons_zero, List.set_cons_succ]
          refine wpAnyD_take (i := 6) (dst := some 36) (v := .pointer (some ⟨b2, o2, none⟩)) rfl rfl (by decide) (by kernel_rfl) (by kernel_rfl) (by kernel_rfl) (fun _ _ _ h => h) (yields_index (by rfl) rfl rfl RQ.out) (hcb) (.inr trivial) ?_
          simp only [Act.put, List.setIfInBounds_toArray, List.set_cons_zero, List.set_cons_succ]
          refine wpAnyD_stronger (fun wq => (∀ j v, [.int .u64 1, .bool OB, .int .i64 cb, .int .u64 (sb.toNat : Int)][j]? = some v → wq.cell? ⟨b1, o1 + j, none⟩ = some v) ∧ (∀ j v, [.int .u64 1, .bool OQ, .int .i64 cq, .int .u64 (sq.toNat : Int), .slice qa qn qc][j]? = some v → wq.cell? ⟨b2, o2 + j, none⟩ = some v)) (fun _ h => h.1) _ _ _ _ ?_
          refine wpAnyD_take (i := 7) (dst := some 37) (v := .agg #[.int .u64 1, .bool OQ, .int .i64 cq, .int .u64 (sq.toNat : Int), .slice qa qn qc]) rfl rfl (by decide) (by kernel_rfl) (by kernel_rfl) (by kernel_rfl) (fun _ _ _ h => h) (yields_cells [.int .u64 1, .bool OQ, .int .i64 cq, .int .u64 (sq.toNat : Int), .slice qa qn qc] Tryd.underlying94 rfl (by kernel_rfl) (by rfl) rfl fun _ h => h.2) (⟨hcb, hcq⟩) (.inr trivial) ?_
          simp only [Act.put, List.setIfInBounds_toArray, List.set_cons_zero, List.set_cons_succ]
          refine wpAnyD_step (i := 10) (by kernel_rfl) rfl fun K hK => ?_
          refine step_blk_store_all (cs' := #[.int .u64 1, .bool OB, .int .i64 cb, .int .u64 (sb.toNat : Int)]) h7 rfl rfl (by kernel_rfl) rfl (by simp [Value.oneCell']) fun v31a h7n ho hs => ?_
          have h8 := h8.only ho (blk_ne h8 h7 (by decide))
          have hbx := hbx.only ho (by omega)
          have hnt := hnt.keep (S' := fun k => k < wd.heap.size) fun k hk hlt => ⟨ho.block k hlt (by have := hk.2; omega), by have := hk.2; omega⟩
          have hbl := below_only hbl ho (by rintro k rfl; have := hbl0.size; omega)
          have hcb := cells_only hcb ho (by omega) (by omega)
          have hcq := cells_only hcq ho (by omega) (by omega)
          have h7 := h7n
          clear h7n ho
          refine hK _ _ ⟨hcb, hcq⟩ trivial ?_
          clear hK K
          simp only [Act.put]
          refine wpAnyD_step (i := 11) (by kernel_rfl) rfl fun K hK => ?_
          refine step_blk_store_all (cs' := #[.int .u64 1, .bool OQ, .int .i64 cq, .int .u64 (sq.toNat : Int), .slice qa qn qc]) h8 rfl rfl (by kernel_rfl) rfl (by simp [Value.oneCell']) fun v31z h8n ho hs2 => ?_
          have h7 := h7.only ho (blk_ne h7 h8 (by decide))
          have hbx := hbx.only ho (by omega)
          have hnt := hnt.keep (S' := fun k => k < v31z.heap.size) fun k hk hlt => ⟨ho.block k hlt (by omega), by omega⟩
          have hbl := below_only hbl ho (by rintro k rfl; have := hbl0.size; omega)
          have hcb := cells_only hcb ho (by omega) (by omega)
          have hcq := cells_only hcq ho (by omega) (by omega)
          refine hK _ _ ⟨hcb, hcq⟩ trivial ?_
          clear hK K
          simp only [Act.put]
          refine wpAnyD_done (by kernel_rfl) ?_
          go_wp2_with (fail)
          go_meet
          case rel => exact ⟨b7, b8, .slice qa qn qc, rfl, rfl, h7, h8n, hbx, hnt, hbl⟩
      · refine step_blk_alloc (z := .agg #[.int .u64 0, .bool false, .int .i64 0, .int .u64 0]) (cs := #[.int .u64 0, .bool false, .int .i64 0, .int .u64 0]) (zero_run (by kernel_rfl)) rfl fun b7 v32 h7 h7ge hbv32 => ?_
        have h7lt := h7.lt
        have hsv32 := hbv32.size
        have hca := hca.below hbv32 (Nat.le_refl _)
        have hbx := hbx.below hbv32 (Blk.lt hbx)
        have hnt := hnt.below hbv32 (Nat.le_refl _)
        have hbl := below_on hbl hbv32 hbl.size
        have h8 := h8.below hbv32 h8.lt
        refine hK _ _ trivial trivial ?_
        clear hK K
        simp only [Act.put, List.setIfInBounds_toArray, List.set_cons_zero, List.set_cons_succ]
        refine wpAnyD_step (i := 1) (by kernel_rfl) rfl fun K hK => ?_
        refine step_call (vs := #[.pointer (some ⟨g, 0, none⟩)]) (by rfl) (by go_simp) (by kernel_rfl) (batches_has v32 _ g c3 hca hok3) ?_
        rintro e v33 ⟨vB, rfl, hvB, hbv33⟩
        rw [HBQ.out] at hvB
        have hsv33 := hbv33.size
        have hca := hca.below hbv33 (Nat.le_refl _)
        have hbx := hbx.below hbv33 (Blk.lt hbx)
        have hnt := hnt.below hbv33 (Nat.le_refl _)
        have hbl := below_on hbl hbv33 hbl.size
        have h7 := h7.below hbv33 h7.lt
        have h8 := h8.below hbv33 h8.lt
        obtain ⟨b1, o1, yB, dB, hyB, runB, rdB, hcb, hb1⟩ := hvB.index_runS (P := Tryd.prog) rowBat (by decide) .i64 0 (by decide) (by simp)
        obtain rfl : yB = ⟨1, OB, cb, sb⟩ := by simpa using hyB.symm
        obtain rfl : dB = _ := rdB
        have hcb : ∀ j v, [.int .u64 1, .bool OB, .int .i64 cb, .int .u64 (sb.toNat : Int)][j]? = some v → v33.cell? ⟨b1, o1 + j, none⟩ = some v := hcb
        have RB := Lib.hid runB
        clear hvB hyB runB
        refine ⟨_, rfl, hK _ _ trivial trivial ?_⟩
        clear hK K
        simp only [Act.put, List.setIfInBounds_toArray, List.set_cons_zero, List.set_cons_succ]
        refine wpAnyD_take (i := 2) (dst := some 32) (v := .pointer (some ⟨b1, o1, none⟩)) rfl rfl (by decide) (by kernel_rfl) (by kernel_rfl) (by kernel_rfl) (fun _ _ _ h => h) (yields_index (by rfl) rfl rfl RB.out) (trivial) (.inr trivial) ?_
        simp only [Act.put, List.setIfInBounds_toArray, List.set_cons_zero, List.set_cons_succ]
        refine wpAnyD_stronger (fun wq => (∀ j v, [.int .u64 1, .bool OB, .int .i64 cb, .int .u64 (sb.toNat : Int)][j]? = some v → wq.cell? ⟨b1, o1 + j, none⟩ = some v)) (fun _ _ => trivial) _ _ _ _ ?_
        refine wpAnyD_take (i := 3) (dst := some 33) (v := .agg #[.int .u64 1, .bool OB, .int .i64 cb, .int .u64 (sb.toNat : Int)]) rfl rfl (by decide) (by kernel_rfl) (by kernel_rfl) (by kernel_rfl) (fun _ _ _ h => h) (yields_cells [.int .u64 1, .bool OB, .int .i64 cb, .int .u64 (sb.toNat : Int)] Tryd.underlying90 rfl (by kernel_rfl) (by rfl) rfl fun _ h => h) (hcb) (.inr trivial) ?_
        simp only [Act.put, List.setIfInBounds_toArray, List.set_cons_zero, List.set_cons_succ]
        refine wpAnyD_step (i := 5) (by kernel_rfl) rfl fun K hK => ?_
        refine step_call (vs := #[.pointer (some ⟨g, 0, none⟩)]) (by rfl) (by go_simp) (by kernel_rfl) (questions_has v33 _ g c3 hca hok3) ?_
        rintro e v34 ⟨vQ, rfl, hvQ, hbv34⟩
        rw [HQQ.out] at hvQ
        have hsv34 := hbv34.size
        have hca := hca.below hbv34 (Nat.le_refl _)
        have hbx := hbx.below hbv34 (Blk.lt hbx)
        have hnt := hnt.below hbv34 (Nat.le_refl _)
        have hbl := below_on hbl hbv34 hbl.size
        have hcb := cells_below hcb hbv34 (by omega)
        have h7 := h7.below hbv34 h7.lt
        have h8 := h8.below hbv34 h8.lt
        obtain ⟨b2, o2, yQ, dQ, hyQ, runQ, rdQ, hcq, hb2⟩ := hvQ.index_runS (P := Tryd.prog) rowQst (by decide) .i64 0 (by decide) (by simp)
        obtain rfl : yQ = ⟨1, OQ, cq, sq, lq⟩ := by simpa using hyQ.symm
        obtain ⟨vq, rfl, svq⟩ := rdQ
        obtain ⟨qa, qn, qc, rfl⟩ := Sl.shape svq
        have hcq : ∀ j v, [.int .u64 1, .bool OQ, .int .i64 cq, .int .u64 (sq.toNat : Int), .slice qa qn qc][j]? = some v → v34.cell? ⟨b2, o2 + j, none⟩ = some v := hcq
        have RQ := Lib.hid runQ
        clear hvQ hyQ svq runQ
        refine ⟨_, rfl, hK _ _ hcb trivial ?_⟩
        clear hK K
        simp only [Act.put, List.setIfInBounds_toArray, List.set_cons_zero, List.set_cons_succ]
        refine wpAnyD_take (i := 6) (dst := some 36) (v := .pointer (some ⟨b2, o2, none⟩)) rfl rfl (by decide) (by kernel_rfl) (by kernel_rfl) (by kernel_rfl) (fun _ _ _ h => h) (yields_index (by rfl) rfl rfl RQ.out) (hcb) (.inr trivial) ?_
        simp only [Act.put, List.setIfInBounds_toArray, List.set_cons_zero, List.set_cons_succ]
        refine wpAnyD_stronger (fun wq => (∀ j v, [.int .u64 1, .bool OB, .int .i64 cb, .int .u64 (sb.toNat : Int)][j]? = some v → wq.cell? ⟨b1, o1 + j, none⟩ = some v) ∧ (∀ j v, [.int .u64 1, .bool OQ, .int .i64 cq, .int .u64 (sq.toNat : Int), .slice qa qn qc][j]? = some v → wq.cell? ⟨b2, o2 + j, none⟩ = some v)) (fun _ h => h.1) _ _ _ _ ?_
        refine wpAnyD_take (i := 7) (dst := some 37) (v := .agg #[.int .u64 1, .bool OQ, .int .i64 cq, .int .u64 (sq.toNat : Int), .slice qa qn qc]) rfl rfl (by decide) (by kernel_rfl) (by kernel_rfl) (by kernel_rfl) (fun _ _ _ h => h) (yields_cells [.int .u64 1, .bool OQ, .int .i64 cq, .int .u64 (sq.toNat : Int), .slice qa qn qc] Tryd.underlying94 rfl (by kernel_rfl) (by rfl) rfl fun _ h => h.2) (⟨hcb, hcq⟩) (.inr trivial) ?_
        simp only [Act.put, List.setIfInBounds_toArray, List.set_cons_zero, List.set_cons_succ]
        refine wpAnyD_step (i := 10) (by kernel_rfl) rfl fun K hK => ?_
        refine step_blk_store_all (cs' := #[.int .u64 1, .bool OB, .int .i64 cb, .int .u64 (sb.toNat : Int)]) h7 rfl rfl (by kernel_rfl) rfl (by simp [Value.oneCell']) fun v34a h7n ho hs => ?_
        have h8 := h8.only ho (blk_ne h8 h7 (by decide))
        have hbx := hbx.only ho (by omega)
        have hnt := hnt.keep (S' := fun k => k < wd.heap.size) fun k hk hlt => ⟨ho.block k hlt (by have := hk.2; omega), by have := hk.2; omega⟩
        have hbl := below_only hbl ho (by rintro k rfl; have := hbl0.size; omega)
        have hcb := cells_only hcb ho (by omega) (by omega)
        have hcq := cells_only hcq ho (by omega) (by omega)
        have h7 := h7n
        clear h7n ho
        refine hK _ _ ⟨hcb, hcq⟩ trivial ?_
        clear hK K
        simp only [Act.put]
        refine wpAnyD_step (i := 11) (by kernel_rfl) rfl fun K hK => ?_
        refine step_blk_store_all (cs' := #[.int .u64 1, .bool OQ, .int .i64 cq, .int .u64 (sq.toNat : Int), .slice qa qn qc]) h8 rfl rfl (by kernel_rfl) rfl (by simp [Value.oneCell']) fun v34z h8n ho hs2 => ?_
        have h7 := h7.only ho (blk_ne h7 h8 (by decide))
        have hbx := hbx.only ho (by omega)
        have hnt := hnt.keep (S' := fun k => k < v34z.heap.size) fun k hk hlt => ⟨ho.block k hlt (by omega), by omega⟩
        have hbl := below_only hbl ho (by rintro k rfl; have := hbl0.size; omega)
        have hcb := cells_only hcb ho (by omega) (by omega)
        have hcq := cells_only hcq ho (by omega) (by omega)
        refine hK _ _ ⟨hcb, hcq⟩ trivial ?_
        clear hK K
        simp only [Act.put]
        refine wpAnyD_done (by kernel_rfl) ?_
        go_wp2_with (fail)
        go_meet
        case rel => exact ⟨b7, b8, .slice qa qn qc, rfl, rfl, h7, h8n, hbx, hnt, hbl⟩
  case rest =>
    obtain ⟨b7, b8, vq, rfl, rfl, h7, h8, hbx, hnt, hbl⟩ := hcut
    obtain ⟨mn, hmn⟩ : ∃ mn, mn = mineB src m := ⟨_, rfl⟩
    obtain ⟨k2, hk2⟩ : ∃ k2, k2 = (m.kind == 2) := ⟨_, rfl⟩
    obtain ⟨e1, he1⟩ : ∃ e1, e1 = (m.batch == 1) := ⟨_, rfl⟩
    obtain ⟨k11, hk11⟩ : ∃ k11, k11 = (m.kind == 11) := ⟨_, rfl⟩
    obtain ⟨q1, hq1⟩ : ∃ q1, q1 = (m.query == 1) := ⟨_, rfl⟩
    have hob : OB = (mn && k2 && e1) := by rw [HOB.out, hmn, hk2, he1]; rfl
    have hoq : OQ = (mn && k11 && q1) := by rw [HOQ.out, hmn, hk11, hq1]; rfl
    have HOB := Lib.hid hob
    have HOQ := Lib.hid hoq
    have HK2 : Hid (((m.kind.toNat : Int) == 2) = k2) := Lib.hid ((u8_beq m.kind 2 (by decide)).trans hk2.symm)
    have HK11 : Hid (((m.kind.toNat : Int) == 11) = k11) := Lib.hid ((u8_beq m.kind 11 (by decide)).trans hk11.symm)
    have HE1 : Hid (((m.batch.toNat : Int) == 1) = e1) := Lib.hid ((u64_beq m.batch 1).trans he1.symm)
    have HQ1 : Hid (((m.query.toNat : Int) == 1) = q1) := Lib.hid ((u64_beq m.query 1).trans hq1.symm)
    have hmn' : mn = (decide (src = 0) && nright m) := hmn
    have HMN := Lib.hid hmn'
    clear hob hoq hk2 he1 hk11 hq1 hmn hmn' haa hca bxa hVa
    by_cases hs0 : src = 0
    case neg =>
      have hsb : (src == 0) = false := by simpa using hs0
      have e : mn = false := by rw [HMN.out, decide_eq_false hs0]; rfl
      subst e
      clear HMN hs0
      have eb : OB = false := HOB.out
      have eq : OQ = false := HOQ.out
      subst eb
      subst eq
      clear HOB HOQ
      go_wp2_with (first | ((with_reducible apply wpList_unguard); rfl) | ((with_reducible (first | apply len_B | apply len_PB | apply len_PQ | apply len_L | apply len_Bat | apply len_Qst | apply len_H)); assumption) | ((with_reducible refine stop_ig kC ?_ ?_); rfl))
      refine Stop.go (blk_load (.bool false) oneBool h7 rfl rfl ?_)
      go_wp2_with (first | ((with_reducible apply wpList_unguard); rfl) | ((with_reducible (first | apply len_B | apply len_PB | apply len_PQ | apply len_L | apply len_Bat | apply len_Qst | apply len_H)); assumption) | ((with_reducible refine stop_ig kC ?_ ?_); rfl))
      refine Stop.go (blk_load (.bool false) oneBool h8 rfl rfl ?_)
      go_wp2_with (fail)
      go_ret
      exact ⟨rfl, hbl⟩
    subst hs0
    go_wp2_with (first | ((with_reducible apply wpList_unguard); rfl) | ((with_reducible (first | apply len_B | apply len_PB | apply len_PQ | apply len_L | apply len_Bat | apply len_Qst | apply len_H)); assumption) | ((with_reducible refine stop_ig kC ?_ ?_); rfl))
    refine Stop.go (load_R hbx rfl ?_)
    go_wp2_with (first | ((with_reducible apply wpList_unguard); rfl) | ((with_reducible (first | apply len_B | apply len_PB | apply len_PQ | apply len_L | apply len_Bat | apply len_Qst | apply len_H)); assumption) | ((with_reducible refine stop_ig kC ?_ ?_); rfl))
    refine (body_any wc (hN.below hbl (Nat.le_refl _)) (hB.below hbl (Nat.le_refl _)) _ m _ hnt).mono ?_
    rintro e wf ⟨pv, rfl, hpv, hbf⟩
    have hbx := hbx.below hbf (Blk.lt hbx)
    have h7 := h7.below hbf h7.lt
    have h8 := h8.below hbf h8.lt
    have hbl := below_on hbl hbf hbl.size
    have hps := hpv.sl'
    have hfm := HFE.out
    have hbo : bodyOf m = if nright m = true then frame (encNote m) else [] := by unfold bodyOf; rw [hfm]
    generalize bodyOf m = L at *
    clear hpv hbf hfm
    cases hr : nright m
    · rw [hr] at hbo
      have e : mn = false := by rw [HMN.out, hr]; rfl
      subst e
      have e : L = [] := hbo
      subst e
      clear HMN hbo hr
      have eb : OB = false := HOB.out
      have eq : OQ = false := HOQ.out
      subst eb
      subst eq
      clear HOB HOQ
      go_wp2_with (first | ((with_reducible apply wpList_unguard); rfl) | ((with_reducible (first | apply len_B | apply len_PB | apply len_PQ | apply len_L | apply len_Bat | apply len_Qst | apply len_H)); assumption) | ((with_reducible refine stop_ig kC ?_ ?_); rfl))
      refine Stop.go (blk_load (.bool false) oneBool h7 rfl rfl ?_)
      go_wp2_with (first | ((with_reducible apply wpList_unguard); rfl) | ((with_reducible (first | apply len_B | apply len_PB | apply len_PQ | apply len_L | apply len_Bat | apply len_Qst | apply len_H)); assumption) | ((with_reducible refine stop_ig kC ?_ ?_); rfl))
      refine Stop.go (blk_load (.bool false) oneBool h8 rfl rfl ?_)
      go_wp2_with (fail)
      go_ret
      exact ⟨rfl, hbl⟩
    · rw [hr] at hbo
      have e : mn = true := by rw [HMN.out, hr]; rfl
      subst e
      have hLp : 0 < L.length := by rw [hbo, if_pos rfl, frame_len]; omega
      have hLn : ¬ L = [] := by rintro rfl; simp at hLp
      clear HMN hbo hr
      cases k2
      · cases k11
        · have eb : OB = false := HOB.out
          have eq : OQ = false := HOQ.out
          subst eb
          subst eq
          have hk2 := HK2.out
          have hk11 := HK11.out
          clear HOB HOQ HK2 HK11 HE1 HQ1
          go_wp2_with (first | ((with_reducible apply wpList_unguard); rfl) | ((with_reducible (first | apply len_B | apply len_PB | apply len_PQ | apply len_L | apply len_Bat | apply len_Qst | apply len_H)); assumption) | ((with_reducible refine stop_ig kC ?_ ?_); rfl))
          refine Stop.go (blk_load (.bool false) oneBool h7 rfl rfl ?_)
          go_wp2_with (first | ((with_reducible apply wpList_unguard); rfl) | ((with_reducible (first | apply len_B | apply len_PB | apply len_PQ | apply len_L | apply len_Bat | apply len_Qst | apply len_H)); assumption) | ((with_reducible refine stop_ig kC ?_ ?_); rfl))
          refine Stop.go (blk_load (cs := (noteV m up uo uv uh).cells) (.int .u8 (m.kind.toNat : Int)) oneU8 hbx rfl rfl ?_)
          go_wp2_with (first | ((with_reducible apply wpList_unguard); rfl) | ((with_reducible (first | apply len_B | apply len_PB | apply len_PQ | apply len_L | apply len_Bat | apply len_Qst | apply len_H)); assumption) | ((with_reducible refine stop_ig kC ?_ ?_); rfl))
          refine Stop.go (blk_load (.bool false) oneBool h8 rfl rfl ?_)
          go_wp2_with (first | ((with_reducible apply wpList_unguard); rfl) | ((with_reducible (first | apply len_B | apply len_PB | apply len_PQ | apply len_L | apply len_Bat | apply len_Qst | apply len_H)); assumption) | ((with_reducible refine stop_ig kC ?_ ?_); rfl))
          refine Stop.go (blk_load (cs := (noteV m up uo uv uh).cells) (.int .u8 (m.kind.toNat : Int)) oneU8 hbx rfl rfl ?_)
          go_wp2_with (fail)
          go_ret
          exact ⟨rfl, hbl⟩
        · cases q1
          · have eb : OB = false := HOB.out
            have eq : OQ = false := HOQ.out
            subst eb
            subst eq
            have hk2 := HK2.out
            have hk11 := HK11.out
            have hq1 := HQ1.out
            clear HOB HOQ HK2 HK11 HE1 HQ1
            go_wp2_with (first | ((with_reducible apply wpList_unguard); rfl) | ((with_reducible (first | apply len_B | apply len_PB | apply len_PQ | apply len_L | apply len_Bat | apply len_Qst | apply len_H)); assumption) | ((with_reducible refine stop_ig kC ?_ ?_); rfl))
            refine Stop.go (blk_load (.bool false) oneBool h7 rfl rfl ?_)
            go_wp2_with (first | ((with_reducible apply wpList_unguard); rfl) | ((with_reducible (first | apply len_B | apply len_PB | apply len_PQ | apply len_L | apply len_Bat | apply len_Qst | apply len_H)); assumption) | ((with_reducible refine stop_ig kC ?_ ?_); rfl))
            refine Stop.go (blk_load (cs := (noteV m up uo uv uh).cells) (.int .u8 (m.kind.toNat : Int)) oneU8 hbx rfl rfl ?_)
            go_wp2_with (first | ((with_reducible apply wpList_unguard); rfl) | ((with_reducible (first | apply len_B | apply len_PB | apply len_PQ | apply len_L | apply len_Bat | apply len_Qst | apply len_H)); assumption) | ((with_reducible refine stop_ig kC ?_ ?_); rfl))
            refine Stop.go (blk_load (.bool false) oneBool h8 rfl rfl ?_)
            go_wp2_with (first | ((with_reducible apply wpList_unguard); rfl) | ((with_reducible (first | apply len_B | apply len_PB | apply len_PQ | apply len_L | apply len_Bat | apply len_Qst | apply len_H)); assumption) | ((with_reducible refine stop_ig kC ?_ ?_); rfl))
            refine Stop.go (blk_load (cs := (noteV m up uo uv uh).cells) (.int .u8 (m.kind.toNat : Int)) oneU8 hbx rfl rfl ?_)
            go_wp2_with (first | ((with_reducible apply wpList_unguard); rfl) | ((with_reducible (first | apply len_B | apply len_PB | apply len_PQ | apply len_L | apply len_Bat | apply len_Qst | apply len_H)); assumption) | ((with_reducible refine stop_ig kC ?_ ?_); rfl))
            refine Stop.go (blk_load (cs := (noteV m up uo uv uh).cells) (.int .u64 (m.query.toNat : Int)) oneU64 hbx rfl rfl ?_)
            go_wp2_with (fail)
            go_ret
            exact ⟨rfl, hbl⟩
          · have eb : OB = false := HOB.out
            have eq : OQ = true := HOQ.out
            subst eb
            subst eq
            have hk2 := HK2.out
            have hk11 := HK11.out
            have hq1 := HQ1.out
            clear HOB HOQ HK2 HK11 HE1 HQ1
            go_wp2_with (first | ((with_reducible apply wpList_unguard); rfl) | ((with_reducible (first | apply len_B | apply len_PB | apply len_PQ | apply len_L | apply len_Bat | apply len_Qst | apply len_H)); assumption) | ((with_reducible refine stop_ig kC ?_ ?_); rfl))
            refine Stop.go (blk_load (.bool false) oneBool h7 rfl rfl ?_)
            go_wp2_with (first | ((with_reducible apply wpList_unguard); rfl) | ((with_reducible (first | apply len_B | apply len_PB | apply len_PQ | apply len_L | apply len_Bat | apply len_Qst | apply len_H)); assumption) | ((with_reducible refine stop_ig kC ?_ ?_); rfl))
            refine Stop.go (blk_load (cs := (noteV m up uo uv uh).cells) (.int .u8 (m.kind.toNat : Int)) oneU8 hbx rfl rfl ?_)
            go_wp2_with (first | ((with_reducible apply wpList_unguard); rfl) | ((with_reducible (first | apply len_B | apply len_PB | apply len_PQ | apply len_L | apply len_Bat | apply len_Qst | apply len_H)); assumption) | ((with_reducible refine stop_ig kC ?_ ?_); rfl))
            refine Stop.go (blk_load (.bool true) oneBool h8 rfl rfl ?_)
            go_wp2_with (first | ((with_reducible apply wpList_unguard); rfl) | ((with_reducible (first | apply len_B | apply len_PB | apply len_PQ | apply len_L | apply len_Bat | apply len_Qst | apply len_H)); assumption) | ((with_reducible refine stop_ig kC ?_ ?_); rfl))
            refine Stop.go (blk_load (cs := (noteV m up uo uv uh).cells) (.int .u8 (m.kind.toNat : Int)) oneU8 hbx rfl rfl ?_)
            go_wp2_with (first | ((with_reducible apply wpList_unguard); rfl) | ((with_reducible (first | apply len_B | apply len_PB | apply len_PQ | apply len_L | apply len_Bat | apply len_Qst | apply len_H)); assumption) | ((with_reducible refine stop_ig kC ?_ ?_); rfl))
            refine Stop.go (blk_load (cs := (noteV m up uo uv uh).cells) (.int .u64 (m.query.toNat : Int)) oneU64 hbx rfl rfl ?_)
            go_wp2_with (fail)
            go_ret
            exact ⟨rfl, hbl⟩
      · cases e1
        · cases k11
          · have eb : OB = false := HOB.out
            have eq : OQ = false := HOQ.out
            subst eb
            subst eq
            have hk2 := HK2.out
            have hk11 := HK11.out
            have he1 := HE1.out
            clear HOB HOQ HK2 HK11 HE1 HQ1
            go_wp2_with (first | ((with_reducible apply wpList_unguard); rfl) | ((with_reducible (first | apply len_B | apply len_PB | apply len_PQ | apply len_L | apply len_Bat | apply len_Qst | apply len_H)); assumption) | ((with_reducible refine stop_ig kC ?_ ?_); rfl))
            refine Stop.go (blk_load (.bool false) oneBool h7 rfl rfl ?_)
            go_wp2_with (first | ((with_reducible apply wpList_unguard); rfl) | ((with_reducible (first | apply len_B | apply len_PB | apply len_PQ | apply len_L | apply len_Bat | apply len_Qst | apply len_H)); assumption) | ((with_reducible refine stop_ig kC ?_ ?_); rfl))
            refine Stop.go (blk_load (cs := (noteV m up uo uv uh).cells) (.int .u8 (m.kind.toNat : Int)) oneU8 hbx rfl rfl ?_)
            go_wp2_with (first | ((with_reducible apply wpList_unguard); rfl) | ((with_reducible (first | apply len_B | apply len_PB | apply len_PQ | apply len_L | apply len_Bat | apply len_Qst | apply len_H)); assumption) | ((with_reducible refine stop_ig kC ?_ ?_); rfl))
            refine Stop.go (blk_load (cs := (noteV m up uo uv uh).cells) (.int .u64 (m.batch.toNat : Int)) oneU64 hbx rfl rfl ?_)
            go_wp2_with (first | ((with_reducible apply wpList_unguard); rfl) | ((with_reducible (first | apply len_B | apply len_PB | apply len_PQ | apply len_L | apply len_Bat | apply len_Qst | apply len_H)); assumption) | ((with_reducible refine stop_ig kC ?_ ?_); rfl))
            refine Stop.go (blk_load (.bool false) oneBool h8 rfl rfl ?_)
            go_wp2_with (first | ((with_reducible apply wpList_unguard); rfl) | ((with_reducible (first | apply len_B | apply len_PB | apply len_PQ | apply len_L | apply len_Bat | apply len_Qst | apply len_H)); assumption) | ((with_reducible refine stop_ig kC ?_ ?_); rfl))
            refine Stop.go (blk_load (cs := (noteV m up uo uv uh).cells) (.int .u8 (m.kind.toNat : Int)) oneU8 hbx rfl rfl ?_)
            go_wp2_with (fail)
            go_ret
            exact ⟨rfl, hbl⟩
          · cases q1
            · have eb : OB = false := HOB.out
              have eq : OQ = false := HOQ.out
              subst eb
              subst eq
              have hk2 := HK2.out
              have hk11 := HK11.out
              have he1 := HE1.out
              have hq1 := HQ1.out
              clear HOB HOQ HK2 HK11 HE1 HQ1
              go_wp2_with (first | ((with_reducible apply wpList_unguard); rfl) | ((with_reducible (first | apply len_B | apply len_PB | apply len_PQ | apply len_L | apply len_Bat | apply len_Qst | apply len_H)); assumption) | ((with_reducible refine stop_ig kC ?_ ?_); rfl))
              refine Stop.go (blk_load (.bool false) oneBool h7 rfl rfl ?_)
              go_wp2_with (first | ((with_reducible apply wpList_unguard); rfl) | ((with_reducible (first | apply len_B | apply len_PB | apply len_PQ | apply len_L | apply len_Bat | apply len_Qst | apply len_H)); assumption) | ((with_reducible refine stop_ig kC ?_ ?_); rfl))
              refine Stop.go (blk_load (cs := (noteV m up uo uv uh).cells) (.int .u8 (m.kind.toNat : Int)) oneU8 hbx rfl rfl ?_)
              go_wp2_with (first | ((with_reducible apply wpList_unguard); rfl) | ((with_reducible (first | apply len_B | apply len_PB | apply len_PQ | apply len_L | apply len_Bat | apply len_Qst | apply len_H)); assumption) | ((with_reducible refine stop_ig kC ?_ ?_); rfl))
              refine Stop.go (blk_load (cs := (noteV m up uo uv uh).cells) (.int .u64 (m.batch.toNat : Int)) oneU64 hbx rfl rfl ?_)
              go_wp2_with (first | ((with_reducible apply wpList_unguard); rfl) | ((with_reducible (first | apply len_B | apply len_PB | apply len_PQ | apply len_L | apply len_Bat | apply len_Qst | apply len_H)); assumption) | ((with_reducible refine stop_ig kC ?_ ?_); rfl))
              refine Stop.go (blk_load (.bool false) oneBool h8 rfl rfl ?_)
              go_wp2_with (first | ((with_reducible apply wpList_unguard); rfl) | ((with_reducible (first | apply len_B | apply len_PB | apply len_PQ | apply len_L | apply len_Bat | apply len_Qst | apply len_H)); assumption) | ((with_reducible refine stop_ig kC ?_ ?_); rfl))
              refine Stop.go (blk_load (cs := (noteV m up uo uv uh).cells) (.int .u8 (m.kind.toNat : Int)) oneU8 hbx rfl rfl ?_)
              go_wp2_with (first | ((with_reducible apply wpList_unguard); rfl) | ((with_reducible (first | apply len_B | apply len_PB | apply len_PQ | apply len_L | apply len_Bat | apply len_Qst | apply len_H)); assumption) | ((with_reducible refine stop_ig kC ?_ ?_); rfl))
              refine Stop.go (blk_load (cs := (noteV m up uo uv uh).cells) (.int .u64 (m.query.toNat : Int)) oneU64 hbx rfl rfl ?_)
              go_wp2_with (fail)
              go_ret
              exact ⟨rfl, hbl⟩
            · have eb : OB = false := HOB.out
              have eq : OQ = true := HOQ.out
              subst eb
              subst eq
              have hk2 := HK2.out
              have hk11 := HK11.out
              have he1 := HE1.out
              have hq1 := HQ1.out
              clear HOB HOQ HK2 HK11 HE1 HQ1
              go_wp2_with (first | ((with_reducible apply wpList_unguard); rfl) | ((with_reducible (first | apply len_B | apply len_PB | apply len_PQ | apply len_L | apply len_Bat | apply len_Qst | apply len_H)); assumption) | ((with_reducible refine stop_ig kC ?_ ?_); rfl))
              refine Stop.go (blk_load (.bool false) oneBool h7 rfl rfl ?_)
              go_wp2_with (first | ((with_reducible apply wpList_unguard); rfl) | ((with_reducible (first | apply len_B | apply len_PB | apply len_PQ | apply len_L | apply len_Bat | apply len_Qst | apply len_H)); assumption) | ((with_reducible refine stop_ig kC ?_ ?_); rfl))
              refine Stop.go (blk_load (cs := (noteV m up uo uv uh).cells) (.int .u8 (m.kind.toNat : Int)) oneU8 hbx rfl rfl ?_)
              go_wp2_with (first | ((with_reducible apply wpList_unguard); rfl) | ((with_reducible (first | apply len_B | apply len_PB | apply len_PQ | apply len_L | apply len_Bat | apply len_Qst | apply len_H)); assumption) | ((with_reducible refine stop_ig kC ?_ ?_); rfl))
              refine Stop.go (blk_load (cs := (noteV m up uo uv uh).cells) (.int .u64 (m.batch.toNat : Int)) oneU64 hbx rfl rfl ?_)
              go_wp2_with (first | ((with_reducible apply wpList_unguard); rfl) | ((with_reducible (first | apply len_B | apply len_PB | apply len_PQ | apply len_L | apply len_Bat | apply len_Qst | apply len_H)); assumption) | ((with_reducible refine stop_ig kC ?_ ?_); rfl))
              refine Stop.go (blk_load (.bool true) oneBool h8 rfl rfl ?_)
              go_wp2_with (first | ((with_reducible apply wpList_unguard); rfl) | ((with_reducible (first | apply len_B | apply len_PB | apply len_PQ | apply len_L | apply len_Bat | apply len_Qst | apply len_H)); assumption) | ((with_reducible refine stop_ig kC ?_ ?_); rfl))
              refine Stop.go (blk_load (cs := (noteV m up uo uv uh).cells) (.int .u8 (m.kind.toNat : Int)) oneU8 hbx rfl rfl ?_)
              go_wp2_with (first | ((with_reducible apply wpList_unguard); rfl) | ((with_reducible (first | apply len_B | apply len_PB | apply len_PQ | apply len_L | apply len_Bat | apply len_Qst | apply len_H)); assumption) | ((with_reducible refine stop_ig kC ?_ ?_); rfl))
              refine Stop.go (blk_load (cs := (noteV m up uo uv uh).cells) (.int .u64 (m.query.toNat : Int)) oneU64 hbx rfl rfl ?_)
              go_wp2_with (fail)
              go_ret
              exact ⟨rfl, hbl⟩
        · cases k11
          · have eb : OB = true := HOB.out
            have eq : OQ = false := HOQ.out
            subst eb
            subst eq
            have hk2 := HK2.out
            have hk11 := HK11.out
            have he1 := HE1.out
            clear HOB HOQ HK2 HK11 HE1 HQ1
            go_wp2_with (first | ((with_reducible apply wpList_unguard); rfl) | ((with_reducible (first | apply len_B | apply len_PB | apply len_PQ | apply len_L | apply len_Bat | apply len_Qst | apply len_H)); assumption) | ((with_reducible refine stop_ig kC ?_ ?_); rfl))
            refine Stop.go (blk_load (.bool true) oneBool h7 rfl rfl ?_)
            go_wp2_with (first | ((with_reducible apply wpList_unguard); rfl) | ((with_reducible (first | apply len_B | apply len_PB | apply len_PQ | apply len_L | apply len_Bat | apply len_Qst | apply len_H)); assumption) | ((with_reducible refine stop_ig kC ?_ ?_); rfl))
            refine Stop.go (blk_load (cs := (noteV m up uo uv uh).cells) (.int .u8 (m.kind.toNat : Int)) oneU8 hbx rfl rfl ?_)
            go_wp2_with (first | ((with_reducible apply wpList_unguard); rfl) | ((with_reducible (first | apply len_B | apply len_PB | apply len_PQ | apply len_L | apply len_Bat | apply len_Qst | apply len_H)); assumption) | ((with_reducible refine stop_ig kC ?_ ?_); rfl))
            refine Stop.go (blk_load (cs := (noteV m up uo uv uh).cells) (.int .u64 (m.batch.toNat : Int)) oneU64 hbx rfl rfl ?_)
            go_wp2_with (first | ((with_reducible apply wpList_unguard); rfl) | ((with_reducible (first | apply len_B | apply len_PB | apply len_PQ | apply len_L | apply len_Bat | apply len_Qst | apply len_H)); assumption) | ((with_reducible refine stop_ig kC ?_ ?_); rfl))
            refine Stop.go (blk_load (.bool false) oneBool h8 rfl rfl ?_)
            go_wp2_with (first | ((with_reducible apply wpList_unguard); rfl) | ((with_reducible (first | apply len_B | apply len_PB | apply len_PQ | apply len_L | apply len_Bat | apply len_Qst | apply len_H)); assumption) | ((with_reducible refine stop_ig kC ?_ ?_); rfl))
            refine Stop.go (blk_load (cs := (noteV m up uo uv uh).cells) (.int .u8 (m.kind.toNat : Int)) oneU8 hbx rfl rfl ?_)
            go_wp2_with (fail)
            go_ret
            exact ⟨rfl, hbl⟩
          · cases q1
            · have eb : OB = true := HOB.out
              have eq : OQ = false := HOQ.out
              subst eb
              subst eq
              have hk2 := HK2.out
              have hk11 := HK11.out
              have he1 := HE1.out
              have hq1 := HQ1.out
              clear HOB HOQ HK2 HK11 HE1 HQ1
              go_wp2_with (first | ((with_reducible apply wpList_unguard); rfl) | ((with_reducible (first | apply len_B | apply len_PB | apply len_PQ | apply len_L | apply len_Bat | apply len_Qst | apply len_H)); assumption) | ((with_reducible refine stop_ig kC ?_ ?_); rfl))
              refine Stop.go (blk_load (.bool true) oneBool h7 rfl rfl ?_)
              go_wp2_with (first | ((with_reducible apply wpList_unguard); rfl) | ((with_reducible (first | apply len_B | apply len_PB | apply len_PQ | apply len_L | apply len_Bat | apply len_Qst | apply len_H)); assumption) | ((with_reducible refine stop_ig kC ?_ ?_); rfl))
              refine Stop.go (blk_load (cs := (noteV m up uo uv uh).cells) (.int .u8 (m.kind.toNat : Int)) oneU8 hbx rfl rfl ?_)
              go_wp2_with (first | ((with_reducible apply wpList_unguard); rfl) | ((with_reducible (first | apply len_B | apply len_PB | apply len_PQ | apply len_L | apply len_Bat | apply len_Qst | apply len_H)); assumption) | ((with_reducible refine stop_ig kC ?_ ?_); rfl))
              refine Stop.go (blk_load (cs := (noteV m up uo uv uh).cells) (.int .u64 (m.batch.toNat : Int)) oneU64 hbx rfl rfl ?_)
              go_wp2_with (first | ((with_reducible apply wpList_unguard); rfl) | ((with_reducible (first | apply len_B | apply len_PB | apply len_PQ | apply len_L | apply len_Bat | apply len_Qst | apply len_H)); assumption) | ((with_reducible refine stop_ig kC ?_ ?_); rfl))
              refine Stop.go (blk_load (.bool false) oneBool h8 rfl rfl ?_)
              go_wp2_with (first | ((with_reducible apply wpList_unguard); rfl) | ((with_reducible (first | apply len_B | apply len_PB | apply len_PQ | apply len_L | apply len_Bat | apply len_Qst | apply len_H)); assumption) | ((with_reducible refine stop_ig kC ?_ ?_); rfl))
              refine Stop.go (blk_load (cs := (noteV m up uo uv uh).cells) (.int .u8 (m.kind.toNat : Int)) oneU8 hbx rfl rfl ?_)
              go_wp2_with (first | ((with_reducible apply wpList_unguard); rfl) | ((with_reducible (first | apply len_B | apply len_PB | apply len_PQ | apply len_L | apply len_Bat | apply len_Qst | apply len_H)); assumption) | ((with_reducible refine stop_ig kC ?_ ?_); rfl))
              refine Stop.go (blk_load (cs := (noteV m up uo uv uh).cells) (.int .u64 (m.query.toNat : Int)) oneU64 hbx rfl rfl ?_)
              go_wp2_with (fail)
              go_ret
              exact ⟨rfl, hbl⟩
            · have eb : OB = true := HOB.out
              have eq : OQ = true := HOQ.out
              subst eb
              subst eq
              have hk2 := HK2.out
              have hk11 := HK11.out
              have he1 := HE1.out
              have hq1 := HQ1.out
              clear HOB HOQ HK2 HK11 HE1 HQ1
              go_wp2_with (first | ((with_reducible apply wpList_unguard); rfl) | ((with_reducible (first | apply len_B | apply len_PB | apply len_PQ | apply len_L | apply len_Bat | apply len_Qst | apply len_H)); assumption) | ((with_reducible refine stop_ig kC ?_ ?_); rfl))
              refine Stop.go (blk_load (.bool true) oneBool h7 rfl rfl ?_)
              go_wp2_with (first | ((with_reducible apply wpList_unguard); rfl) | ((with_reducible (first | apply len_B | apply len_PB | apply len_PQ | apply len_L | apply len_Bat | apply len_Qst | apply len_H)); assumption) | ((with_reducible refine stop_ig kC ?_ ?_); rfl))
              refine Stop.go (blk_load (cs := (noteV m up uo uv uh).cells) (.int .u8 (m.kind.toNat : Int)) oneU8 hbx rfl rfl ?_)
              go_wp2_with (first | ((with_reducible apply wpList_unguard); rfl) | ((with_reducible (first | apply len_B | apply len_PB | apply len_PQ | apply len_L | apply len_Bat | apply len_Qst | apply len_H)); assumption) | ((with_reducible refine stop_ig kC ?_ ?_); rfl))
              refine Stop.go (blk_load (cs := (noteV m up uo uv uh).cells) (.int .u64 (m.batch.toNat : Int)) oneU64 hbx rfl rfl ?_)
              go_wp2_with (first | ((with_reducible apply wpList_unguard); rfl) | ((with_reducible (first | apply len_B | apply len_PB | apply len_PQ | apply len_L | apply len_Bat | apply len_Qst | apply len_H)); assumption) | ((with_reducible refine stop_ig kC ?_ ?_); rfl))
              refine Stop.go (blk_load (.bool true) oneBool h8 rfl rfl ?_)
              go_wp2_with (first | ((with_reducible apply wpList_unguard); rfl) | ((with_reducible (first | apply len_B | apply len_PB | apply len_PQ | apply len_L | apply len_Bat | apply len_Qst | apply len_H)); assumption) | ((with_reducible refine stop_ig kC ?_ ?_); rfl))
              refine Stop.go (blk_load (cs := (noteV m up uo uv uh).cells) (.int .u8 (m.kind.toNat : Int)) oneU8 hbx rfl rfl ?_)
              go_wp2_with (first | ((with_reducible apply wpList_unguard); rfl) | ((with_reducible (first | apply len_B | apply len_PB | apply len_PQ | apply len_L | apply len_Bat | apply len_Qst | apply len_H)); assumption) | ((with_reducible refine stop_ig kC ?_ ?_); rfl))
              refine Stop.go (blk_load (cs := (noteV m up uo uv uh).cells) (.int .u64 (m.query.toNat : Int)) oneU64 hbx rfl rfl ?_)
              go_wp2_with (fail)
              go_ret
              exact ⟨rfl, hbl⟩
theorem callerDeaf_true (w : World) (hN : Srt w) (hB : Nib w) {src : Int} (hs : -9223372036854775808 ≤ src ∧ src ≤ 9223372036854775807) {S : Nat → Prop} {n : NoteR} {V : Value} (hV : Nt w S n V) :
    Calls Tryd.prog 11 #[.int .i64 src, V] w fun e w' => e = .returned (.bool true) ∧ Below w.heap.size w w' := callerDeaf_any w hN hB src hs.1 hs.2 S n V hV
end Go.Proofs.YtjkffjngamagkaaDoor
