/- armillarylaw12: NoteSames. -/
import Derived.Test.YtnkbfelnggompaaDoorNoteLoad
import Derived.Test.YtnkbfelnggompaaDoorRefFewN
import Derived.Test.YtnkbfelnggompaaDoorNoteAwake
import Derived.Test.YtnkbfelnggompaaDoorNoteSame
import Derived.Test.YtnkbfelnggompaaDoorRefSame
namespace Go.Arm
theorem fewN_idem (n : NoteR) : fewN (fewN n) = fewN n := by
  have hO : ∀ l : List OpR, (((l.take 18).map cutO).take 18).map cutO = (l.take 18).map cutO := by
    intro l
    rw [← List.map_take, List.take_take, List.map_map]
    refine List.map_congr_left fun o _ => ?_
    simp [cutO, List.take_take]
  have hH : ∀ l : List HitR, (((l.take 18).map cutH).take 18).map cutH = (l.take 18).map cutH := by
    intro l
    rw [← List.map_take, List.take_take, List.map_map]
    refine List.map_congr_left fun o _ => ?_
    simp [cutH, List.take_take]
  simp only [fewN, hO, hH, List.take_take, Nat.min_self]
end Go.Arm
namespace Go.Proofs.YtnkbfelnggompaaDoor
open Go Go.RowKit Go.Arm

set_option maxHeartbeats 4000000 in
set_option maxRecDepth 100000 in
theorem noteSames_any (w : World) (hN : Srt w) (hB : Nib w) (S S' : Nat → Prop) (n m : NoteR) (V U : Value) (k : Nat) (hV : Nt w S n V) (hU : Nt w S' m U) (hk : k < 256) :
    Calls Tryd.prog 4 #[V, U, .int .u8 (k : Int)] w fun e w' => e = .returned (.bool true) ∧ Below w.heap.size w w' := by
  have hV0 := hV.old
  have hU0 := hU.old
  clear hV hU
  have HV := Lib.hid hV0
  have HU := Lib.hid hU0
  obtain ⟨vp, vo, vv, vh, rfl, h1, h2, h3, h4, _⟩ := hV0
  obtain ⟨up, uo, uv, uh, rfl, k1, k2, k3, k4, _⟩ := hU0
  clear h1 h2 h3 h4 k1 k2 k3 k4
  go_enter Tryd.func4, Tryd.ntmps4
  go_wp2_with (first | (with_reducible refine stop_load_N ?_) | (with_reducible refine stop_load_R ?_) | (with_reducible refine stop_store_N ?_) | (with_reducible refine stop_store_R ?_) | (with_reducible refine stop_box_N ?_) | (with_reducible refine stop_box_R ?_) | (with_reducible refine stop_index_sort ?_) | ((with_reducible apply wpList_unguard); rfl) | (with_reducible refine stop_make ?_) | ((with_reducible apply len_B); assumption) | ((with_reducible apply len_BB); assumption)  | ((with_reducible apply len_N); assumption) | ((with_reducible apply len_V); assumption) | ((with_reducible apply len_VV); assumption) | ((with_reducible apply len_P); assumption) | ((with_reducible apply len_O); assumption) | ((with_reducible apply len_H); assumption)  | (with_reducible refine stop_builtin ?_) | (with_reducible refine stop_slice ?_) | (with_reducible refine stop_index_B ?_) | (with_reducible refine stop_index_BB ?_)  | (with_reducible refine stop_index_N ?_) | (with_reducible refine stop_index_V ?_) | (with_reducible refine stop_index_VV ?_) | (with_reducible refine stop_index_P ?_) | (with_reducible refine stop_index_O ?_) | (with_reducible refine stop_index_H ?_)  | (with_reducible refine stop_str_B ?_) | (with_reducible refine stop_mark_B ?_) | (with_reducible refine stop_buildSlice ?_))
  refine Stop.go (box_R rfl fun b w1 b1 hb1 ha1 => ?_)
  go_wp2_with (first | (with_reducible refine stop_load_N ?_) | (with_reducible refine stop_load_R ?_) | (with_reducible refine stop_store_N ?_) | (with_reducible refine stop_store_R ?_) | (with_reducible refine stop_box_N ?_) | (with_reducible refine stop_box_R ?_) | (with_reducible refine stop_index_sort ?_) | ((with_reducible apply wpList_unguard); rfl) | (with_reducible refine stop_make ?_) | ((with_reducible apply len_B); assumption) | ((with_reducible apply len_BB); assumption)  | ((with_reducible apply len_N); assumption) | ((with_reducible apply len_V); assumption) | ((with_reducible apply len_VV); assumption) | ((with_reducible apply len_P); assumption) | ((with_reducible apply len_O); assumption) | ((with_reducible apply len_H); assumption)  | (with_reducible refine stop_builtin ?_) | (with_reducible refine stop_slice ?_) | (with_reducible refine stop_index_B ?_) | (with_reducible refine stop_index_BB ?_)  | (with_reducible refine stop_index_N ?_) | (with_reducible refine stop_index_V ?_) | (with_reducible refine stop_index_VV ?_) | (with_reducible refine stop_index_P ?_) | (with_reducible refine stop_index_O ?_) | (with_reducible refine stop_index_H ?_)  | (with_reducible refine stop_str_B ?_) | (with_reducible refine stop_mark_B ?_) | (with_reducible refine stop_buildSlice ?_))
  refine Stop.go (box_R rfl fun c w2 c2 hc2 ha2 => ?_)
  have b2 := b1.below ha2 b1.lt
  have hbc : b ≠ c := by have := b1.lt; omega
  have hB2 := below_on ha1 ha2 ha1.size
  have hcw : w.heap.size ≤ c := by have := ha1.size; omega
  clear ha1 ha2 b1 hc2
  go_wp2_with (first | (with_reducible refine stop_load_N ?_) | (with_reducible refine stop_load_R ?_) | (with_reducible refine stop_store_N ?_) | (with_reducible refine stop_store_R ?_) | (with_reducible refine stop_box_N ?_) | (with_reducible refine stop_box_R ?_) | (with_reducible refine stop_index_sort ?_) | ((with_reducible apply wpList_unguard); rfl) | (with_reducible refine stop_make ?_) | ((with_reducible apply len_B); assumption) | ((with_reducible apply len_BB); assumption)  | ((with_reducible apply len_N); assumption) | ((with_reducible apply len_V); assumption) | ((with_reducible apply len_VV); assumption) | ((with_reducible apply len_P); assumption) | ((with_reducible apply len_O); assumption) | ((with_reducible apply len_H); assumption)  | (with_reducible refine stop_builtin ?_) | (with_reducible refine stop_slice ?_) | (with_reducible refine stop_index_B ?_) | (with_reducible refine stop_index_BB ?_)  | (with_reducible refine stop_index_N ?_) | (with_reducible refine stop_index_V ?_) | (with_reducible refine stop_index_VV ?_) | (with_reducible refine stop_index_P ?_) | (with_reducible refine stop_index_O ?_) | (with_reducible refine stop_index_H ?_)  | (with_reducible refine stop_str_B ?_) | (with_reducible refine stop_mark_B ?_) | (with_reducible refine stop_buildSlice ?_))
  refine (awake12_any w2 (hN.below hB2 (Nat.le_refl _)) (hB.below hB2 (Nat.le_refl _))).mono ?_
  rintro e w3 ⟨rfl, hb3⟩
  have hB3 := below_on hB2 hb3 hB2.size
  have b3 := b2.below hb3 b2.lt
  have c3 := c2.below hb3 c2.lt
  clear hB2 hb3 b2 c2
  go_upto_region 3 with (fail)
  have hBd : Below w.heap.size w w3.drew := hB3.drew
  have b4 : RBox w3.drew b n vp vo vv vh := b3
  have c4 : RBox w3.drew c m up uo uv uh := c3
  clear b3 c3 hB3
  refine wp_region_D (fun _ => True) 4 (fun wq => RBox wq b n vp vo vv vh ∧ RBox wq c m up uo uv uh) 6 rfl (by kernel_rfl) ?_
  generalize w3.drew = w4 at *
  refine wpAnyD_take2 (i := 0) (dst := some 11) (v := noteV n vp vo vv vh) rfl rfl (by decide) (by kernel_rfl) (by kernel_rfl) (by kernel_rfl) rfl (by kernel_rfl) (by kernel_rfl) (fun _ _ _ h => h) (yields_R (by rfl) rfl fun _ h => h.2.1) (trivial) (⟨b4, c4⟩) ?_
  simp only [Act.put, List.setIfInBounds_toArray, List.set_cons_zero, List.set_cons_succ]
  refine wpAnyD_take2 (i := 2) (dst := some 13) (v := noteV m up uo uv uh) rfl rfl (by decide) (by kernel_rfl) (by kernel_rfl) (by kernel_rfl) rfl (by kernel_rfl) (by kernel_rfl) (fun _ _ _ h => h) (yields_R (by rfl) rfl fun _ h => h.2.2) (trivial) (⟨b4, c4⟩) ?_
  simp only [Act.put, List.setIfInBounds_toArray, List.set_cons_zero, List.set_cons_succ]
  refine wpAnyD_step (i := 1) (by kernel_rfl) rfl fun K hK => ?_
  refine step_call (vs := #[noteV n vp vo vv vh]) (by rfl) (by go_simp) (by kernel_rfl) (rfewn_any w4 _ n _ (HV.out.below hBd (Nat.le_refl _))) ?_
  rintro e w5 ⟨V5, rfl, hV5, hb5⟩
  have b5 := b4.below hb5 b4.lt
  have c5 := c4.below hb5 c4.lt
  have hB5 := below_on hBd hb5 hBd.size
  refine ⟨_, rfl, hK _ _ trivial ⟨b5, c5⟩ ?_⟩
  clear hK K
  simp only [Act.put, List.setIfInBounds_toArray, List.set_cons_zero, List.set_cons_succ]
  refine wpAnyD_step (i := 3) (by kernel_rfl) rfl fun K hK => ?_
  refine step_call (vs := #[noteV m up uo uv uh]) (by rfl) (by go_simp) (by kernel_rfl) (rfewn_any w5 _ m _ (HU.out.below hB5 (Nat.le_refl _))) ?_
  rintro e w6 ⟨V6, rfl, hV6, hb6⟩
  have b6 := b5.below hb6 b5.lt
  have c6 := c5.below hb6 c5.lt
  have hB6 := below_on hB5 hb6 hB5.size
  have hV5 := hV5.below hb6 (Nat.le_refl _)
  have n5 : ∀ k, w4.heap.size ≤ k → k ≠ b ∧ k ≠ c := fun k hk => by have := b4.lt; have := c4.lt; omega
  have n6 : ∀ k, w5.heap.size ≤ k → k ≠ b ∧ k ≠ c := fun k hk => by have := b5.lt; have := c5.lt; omega
  obtain ⟨ap, ao, av, ah, rfl, a1, a2, a3, a4, aI⟩ := hV5
  obtain ⟨dp, do', dv, dh, rfl, d1, d2, d3, d4, dI⟩ := hV6
  refine ⟨_, rfl, hK _ _ trivial ⟨b6, c6⟩ ?_⟩
  clear hK K
  simp only [Act.put, List.setIfInBounds_toArray, List.set_cons_zero, List.set_cons_succ]
  refine wpAnyD_stepd (i := 4) (by kernel_rfl) rfl (by kernel_rfl) fun K hK => ?_
  refine step_store_R b6 rfl rfl (Sl.slv a1) (Sl.slv a2) (Sl.slv a3) (Sl.slv a4) fun w7 b7 o7 _ => ?_
  have c7 := c6.only o7 (fun e => hbc e.symm)
  refine hK _ _ trivial ?_
  clear hK K
  simp only [Act.put]
  refine wpAnyD_stepd (i := 5) (by kernel_rfl) rfl (by kernel_rfl) fun K hK => ?_
  refine step_store_R c7 rfl rfl (Sl.slv d1) (Sl.slv d2) (Sl.slv d3) (Sl.slv d4) fun w8 c8 o8 _ => ?_
  have b8 := b7.only o8 hbc
  refine hK _ _ trivial ?_
  clear hK K
  simp only [Act.put]
  refine wpAnyD_done (by kernel_rfl) ?_
  have o68 : Only (fun k => k = b ∨ k = c) w6 w8 := (o7.mono fun k _ h => .inl h).trans o8 fun k _ h => .inr h
  have hV8 : Nt w8 (fun k => w4.heap.size ≤ k) (fewN n) (noteV (fewN n) ap ao av ah) := Nt.keep ⟨ap, ao, av, ah, rfl, a1, a2, a3, a4, aI⟩ fun k hk hlt => ⟨o68.block k hlt (fun e => by have := n5 k hk; omega), hk⟩
  have hU8 : Nt w8 (fun k => w5.heap.size ≤ k) (fewN m) (noteV (fewN m) dp do' dv dh) := Nt.keep ⟨dp, do', dv, dh, rfl, d1, d2, d3, d4, dI⟩ fun k hk hlt => ⟨o68.block k hlt (fun e => by have := n6 k hk; omega), hk⟩
  have hB8 := below_only hB6 o68 (by rintro k (rfl | rfl) <;> assumption)
  clear a1 a2 a3 a4 aI d1 d2 d3 d4 dI n5 n6 o7 o8 o68 b4 b5 b6 b7 c4 c5 c6 c7 hB5 hB6 hBd hb5 hb6 HV HU
  go_wp2_with (fail)
  refine (rname_any w8 k hk).mono ?_
  rintro e w9 ⟨rfl, rfl⟩
  go_upto_region 5 with (fail)
  have hBd : Below w.heap.size w w8.drew := hB8.drew
  have b9 : RBox w8.drew b (fewN n) ap ao av ah := b8
  have c9 : RBox w8.drew c (fewN m) dp do' dv dh := c8
  have hV9 : Nt w8.drew _ (fewN n) (noteV (fewN n) ap ao av ah) := hV8.below (Below.refl w8.heap.size w8).drew (Nat.le_refl _)
  have hU9 : Nt w8.drew _ (fewN m) (noteV (fewN m) dp do' dv dh) := hU8.below (Below.refl w8.heap.size w8).drew (Nat.le_refl _)
  clear hB8 b8 c8 hV8 hU8
  obtain ⟨nm, hnm⟩ : ∃ nm : ByteArray, nm = ⟨(sortName k).toArray⟩ := ⟨_, rfl⟩
  have hname := fun w hN => nname_any w k hN hk
  rw [← hnm] at hname ⊢
  have HNM := Lib.hid hname
  clear hname hnm
  have hid := fewN_idem n
  have HID := Lib.hid hid
  clear hid
  generalize fewN n = n' at *
  generalize fewN m = m' at *
  refine wp_region_D (fun wq => RBox wq b n' ap ao av ah ∧ RBox wq c m' dp do' dv dh) 100 (fun _ => True) 20 rfl (by kernel_rfl) ?_
  generalize w8.drew = w9 at *
  refine wpAnyD_take (i := 0) (dst := some 20) (v := noteV n' ap ao av ah) rfl rfl (by decide) (by kernel_rfl) (by kernel_rfl) (by kernel_rfl) (fun _ _ _ h => h) (yields_R (by rfl) rfl fun _ h => h.1) (⟨b9, c9⟩) (.inr trivial) ?_
  simp only [Act.put, List.setIfInBounds_toArray, List.set_cons_zero, List.set_cons_succ]
  refine wpAnyD_take (i := 1) (dst := some 21) (v := noteV m' dp do' dv dh) rfl rfl (by decide) (by kernel_rfl) (by kernel_rfl) (by kernel_rfl) (fun _ _ _ h => h) (yields_R (by rfl) rfl fun _ h => h.2) (⟨b9, c9⟩) (.inr trivial) ?_
  simp only [Act.put, List.setIfInBounds_toArray, List.set_cons_zero, List.set_cons_succ]
  refine wpAnyD_take (i := 3) (dst := some 23) (v := noteV n' ap ao av ah) rfl rfl (by decide) (by kernel_rfl) (by kernel_rfl) (by kernel_rfl) (fun _ _ _ h => h) (yields_R (by rfl) rfl fun _ h => h.1) (⟨b9, c9⟩) (.inr trivial) ?_
  simp only [Act.put, List.setIfInBounds_toArray, List.set_cons_zero, List.set_cons_succ]
  refine wpAnyD_take (i := 4) (dst := some 24) (v := noteV m' dp do' dv dh) rfl rfl (by decide) (by kernel_rfl) (by kernel_rfl) (by kernel_rfl) (fun _ _ _ h => h) (yields_R (by rfl) rfl fun _ h => h.2) (⟨b9, c9⟩) (.inr trivial) ?_
  simp only [Act.put, List.setIfInBounds_toArray, List.set_cons_zero, List.set_cons_succ]
  have hB9 := hBd
  refine wpAnyD_step (i := 2) (by kernel_rfl) rfl fun K hK => ?_
  refine step_call (vs := #[noteV n' ap ao av ah, noteV m' dp do' dv dh]) (by rfl) (by go_simp) (by kernel_rfl) (nsame_any w9 _ _ n' m' _ _ hV9 hU9) ?_
  rintro e w10 ⟨rfl, hb10⟩
  have b10 := b9.below hb10 b9.lt
  have c10 := c9.below hb10 c9.lt
  have hV10 := hV9.below hb10 (Nat.le_refl _)
  have hU10 := hU9.below hb10 (Nat.le_refl _)
  have hB10 := below_on hB9 hb10 hB9.size
  refine ⟨_, rfl, hK _ _ ⟨b10, c10⟩ trivial ?_⟩
  clear hK K
  simp only [Act.put, List.setIfInBounds_toArray, List.set_cons_zero, List.set_cons_succ]
  refine wpAnyD_step (i := 5) (by kernel_rfl) rfl fun K hK => ?_
  refine step_call (vs := #[noteV n' ap ao av ah, noteV m' dp do' dv dh]) (by rfl) (by go_simp) (by kernel_rfl) (rsame_any w10 _ _ n' m' _ _ hV10 hU10) ?_
  rintro e w11 ⟨rfl, hb11⟩
  have b11 := b10.below hb11 b10.lt
  have c11 := c10.below hb11 c10.lt
  have hV11 := hV10.below hb11 (Nat.le_refl _)
  have hU11 := hU10.below hb11 (Nat.le_refl _)
  have hB11 := below_on hB10 hb11 hB10.size
  refine ⟨_, rfl, hK _ _ ⟨b11, c11⟩ trivial ?_⟩
  clear hK K
  simp only [Act.put, List.setIfInBounds_toArray, List.set_cons_zero, List.set_cons_succ]
  generalize (n' == m') = E
  refine wpAnyD_take (i := 6) (dst := some 26) (v := .bool true) rfl rfl (by decide) (by kernel_rfl) (by kernel_rfl) (by kernel_rfl) (fun _ _ _ h => h) (.inl ⟨by rfl, fun _ _ => by cases E <;> kernel_rfl⟩) (⟨b11, c11⟩) (.inr trivial) ?_
  simp only [Act.put, List.setIfInBounds_toArray, List.set_cons_zero, List.set_cons_succ]
  refine wpAnyD_take (i := 7) (dst := some 27) (v := .bool true) rfl rfl (by decide) (by kernel_rfl) (by kernel_rfl) (by kernel_rfl) (fun _ _ _ h => h) (.inl ⟨by rfl, fun _ _ => by kernel_rfl⟩) (⟨b11, c11⟩) (.inr trivial) ?_
  simp only [Act.put, List.setIfInBounds_toArray, List.set_cons_zero, List.set_cons_succ]
  refine wpAnyD_take (i := 8) (dst := some 28) (v := noteV n' ap ao av ah) rfl rfl (by decide) (by kernel_rfl) (by kernel_rfl) (by kernel_rfl) (fun _ _ _ h => h) (yields_R (by rfl) rfl fun _ h => h.1) (⟨b11, c11⟩) (.inr trivial) ?_
  simp only [Act.put, List.setIfInBounds_toArray, List.set_cons_zero, List.set_cons_succ]
  refine wpAnyD_take (i := 9) (dst := some 29) (v := noteV n' ap ao av ah) rfl rfl (by decide) (by kernel_rfl) (by kernel_rfl) (by kernel_rfl) (fun _ _ _ h => h) (yields_R (by rfl) rfl fun _ h => h.1) (⟨b11, c11⟩) (.inr trivial) ?_
  simp only [Act.put, List.setIfInBounds_toArray, List.set_cons_zero, List.set_cons_succ]
  refine wpAnyD_step (i := 10) (by kernel_rfl) rfl fun K hK => ?_
  refine step_call (vs := #[noteV n' ap ao av ah]) (by rfl) (by go_simp) (by kernel_rfl) (rfewn_any w11 _ n' _ hV11) ?_
  rintro e w12 ⟨V12, rfl, hX12, hb12⟩
  rw [HID.out] at hX12
  have b12 := b11.below hb12 b11.lt
  have c12 := c11.below hb12 c11.lt
  have hV12 := hV11.below hb12 (Nat.le_refl _)
  have hU12 := hU11.below hb12 (Nat.le_refl _)
  have hB12 := below_on hB11 hb12 hB11.size
  obtain ⟨xp, xo, xv, xh, rfl, x1, x2, x3, x4, xI⟩ := hX12
  have hX12 : Nt w12 _ n' (noteV n' xp xo xv xh) := ⟨_, _, _, _, rfl, x1, x2, x3, x4, xI⟩
  clear x1 x2 x3 x4 xI
  refine ⟨_, rfl, hK _ _ ⟨b12, c12⟩ trivial ?_⟩
  clear hK K
  simp only [Act.put, List.setIfInBounds_toArray, List.set_cons_zero, List.set_cons_succ]
  refine wpAnyD_step (i := 11) (by kernel_rfl) rfl fun K hK => ?_
  refine step_call (vs := #[noteV n' ap ao av ah, noteV n' xp xo xv xh]) (by rfl) (by go_simp) (by kernel_rfl) (nsame_any w12 _ _ n' n' _ _ hV12 hX12) ?_
  rintro e w13 ⟨rfl, hb13⟩
  have eT : (n' == n') = true := by simp
  rw [eT]
  clear eT
  have b13 := b12.below hb13 b12.lt
  have c13 := c12.below hb13 c12.lt
  have hV13 := hV12.below hb13 (Nat.le_refl _)
  have hU13 := hU12.below hb13 (Nat.le_refl _)
  have hB13 := below_on hB12 hb13 hB12.size
  refine ⟨_, rfl, hK _ _ ⟨b13, c13⟩ trivial ?_⟩
  clear hK K
  simp only [Act.put, List.setIfInBounds_toArray, List.set_cons_zero, List.set_cons_succ]
  refine wpAnyD_take (i := 12) (dst := some 32) (v := .bool true) rfl rfl (by decide) (by kernel_rfl) (by kernel_rfl) (by kernel_rfl) (fun _ _ _ h => h) (.inl ⟨by rfl, fun _ _ => by kernel_rfl⟩) (⟨b13, c13⟩) (.inr trivial) ?_
  simp only [Act.put, List.setIfInBounds_toArray, List.set_cons_zero, List.set_cons_succ]
  refine wpAnyD_take (i := 13) (dst := some 33) (v := .bool true) rfl rfl (by decide) (by kernel_rfl) (by kernel_rfl) (by kernel_rfl) (fun _ _ _ h => h) (.inl ⟨by rfl, fun _ _ => by kernel_rfl⟩) (⟨b13, c13⟩) (.inr trivial) ?_
  simp only [Act.put, List.setIfInBounds_toArray, List.set_cons_zero, List.set_cons_succ]
  refine wpAnyD_take (i := 14) (dst := some 34) (v := .int .u8 (k : Int)) rfl rfl (by decide) (by kernel_rfl) (by kernel_rfl) (by kernel_rfl) (fun _ _ _ h => h) (.inl ⟨by rfl, fun _ _ => by kernel_rfl⟩) (⟨b13, c13⟩) (.inr trivial) ?_
  simp only [Act.put, List.setIfInBounds_toArray, List.set_cons_zero, List.set_cons_succ]
  refine wpAnyD_take (i := 16) (dst := some 36) (v := .string nm) rfl rfl (by decide) (by kernel_rfl) (by kernel_rfl) (by kernel_rfl) (fun _ _ _ h => h) (.inl ⟨by rfl, fun _ _ => by kernel_rfl⟩) (⟨b13, c13⟩) (.inr trivial) ?_
  simp only [Act.put, List.setIfInBounds_toArray, List.set_cons_zero, List.set_cons_succ]
  refine wpAnyD_step (i := 15) (by kernel_rfl) rfl fun K hK => ?_
  refine step_call (vs := #[.int .u8 (k : Int)]) (by rfl) (by go_simp) (by kernel_rfl) (HNM.out w13 (hN.below hB13 (Nat.le_refl _))) ?_
  rintro e w14 ⟨rfl, hb14⟩
  have b14 := b13.below hb14 b13.lt
  have c14 := c13.below hb14 c13.lt
  have hV14 := hV13.below hb14 (Nat.le_refl _)
  have hU14 := hU13.below hb14 (Nat.le_refl _)
  have hB14 := below_on hB13 hb14 hB13.size
  refine ⟨_, rfl, hK _ _ ⟨b14, c14⟩ trivial ?_⟩
  clear hK K
  simp only [Act.put, List.setIfInBounds_toArray, List.set_cons_zero, List.set_cons_succ]
  refine wpAnyD_take (i := 17) (dst := some 37) (v := .bool true) rfl rfl (by decide) (by kernel_rfl) (by kernel_rfl) (by kernel_rfl) (fun _ _ _ h => h) (.inl ⟨by rfl, fun _ _ => by go_simp⟩) (⟨b14, c14⟩) (.inr trivial) ?_
  simp only [Act.put, List.setIfInBounds_toArray, List.set_cons_zero, List.set_cons_succ]
  refine wpAnyD_take (i := 18) (dst := some 38) (v := .bool true) rfl rfl (by decide) (by kernel_rfl) (by kernel_rfl) (by kernel_rfl) (fun _ _ _ h => h) (.inl ⟨by rfl, fun _ _ => by kernel_rfl⟩) (⟨b14, c14⟩) (.inr trivial) ?_
  simp only [Act.put, List.setIfInBounds_toArray, List.set_cons_zero, List.set_cons_succ]
  refine wpAnyD_take (i := 19) (dst := some 6) (v := .bool true) rfl rfl (by decide) (by kernel_rfl) (by kernel_rfl) (by kernel_rfl) (fun _ _ _ h => h) (.inl ⟨by rfl, fun _ _ => by kernel_rfl⟩) (⟨b14, c14⟩) (.inr trivial) ?_
  simp only [Act.put, List.setIfInBounds_toArray, List.set_cons_zero, List.set_cons_succ]
  refine wpAnyD_done (by kernel_rfl) ?_

  go_wp2_with (fail)
  go_ret
  exact ⟨rfl, hB14⟩
theorem noteSames_true (w : World) (hN : Srt w) (hB : Nib w) {S S' : Nat → Prop} {l m : NoteR} {V U : Value} (hV : Nt w S l V) (hU : Nt w S' m U) {n : Nat} (hk : n < 256) :
    Calls Tryd.prog 4 #[V, U, .int .u8 (n : Int)] w fun e w' => e = .returned (.bool true) ∧ Below w.heap.size w w' := noteSames_any w hN hB S S' l m V U n hV hU hk
end Go.Proofs.YtnkbfelnggompaaDoor
