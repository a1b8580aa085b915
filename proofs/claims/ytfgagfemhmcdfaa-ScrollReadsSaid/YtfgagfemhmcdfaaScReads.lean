/- package armillarylaw02: ScrollReads. -/
import Derived.Test.YtfgagfemhmcdfaaItems
import Derived.Test.YtfgagfemhmcdfaaRefTake2
import Derived.Test.YtfgagfemhmcdfaaWide
import Derived.Test.YtfgagfemhmcdfaaOne
namespace Go.Proofs.Ytfgagfemhmcdfaa
open Go Go.RowKit Go.Arm

theorem rn_eq (L : List UInt8) (M : Nat) : (rnum L 0 M).1 = (taken L M).1 ∧ (rnum L 0 M).2.2 = (taken L M).2.2 ∧ (rnum L 0 M).2.1 = if (taken L M).2.2 = 0 then (taken L M).2.1 else L := by
  by_cases h : (taken L M).2.2 = 0
  · simp [rnum, h]
  · have h2 := taken_bad L M h
    simp [rnum, h, h2]
theorem rt_eq (L : List UInt8) (M : Nat) : (rtext L 0 M).1 = (ttext L M).1 ∧ (rtext L 0 M).2.2 = (ttext L M).2.2 ∧ (rtext L 0 M).2.1 = if (ttext L M).2.2 = 0 then (ttext L M).2.1 else L := by
  by_cases h : (taken L M).2.2 = 0
  · by_cases h2 : (taken L M).2.1.length < (taken L M).1
    · simp [rtext, ttext, h, h2]
    · simp [rtext, ttext, h, h2]
  · simp [rtext, ttext, h]
theorem rv_eq (L : List UInt8) (M : Nat) : (rvecs L 0 M).1 = (tvec L M).1 ∧ (rvecs L 0 M).2.2 = (tvec L M).2.2 ∧ (rvecs L 0 M).2.1 = if (tvec L M).2.2 = 0 then (tvec L M).2.1 else L := by
  by_cases h : (taken L M).2.2 = 0
  · by_cases h2 : (rvec (taken L M).1 (taken L M).2.1).2.2 = 0
    · simp [rvecs, tvec, h, h2]
    · simp [rvecs, tvec, h, h2]
  · simp [rvecs, tvec, h]
theorem rvec_len : ∀ (n : Nat) (l : List UInt8), (rvec n l).2.1.length ≤ l.length
  | 0, l => by simp [rvec]
  | n + 1, l => by
    have h1 := taken_len l 18446744073709551615
    have h2 := rvec_len n (taken l 18446744073709551615).2.1
    rw [rvec]
    split
    · simp
    · split
      · simp
      · simp only; omega
theorem ttext_len (L : List UInt8) (M : Nat) : (ttext L M).2.1.length ≤ L.length := by
  have := taken_len L M
  unfold ttext
  split
  · simp
  · split
    · simp
    · simp only [List.length_drop]; omega
theorem tvec_len (L : List UInt8) (M : Nat) : (tvec L M).2.1.length ≤ L.length := by
  have := taken_len L M
  have := rvec_len (taken L M).1 (taken L M).2.1
  unfold tvec
  split
  · simp
  · split
    · simp
    · omega

set_option maxHeartbeats 8000000 in
set_option maxRecDepth 100000 in
theorem scrollReads_any (w : World) {S1 S2 : Nat → Prop} {l : List UInt8} {its : List Itm} {p q : Value} (hp : Sl w S1 l p) (hq : Sl w S2 its q) :
    Calls Try.prog 5 #[p, q] w fun e w' => e = .returned (.bool true) ∧ Below w.heap.size w w' := by
  have hil : its.length ≤ 9223372036854775807 := hq.length_le
  go_enter Try.func5, Try.ntmps5
  go_wp2_with (first | ((with_reducible apply wpList_unguard); rfl) | (with_reducible refine stop_make ?_) | ((with_reducible apply len_B); assumption) | ((with_reducible apply len_BB); assumption)  | ((with_reducible apply len_N); assumption) | ((with_reducible apply len_V); assumption) | ((with_reducible apply len_VV); assumption) | ((with_reducible apply len_I); assumption)  | (with_reducible refine stop_builtin ?_) | (with_reducible refine stop_slice ?_) | (with_reducible refine stop_index_B ?_) | (with_reducible refine stop_index_BB ?_)  | (with_reducible refine stop_index_N ?_) | (with_reducible refine stop_index_V ?_) | (with_reducible refine stop_index_VV ?_) | (with_reducible refine stop_index_I ?_)  | (with_reducible refine stop_str_B ?_) | (with_reducible refine stop_mark_B ?_) | (with_reducible refine stop_buildSlice ?_))
  refine (awake_any w).mono ?_
  rintro e w0 ⟨rfl, hb0⟩
  have hp0 := hp.old.below hb0 (Nat.le_refl _)
  have hq0 := hq.old.below hb0 (Nat.le_refl _)
  clear hp hq
  go_wp2_with (first | ((with_reducible apply wpList_unguard); rfl) | (with_reducible refine stop_make ?_) | ((with_reducible apply len_B); assumption) | ((with_reducible apply len_BB); assumption)  | ((with_reducible apply len_N); assumption) | ((with_reducible apply len_V); assumption) | ((with_reducible apply len_VV); assumption) | ((with_reducible apply len_I); assumption)  | (with_reducible refine stop_builtin ?_) | (with_reducible refine stop_slice ?_) | (with_reducible refine stop_index_B ?_) | (with_reducible refine stop_index_BB ?_)  | (with_reducible refine stop_index_N ?_) | (with_reducible refine stop_index_V ?_) | (with_reducible refine stop_index_VV ?_) | (with_reducible refine stop_index_I ?_)  | (with_reducible refine stop_str_B ?_) | (with_reducible refine stop_mark_B ?_) | (with_reducible refine stop_buildSlice ?_))
  refine (cut_any w0 _ _ _ 200 hp0 (by decide) (by decide)).mono ?_
  rintro e w1 ⟨p1, rfl, hp1, hb⟩
  have hb1 := below_on hb0 hb hb0.size
  have hq1 := hq0.below hb (Nat.le_refl _)
  obtain ⟨P, hP⟩ : ∃ P, P = l.take 200 := ⟨_, rfl⟩
  have hPl : P.length ≤ 200 := by rw [hP, List.length_take]; omega
  rw [show (200 : Int).toNat = 200 from rfl, ← hP] at hp1
  have hp1 := hp1.sl'.old
  clear hb hP hp0 hq0 hb0
  go_wp2_with (first | ((with_reducible apply wpList_unguard); rfl) | (with_reducible refine stop_make ?_) | ((with_reducible apply len_B); assumption) | ((with_reducible apply len_BB); assumption)  | ((with_reducible apply len_N); assumption) | ((with_reducible apply len_V); assumption) | ((with_reducible apply len_VV); assumption) | ((with_reducible apply len_I); assumption)  | (with_reducible refine stop_builtin ?_) | (with_reducible refine stop_slice ?_) | (with_reducible refine stop_index_B ?_) | (with_reducible refine stop_index_BB ?_)  | (with_reducible refine stop_index_N ?_) | (with_reducible refine stop_index_V ?_) | (with_reducible refine stop_index_VV ?_) | (with_reducible refine stop_index_I ?_)  | (with_reducible refine stop_str_B ?_) | (with_reducible refine stop_mark_B ?_) | (with_reducible refine stop_buildSlice ?_))
  refine (copy_any w1 _ P p1 hp1 (by omega)).mono ?_
  rintro e w2 ⟨c2, rfl, hc2, hb⟩
  have hb2 := below_on hb1 hb hb1.size
  have hq2 := hq1.below hb (Nat.le_refl _)
  have hp2 := hp1.below hb (Nat.le_refl _)
  have hs12 := hb.size
  clear hb hp1 hq1
  go_wp2_with (first | ((with_reducible apply wpList_unguard); rfl) | (with_reducible refine stop_make ?_) | ((with_reducible apply len_B); assumption) | ((with_reducible apply len_BB); assumption)  | ((with_reducible apply len_N); assumption) | ((with_reducible apply len_V); assumption) | ((with_reducible apply len_VV); assumption) | ((with_reducible apply len_I); assumption)  | (with_reducible refine stop_builtin ?_) | (with_reducible refine stop_slice ?_) | (with_reducible refine stop_index_B ?_) | (with_reducible refine stop_index_BB ?_)  | (with_reducible refine stop_index_N ?_) | (with_reducible refine stop_index_V ?_) | (with_reducible refine stop_index_VV ?_) | (with_reducible refine stop_index_I ?_)  | (with_reducible refine stop_str_B ?_) | (with_reducible refine stop_mark_B ?_) | (with_reducible refine stop_buildSlice ?_))
  refine Stop.go (build_B ([165] : List UInt8) [_] rfl rfl rfl (by simp) fun x3 w3 k1 k2 k3 k4 => ?_)
  have hb3 := hb2.grown k2 hb2.size (by simp)
  have hp3 := hp2.grown0 k2
  have hq3 := hq2.grown0 k2
  have hc3 := hc2.grown0 k2
  have hx3 := build_flat k1 k3
  clear k1 k2 k3 hp2 hq2 hc2 hb2
  go_wp2_with (first | ((with_reducible apply wpList_unguard); rfl) | (with_reducible refine stop_make ?_) | ((with_reducible apply len_B); assumption) | ((with_reducible apply len_BB); assumption)  | ((with_reducible apply len_N); assumption) | ((with_reducible apply len_V); assumption) | ((with_reducible apply len_VV); assumption) | ((with_reducible apply len_I); assumption)  | (with_reducible refine stop_builtin ?_) | (with_reducible refine stop_slice ?_) | (with_reducible refine stop_index_B ?_) | (with_reducible refine stop_index_BB ?_)  | (with_reducible refine stop_index_N ?_) | (with_reducible refine stop_index_V ?_) | (with_reducible refine stop_index_VV ?_) | (with_reducible refine stop_index_I ?_)  | (with_reducible refine stop_str_B ?_) | (with_reducible refine stop_mark_B ?_) | (with_reducible refine stop_buildSlice ?_))
  refine Stop.go (app_B (hc3 : OwnB w3 _ P c2) hx3 (by simp; omega) (by omega) fun v4 w4 g1 g2 g3 => ?_)
  have hb4 : Below w.heap.size w w4 := hb3.grown g2 hb3.size (fun k hk => by have := (hc3.ge k hk).1; have := hb1.size; omega)
  have hp4 := hp3.grown g2 (fun b hb e => by have := (hc3.ge b e).1; omega)
  have hq4 := hq3.grown g2 (fun b hb e => by have := (hc3.ge b e).1; have := hb1.size; omega)
  have hv4 : Sl w4 (· < w4.heap.size) (P ++ [165]) v4 := g1.sl'.old
  have hs34 := g2.size
  clear g1 g2 g3 hp3 hq3 hc3 hx3 hb3 hb1
  go_wp2_with (first | ((with_reducible apply wpList_unguard); rfl) | (with_reducible refine stop_make ?_) | ((with_reducible apply len_B); assumption) | ((with_reducible apply len_BB); assumption)  | ((with_reducible apply len_N); assumption) | ((with_reducible apply len_V); assumption) | ((with_reducible apply len_VV); assumption) | ((with_reducible apply len_I); assumption)  | (with_reducible refine stop_builtin ?_) | (with_reducible refine stop_slice ?_) | (with_reducible refine stop_index_B ?_) | (with_reducible refine stop_index_BB ?_)  | (with_reducible refine stop_index_N ?_) | (with_reducible refine stop_index_V ?_) | (with_reducible refine stop_index_VV ?_) | (with_reducible refine stop_index_I ?_)  | (with_reducible refine stop_str_B ?_) | (with_reducible refine stop_mark_B ?_) | (with_reducible refine stop_buildSlice ?_))
  refine Stop.go (wpList_slice_wide rowB hv4 rfl (by omega) (by simp; omega) fun q5 hq5 => ?_)
  rw [Int.toNat_natCast] at hq5
  have hq5s := hq5.sl
  rw [List.take_left] at hq5s
  go_wp2_with (first | ((with_reducible apply wpList_unguard); rfl) | (with_reducible refine stop_make ?_) | ((with_reducible apply len_B); assumption) | ((with_reducible apply len_BB); assumption)  | ((with_reducible apply len_N); assumption) | ((with_reducible apply len_V); assumption) | ((with_reducible apply len_VV); assumption) | ((with_reducible apply len_I); assumption)  | (with_reducible refine stop_builtin ?_) | (with_reducible refine stop_slice ?_) | (with_reducible refine stop_index_B ?_) | (with_reducible refine stop_index_BB ?_)  | (with_reducible refine stop_index_N ?_) | (with_reducible refine stop_index_V ?_) | (with_reducible refine stop_index_VV ?_) | (with_reducible refine stop_index_I ?_)  | (with_reducible refine stop_str_B ?_) | (with_reducible refine stop_mark_B ?_) | (with_reducible refine stop_buildSlice ?_))
  refine (new_any w4 _ P q5 hq5s (by omega)).mono ?_
  rintro e w6 ⟨r, rfl, hr, hR, hb⟩
  have hR := hR.old
  have hs46 := hb.size
  have hrl := hR.lt
  have hb46 := hb
  clear hb hv4 hq5s
  have hE0 : (0 : Int) = 0 := rfl
  have HB4 := Lib.hid hb4
  clear hb4
  have hp6 := hp4.below hb46 (Nat.le_refl _)
  have hq6 := hq4.below hb46 (Nat.le_refl _)
  go_wp2_with (first | ((with_reducible apply wpList_unguard); rfl) | (with_reducible refine stop_make ?_) | ((with_reducible apply len_B); assumption) | ((with_reducible apply len_BB); assumption)  | ((with_reducible apply len_N); assumption) | ((with_reducible apply len_V); assumption) | ((with_reducible apply len_VV); assumption) | ((with_reducible apply len_I); assumption)  | (with_reducible refine stop_builtin ?_) | (with_reducible refine stop_slice ?_) | (with_reducible refine stop_index_B ?_) | (with_reducible refine stop_index_BB ?_)  | (with_reducible refine stop_index_N ?_) | (with_reducible refine stop_index_V ?_) | (with_reducible refine stop_index_VV ?_) | (with_reducible refine stop_index_I ?_)  | (with_reducible refine stop_str_B ?_) | (with_reducible refine stop_mark_B ?_) | (with_reducible refine stop_buildSlice ?_))
  go_loopg [7, 8, 9, 10, 11, 12, 13, 14, 15, 16, 34] (its.length + 1) (fun k r7 b8 x9 x10 x11 x12 x13 x14 x15 x16 i wr => ∃ (j : Nat) (L : List UInt8) (E : Int), k = its.length - j + 1 ∧ j ≤ its.length ∧ i = .int .i64 j ∧ b8 = .int .i64 E ∧ Sl wr (· < w4.heap.size) L r7 ∧ Rd wr r (fun b => (w4.heap.size ≤ b ∧ b ≠ r) ∧ b < w6.heap.size) L E ∧ Below w4.heap.size w4 wr ∧ L.length ≤ 200)
  case atStart => exact ⟨0, P, 0, by omega, by omega, rfl, rfl, (hp4.wide fun b h1 h2 => by omega).below hb46 (Nat.le_refl _), hR, hb46, by omega⟩
  case round =>
    obtain ⟨j, L, E, hk, hj, rfl, rfl, hrest, hRd, hbr, hLl⟩ := hrel
    have Hk := Lib.hid hk
    clear hk hE0 hR hp6 hq6
    have hitr := hq4.below hbr (Nat.le_refl _)
    have hrlt := hRd.lt
    have hsr := hbr.size
    by_cases hlt : j < its.length
    · go_wp2_with (first | ((with_reducible apply wpList_unguard); rfl) | (with_reducible refine stop_make ?_) | ((with_reducible apply len_B); assumption) | ((with_reducible apply len_BB); assumption)  | ((with_reducible apply len_N); assumption) | ((with_reducible apply len_V); assumption) | ((with_reducible apply len_VV); assumption) | ((with_reducible apply len_I); assumption)  | (with_reducible refine stop_builtin ?_) | (with_reducible refine stop_slice ?_) | (with_reducible refine stop_index_B ?_) | (with_reducible refine stop_index_BB ?_)  | (with_reducible refine stop_index_N ?_) | (with_reducible refine stop_index_V ?_) | (with_reducible refine stop_index_VV ?_) | (with_reducible refine stop_index_I ?_)  | (with_reducible refine stop_str_B ?_) | (with_reducible refine stop_mark_B ?_) | (with_reducible refine stop_buildSlice ?_))
      refine Stop.go (idx_I hitr rfl (by omega) (by omega) fun b5 o5 y vn vt vv hy s1 s2 s3 m1 m2 c0 c1 c2 c3 c4 => ?_)
      obtain ⟨an, nn, cn, rfl⟩ := Sl.shape s1
      obtain ⟨at', nt, ct, rfl⟩ := Sl.shape s2
      obtain ⟨av, nv, cv, rfl⟩ := Sl.shape s3
      have hyd := y.d.toNat_lt
      obtain ⟨d, hd⟩ : ∃ d, d = y.d.toNat := ⟨_, rfl⟩
      obtain ⟨m, hm⟩ : ∃ m, m = y.m := ⟨_, rfl⟩
      rw [← hd] at c0 hyd
      rw [← hm] at c4 m1 m2
      clear hy s1 s2 s3 hd hm
      have hal := (Below.refl wr.heap.size wr).alloc (Nat.le_refl _) (.cells #[.int .u8 (d : Int), .slice an nn cn, .slice at' nt ct, .slice av nv cv, .int .i64 m] 36)
      have hIx : It (wr.alloc (.cells #[.int .u8 (d : Int), .slice an nn cn, .slice at' nt ct, .slice av nv cv, .int .i64 m] 36)) wr.heap.size d (.slice an nn cn) (.slice at' nt ct) (.slice av nv cv) m := heap_alloc_new wr _
      have hszx := halloc_size wr (.cells #[.int .u8 (d : Int), .slice an nn cn, .slice at' nt ct, .slice av nv cv, .int .i64 m] 36)
      have hbx := below_on hbr hal hsr
      have hrestx := hrest.below hal (Nat.le_refl _)
      have hRx := hRd.only (Only.of_below hal) (by omega) (by rintro b _ h; omega)
      by_cases hj30 : j < 30
      · have hk0 : ∀ t : Int, t = 0 ∨ t = 1 ∨ t = 2 ∨ True := fun _ => .inr (.inr (.inr trivial))
        clear hk0
        rcases (show d % 3 = 0 ∨ d % 3 = 1 ∨ d % 3 = 2 by omega) with h3 | h3 | h3
        · have hk0 : ((d : Int) % 3 == 0) = true := by simp; omega
          have hk1 : ((d : Int) % 3 == 1) = false := by simp; omega
          obtain ⟨M, hM, hMl⟩ : ∃ M : Nat, (M : Int) = IntKind.u64.wrap m ∧ M < 18446744073709551616 := ⟨(m % 18446744073709551616).toNat, by rw [IntKind.wrap_u64]; omega, by omega⟩
          have HM := Lib.hid hM
          clear hM
          by_cases hE : E = 0
          · subst hE
            go_wp2_with (first | ((with_reducible apply wpList_unguard); rfl) | (with_reducible refine stop_make ?_) | ((with_reducible apply len_B); assumption) | ((with_reducible apply len_BB); assumption)  | ((with_reducible apply len_N); assumption) | ((with_reducible apply len_V); assumption) | ((with_reducible apply len_VV); assumption) | ((with_reducible apply len_I); assumption)  | (with_reducible refine stop_builtin ?_) | (with_reducible refine stop_slice ?_) | (with_reducible refine stop_index_B ?_) | (with_reducible refine stop_index_BB ?_)  | (with_reducible refine stop_index_N ?_) | (with_reducible refine stop_index_V ?_) | (with_reducible refine stop_index_VV ?_) | (with_reducible refine stop_index_I ?_)  | (with_reducible refine stop_str_B ?_) | (with_reducible refine stop_mark_B ?_) | (with_reducible refine stop_buildSlice ?_))
            obtain ⟨wx, hwx⟩ : ∃ wx, wx = wr.alloc (.cells #[.int .u8 (d : Int), .slice an nn cn, .slice at' nt ct, .slice av nv cv, .int .i64 m] 36) := ⟨_, rfl⟩
            rw [← hwx] at hbx hrestx hRx hIx hszx ⊢
            clear hwx hal c0 c1 c2 c3 c4 hrest hRd hbr hitr
            obtain ⟨bx, hbxe⟩ : ∃ b, b = wr.heap.size := ⟨_, rfl⟩
            rw [← hbxe] at hIx hszx ⊢
            clear hbxe
            have hsx := hbx.size
            obtain ⟨c0, c1, c2, c3, c4⟩ := hIx.cells
            have HEQ := rn_eq L M
            have hTlen := taken_len L M
            rw [← HM.out]
            refine (take02_any wx _ L _ M hrestx).mono ?_
            obtain ⟨T, hT⟩ : ∃ T, T = taken L M := ⟨_, rfl⟩
            rw [← hT] at HEQ hTlen ⊢
            have hTb : T.2.2 ≠ 0 → T.1 = 0 := by rw [hT]; exact taken_bad L M
            rintro e wy ⟨u, rfl, hu, nq, hwy⟩
            have hby : Below wx.heap.size wx wy := by rw [hwy]; exact below_draws _ _ _
            have huy : Sl wy (· < w4.heap.size) T.2.1 u := by rw [hwy]; exact hu.drewN nq
            clear hwy hu hT
            have hrx := hRx.lt
            have hRy := hRx.only (Only.of_below hby) (by omega) (by rintro b _ h; omega)
            have hresty := hrestx.below hby (Nat.le_refl _)
            have hby4 := below_on hbx hby (by omega)
            have hIy := hIx.only (Only.of_below hby) (by have := hIx.lt; omega)
            have hsy := hby.size
            clear hRx hrestx hbx hIx c0 c1 c2 c3 c4
            obtain ⟨c0, c1, c2, c3, c4⟩ := hIy.cells
            by_cases hE2 : T.2.2 = 0
            · rw [if_pos hE2] at HEQ
              have hEb : (T.2.2 != 0) = false := by simp [hE2]
              have hEc : (T.2.2 == 0) = true := by simp [hE2]
              go_wp2_with (first | ((with_reducible apply wpList_unguard); rfl) | (with_reducible refine stop_make ?_) | ((with_reducible apply len_B); assumption) | ((with_reducible apply len_BB); assumption)  | ((with_reducible apply len_N); assumption) | ((with_reducible apply len_V); assumption) | ((with_reducible apply len_VV); assumption) | ((with_reducible apply len_I); assumption)  | (with_reducible refine stop_builtin ?_) | (with_reducible refine stop_slice ?_) | (with_reducible refine stop_index_B ?_) | (with_reducible refine stop_index_BB ?_)  | (with_reducible refine stop_index_N ?_) | (with_reducible refine stop_index_V ?_) | (with_reducible refine stop_index_VV ?_) | (with_reducible refine stop_index_I ?_)  | (with_reducible refine stop_str_B ?_) | (with_reducible refine stop_mark_B ?_) | (with_reducible refine stop_buildSlice ?_))
              rw [← HM.out]
              refine (num_any' wy r _ L 0 M hRy).mono ?_
              rw [HEQ.1, HEQ.2.1, HEQ.2.2]
              rintro e wz ⟨rfl, hRz, ho⟩
              have hrestz := hresty.only ho (by rintro b hb _ rfl; exact absurd hb (by omega))
              have huz := huy.only ho (by rintro b hb _ rfl; exact absurd hb (by omega))
              have hbz := hby4.trans (ho.below (B := w4.heap.size) (by omega) (by rintro k rfl; exact hr))
              have hsz := ho.size
              clear ho hRy hresty huy hby4
              have huz' := huz
              go_wp2_with (first | ((with_reducible apply wpList_unguard); rfl) | (with_reducible refine stop_make ?_) | ((with_reducible apply len_B); assumption) | ((with_reducible apply len_BB); assumption)  | ((with_reducible apply len_N); assumption) | ((with_reducible apply len_V); assumption) | ((with_reducible apply len_VV); assumption) | ((with_reducible apply len_I); assumption)  | (with_reducible refine stop_builtin ?_) | (with_reducible refine stop_slice ?_) | (with_reducible refine stop_index_B ?_) | (with_reducible refine stop_index_BB ?_)  | (with_reducible refine stop_index_N ?_) | (with_reducible refine stop_index_V ?_) | (with_reducible refine stop_index_VV ?_) | (with_reducible refine stop_index_I ?_)  | (with_reducible refine stop_str_B ?_) | (with_reducible refine stop_mark_B ?_) | (with_reducible refine stop_buildSlice ?_))
              refine (left_any wz r _ _ _ hRz).mono ?_
              rintro e w' ⟨rfl, rfl⟩
              go_wp2_with (first | ((with_reducible apply wpList_unguard); rfl) | (with_reducible refine stop_make ?_) | ((with_reducible apply len_B); assumption) | ((with_reducible apply len_BB); assumption)  | ((with_reducible apply len_N); assumption) | ((with_reducible apply len_V); assumption) | ((with_reducible apply len_VV); assumption) | ((with_reducible apply len_I); assumption)  | (with_reducible refine stop_builtin ?_) | (with_reducible refine stop_slice ?_) | (with_reducible refine stop_index_B ?_) | (with_reducible refine stop_index_BB ?_)  | (with_reducible refine stop_index_N ?_) | (with_reducible refine stop_index_V ?_) | (with_reducible refine stop_index_VV ?_) | (with_reducible refine stop_index_I ?_)  | (with_reducible refine stop_str_B ?_) | (with_reducible refine stop_mark_B ?_) | (with_reducible refine stop_buildSlice ?_))
              go_roundg (its.length - (j + 1) + 1)
              case measure => have := Hk.out; omega
              case rel => exact ⟨j + 1, T.2.1, T.2.2, by omega, by omega, by go_num, by rw [hE2], huz', hRz, hbz, by omega⟩
            · rw [if_neg hE2] at HEQ
              have hEb : (T.2.2 != 0) = true := by simpa using hE2
              have hEc : (T.2.2 == 0) = false := beq_eq_false_iff_ne.2 hE2
              have hT0 := hTb hE2
              rw [hT0] at HEQ
              go_wp2_with (first | ((with_reducible apply wpList_unguard); rfl) | (with_reducible refine stop_make ?_) | ((with_reducible apply len_B); assumption) | ((with_reducible apply len_BB); assumption)  | ((with_reducible apply len_N); assumption) | ((with_reducible apply len_V); assumption) | ((with_reducible apply len_VV); assumption) | ((with_reducible apply len_I); assumption)  | (with_reducible refine stop_builtin ?_) | (with_reducible refine stop_slice ?_) | (with_reducible refine stop_index_B ?_) | (with_reducible refine stop_index_BB ?_)  | (with_reducible refine stop_index_N ?_) | (with_reducible refine stop_index_V ?_) | (with_reducible refine stop_index_VV ?_) | (with_reducible refine stop_index_I ?_)  | (with_reducible refine stop_str_B ?_) | (with_reducible refine stop_mark_B ?_) | (with_reducible refine stop_buildSlice ?_))
              rw [← HM.out]
              refine (num_any' wy r _ L 0 M hRy).mono ?_
              rw [HEQ.1, HEQ.2.1, HEQ.2.2]
              rintro e wz ⟨rfl, hRz, ho⟩
              have hrestz := hresty.only ho (by rintro b hb _ rfl; exact absurd hb (by omega))
              have huz := huy.only ho (by rintro b hb _ rfl; exact absurd hb (by omega))
              have hbz := hby4.trans (ho.below (B := w4.heap.size) (by omega) (by rintro k rfl; exact hr))
              have hsz := ho.size
              clear ho hRy hresty huy hby4
              go_wp2_with (first | ((with_reducible apply wpList_unguard); rfl) | (with_reducible refine stop_make ?_) | ((with_reducible apply len_B); assumption) | ((with_reducible apply len_BB); assumption)  | ((with_reducible apply len_N); assumption) | ((with_reducible apply len_V); assumption) | ((with_reducible apply len_VV); assumption) | ((with_reducible apply len_I); assumption)  | (with_reducible refine stop_builtin ?_) | (with_reducible refine stop_slice ?_) | (with_reducible refine stop_index_B ?_) | (with_reducible refine stop_index_BB ?_)  | (with_reducible refine stop_index_N ?_) | (with_reducible refine stop_index_V ?_) | (with_reducible refine stop_index_VV ?_) | (with_reducible refine stop_index_I ?_)  | (with_reducible refine stop_str_B ?_) | (with_reducible refine stop_mark_B ?_) | (with_reducible refine stop_buildSlice ?_))
              refine (left_any wz r _ _ _ hRz).mono ?_
              rintro e w' ⟨rfl, rfl⟩
              go_wp2_with (first | ((with_reducible apply wpList_unguard); rfl) | (with_reducible refine stop_make ?_) | ((with_reducible apply len_B); assumption) | ((with_reducible apply len_BB); assumption)  | ((with_reducible apply len_N); assumption) | ((with_reducible apply len_V); assumption) | ((with_reducible apply len_VV); assumption) | ((with_reducible apply len_I); assumption)  | (with_reducible refine stop_builtin ?_) | (with_reducible refine stop_slice ?_) | (with_reducible refine stop_index_B ?_) | (with_reducible refine stop_index_BB ?_)  | (with_reducible refine stop_index_N ?_) | (with_reducible refine stop_index_V ?_) | (with_reducible refine stop_index_VV ?_) | (with_reducible refine stop_index_I ?_)  | (with_reducible refine stop_str_B ?_) | (with_reducible refine stop_mark_B ?_) | (with_reducible refine stop_buildSlice ?_))
              go_roundg (its.length - (j + 1) + 1)
              case measure => have := Hk.out; omega
              case rel => exact ⟨j + 1, L, T.2.2, by omega, by omega, by go_num, rfl, hrestz, hRz, hbz, by omega⟩
          · have hEb : (E == 0) = false := beq_eq_false_iff_ne.2 hE
            go_wp2_with (first | ((with_reducible apply wpList_unguard); rfl) | (with_reducible refine stop_make ?_) | ((with_reducible apply len_B); assumption) | ((with_reducible apply len_BB); assumption)  | ((with_reducible apply len_N); assumption) | ((with_reducible apply len_V); assumption) | ((with_reducible apply len_VV); assumption) | ((with_reducible apply len_I); assumption)  | (with_reducible refine stop_builtin ?_) | (with_reducible refine stop_slice ?_) | (with_reducible refine stop_index_B ?_) | (with_reducible refine stop_index_BB ?_)  | (with_reducible refine stop_index_N ?_) | (with_reducible refine stop_index_V ?_) | (with_reducible refine stop_index_VV ?_) | (with_reducible refine stop_index_I ?_)  | (with_reducible refine stop_str_B ?_) | (with_reducible refine stop_mark_B ?_) | (with_reducible refine stop_buildSlice ?_))
            obtain ⟨wx, hwx⟩ : ∃ wx, wx = wr.alloc (.cells #[.int .u8 (d : Int), .slice an nn cn, .slice at' nt ct, .slice av nv cv, .int .i64 m] 36) := ⟨_, rfl⟩
            rw [← hwx] at hbx hrestx hRx hIx hszx ⊢
            clear hwx hal c0 c1 c2 c3 c4 hrest hRd hbr hitr
            obtain ⟨bx, hbxe⟩ : ∃ b, b = wr.heap.size := ⟨_, rfl⟩
            rw [← hbxe] at hIx hszx ⊢
            clear hbxe
            have hsx := hbx.size
            obtain ⟨c0, c1, c2, c3, c4⟩ := hIx.cells
            rw [← HM.out]
            refine (num_any' wx r _ L E M hRx).mono ?_
            rw [show rnum L E M = (0, L, E) by unfold rnum; rw [if_pos hE]]
            rintro e wz ⟨rfl, hRz, ho⟩
            have hrestz := hrestx.only ho (by rintro b hb _ rfl; exact absurd hb (by omega))
            have hbz := hbx.trans (ho.below (B := w4.heap.size) (by omega) (by rintro k rfl; exact hr))
            have hsz := ho.size
            clear ho hRx hrestx hbx
            go_wp2_with (first | ((with_reducible apply wpList_unguard); rfl) | (with_reducible refine stop_make ?_) | ((with_reducible apply len_B); assumption) | ((with_reducible apply len_BB); assumption)  | ((with_reducible apply len_N); assumption) | ((with_reducible apply len_V); assumption) | ((with_reducible apply len_VV); assumption) | ((with_reducible apply len_I); assumption)  | (with_reducible refine stop_builtin ?_) | (with_reducible refine stop_slice ?_) | (with_reducible refine stop_index_B ?_) | (with_reducible refine stop_index_BB ?_)  | (with_reducible refine stop_index_N ?_) | (with_reducible refine stop_index_V ?_) | (with_reducible refine stop_index_VV ?_) | (with_reducible refine stop_index_I ?_)  | (with_reducible refine stop_str_B ?_) | (with_reducible refine stop_mark_B ?_) | (with_reducible refine stop_buildSlice ?_))
            refine (left_any wz r _ _ _ hRz).mono ?_
            rintro e w' ⟨rfl, rfl⟩
            go_wp2_with (first | ((with_reducible apply wpList_unguard); rfl) | (with_reducible refine stop_make ?_) | ((with_reducible apply len_B); assumption) | ((with_reducible apply len_BB); assumption)  | ((with_reducible apply len_N); assumption) | ((with_reducible apply len_V); assumption) | ((with_reducible apply len_VV); assumption) | ((with_reducible apply len_I); assumption)  | (with_reducible refine stop_builtin ?_) | (with_reducible refine stop_slice ?_) | (with_reducible refine stop_index_B ?_) | (with_reducible refine stop_index_BB ?_)  | (with_reducible refine stop_index_N ?_) | (with_reducible refine stop_index_V ?_) | (with_reducible refine stop_index_VV ?_) | (with_reducible refine stop_index_I ?_)  | (with_reducible refine stop_str_B ?_) | (with_reducible refine stop_mark_B ?_) | (with_reducible refine stop_buildSlice ?_))
            go_roundg (its.length - (j + 1) + 1)
            case measure => have := Hk.out; omega
            case rel => exact ⟨j + 1, L, E, by omega, by omega, by go_num, rfl, hrestz, hRz, hbz, by omega⟩
        · have hk0 : ((d : Int) % 3 == 0) = false := by simp; omega
          have hk1 : ((d : Int) % 3 == 1) = true := by simp; omega
          obtain ⟨M, hM⟩ : ∃ M, M = m.toNat := ⟨_, rfl⟩
          have HM := Lib.hid hM
          clear hM
          by_cases hE : E = 0
          · subst hE
            go_wp2_with (first | ((with_reducible apply wpList_unguard); rfl) | (with_reducible refine stop_make ?_) | ((with_reducible apply len_B); assumption) | ((with_reducible apply len_BB); assumption)  | ((with_reducible apply len_N); assumption) | ((with_reducible apply len_V); assumption) | ((with_reducible apply len_VV); assumption) | ((with_reducible apply len_I); assumption)  | (with_reducible refine stop_builtin ?_) | (with_reducible refine stop_slice ?_) | (with_reducible refine stop_index_B ?_) | (with_reducible refine stop_index_BB ?_)  | (with_reducible refine stop_index_N ?_) | (with_reducible refine stop_index_V ?_) | (with_reducible refine stop_index_VV ?_) | (with_reducible refine stop_index_I ?_)  | (with_reducible refine stop_str_B ?_) | (with_reducible refine stop_mark_B ?_) | (with_reducible refine stop_buildSlice ?_))
            obtain ⟨wx, hwx⟩ : ∃ wx, wx = wr.alloc (.cells #[.int .u8 (d : Int), .slice an nn cn, .slice at' nt ct, .slice av nv cv, .int .i64 m] 36) := ⟨_, rfl⟩
            rw [← hwx] at hbx hrestx hRx hIx hszx ⊢
            clear hwx hal c0 c1 c2 c3 c4 hrest hRd hbr hitr
            obtain ⟨bx, hbxe⟩ : ∃ b, b = wr.heap.size := ⟨_, rfl⟩
            rw [← hbxe] at hIx hszx ⊢
            clear hbxe
            have hsx := hbx.size
            obtain ⟨c0, c1, c2, c3, c4⟩ := hIx.cells
            have HEQ := rt_eq L M
            have hTlen := ttext_len L M
            refine (ttext_any wx _ L _ m hrestx m2 (by omega)).mono ?_
            rw [← HM.out]
            obtain ⟨T, hT⟩ : ∃ T, T = ttext L M := ⟨_, rfl⟩
            rw [← hT] at HEQ hTlen ⊢
            rintro e wy ⟨t, u, rfl, ht, hu, hby⟩
            have huy : Sl wy (· < w4.heap.size) T.2.1 u := hu.wide fun b h _ => h.1
            clear hu hT
            have hrx := hRx.lt
            have hRy := hRx.only (Only.of_below hby) (by omega) (by rintro b _ h; omega)
            have hresty := hrestx.below hby (Nat.le_refl _)
            have hby4 := below_on hbx hby (by omega)
            have hIy := hIx.only (Only.of_below hby) (by have := hIx.lt; omega)
            have hsy := hby.size
            clear hRx hrestx hbx hIx c0 c1 c2 c3 c4
            obtain ⟨c0, c1, c2, c3, c4⟩ := hIy.cells
            by_cases hE2 : T.2.2 = 0
            · rw [if_pos hE2] at HEQ
              have hEb : (T.2.2 != 0) = false := by simp [hE2]
              have hEc : (T.2.2 == 0) = true := by simp [hE2]
              go_wp2_with (first | ((with_reducible apply wpList_unguard); rfl) | (with_reducible refine stop_make ?_) | ((with_reducible apply len_B); assumption) | ((with_reducible apply len_BB); assumption)  | ((with_reducible apply len_N); assumption) | ((with_reducible apply len_V); assumption) | ((with_reducible apply len_VV); assumption) | ((with_reducible apply len_I); assumption)  | (with_reducible refine stop_builtin ?_) | (with_reducible refine stop_slice ?_) | (with_reducible refine stop_index_B ?_) | (with_reducible refine stop_index_BB ?_)  | (with_reducible refine stop_index_N ?_) | (with_reducible refine stop_index_V ?_) | (with_reducible refine stop_index_VV ?_) | (with_reducible refine stop_index_I ?_)  | (with_reducible refine stop_str_B ?_) | (with_reducible refine stop_mark_B ?_) | (with_reducible refine stop_buildSlice ?_))
              refine (text_any wy r _ L 0 m hRy (by omega) (by omega)).mono ?_
              rw [← HM.out, HEQ.1, HEQ.2.1, HEQ.2.2]
              rintro e wz ⟨v, rfl, hv, hRz, ho⟩
              have hrestz := hresty.only ho (by rintro b hb _ rfl; exact absurd hb (by omega))
              have huz := huy.only ho (by rintro b hb _ rfl; exact absurd hb (by omega))
              have hbz := hby4.trans (ho.below (B := w4.heap.size) (by omega) (by rintro k rfl; exact hr))
              have hsz := ho.size
              have htz := (ht.only ho (fun b hb (e : b = r) => by have := (ht.ge b hb).1; omega)).sl'
              clear ho hRy hresty huy hby4 ht
              go_wp2_with (first | ((with_reducible apply wpList_unguard); rfl) | (with_reducible refine stop_make ?_) | ((with_reducible apply len_B); assumption) | ((with_reducible apply len_BB); assumption)  | ((with_reducible apply len_N); assumption) | ((with_reducible apply len_V); assumption) | ((with_reducible apply len_VV); assumption) | ((with_reducible apply len_I); assumption)  | (with_reducible refine stop_builtin ?_) | (with_reducible refine stop_slice ?_) | (with_reducible refine stop_index_B ?_) | (with_reducible refine stop_index_BB ?_)  | (with_reducible refine stop_index_N ?_) | (with_reducible refine stop_index_V ?_) | (with_reducible refine stop_index_VV ?_) | (with_reducible refine stop_index_I ?_)  | (with_reducible refine stop_str_B ?_) | (with_reducible refine stop_mark_B ?_) | (with_reducible refine stop_buildSlice ?_))
              refine (same_any wz _ _ _ _ v t hv.sl' htz).mono ?_
              rintro e w' ⟨rfl, rfl⟩
              rw [beq_self_eq_true]
              have huz' := huz
              go_wp2_with (first | ((with_reducible apply wpList_unguard); rfl) | (with_reducible refine stop_make ?_) | ((with_reducible apply len_B); assumption) | ((with_reducible apply len_BB); assumption)  | ((with_reducible apply len_N); assumption) | ((with_reducible apply len_V); assumption) | ((with_reducible apply len_VV); assumption) | ((with_reducible apply len_I); assumption)  | (with_reducible refine stop_builtin ?_) | (with_reducible refine stop_slice ?_) | (with_reducible refine stop_index_B ?_) | (with_reducible refine stop_index_BB ?_)  | (with_reducible refine stop_index_N ?_) | (with_reducible refine stop_index_V ?_) | (with_reducible refine stop_index_VV ?_) | (with_reducible refine stop_index_I ?_)  | (with_reducible refine stop_str_B ?_) | (with_reducible refine stop_mark_B ?_) | (with_reducible refine stop_buildSlice ?_))
              refine (left_any wz r _ _ _ hRz).mono ?_
              rintro e w' ⟨rfl, rfl⟩
              go_wp2_with (first | ((with_reducible apply wpList_unguard); rfl) | (with_reducible refine stop_make ?_) | ((with_reducible apply len_B); assumption) | ((with_reducible apply len_BB); assumption)  | ((with_reducible apply len_N); assumption) | ((with_reducible apply len_V); assumption) | ((with_reducible apply len_VV); assumption) | ((with_reducible apply len_I); assumption)  | (with_reducible refine stop_builtin ?_) | (with_reducible refine stop_slice ?_) | (with_reducible refine stop_index_B ?_) | (with_reducible refine stop_index_BB ?_)  | (with_reducible refine stop_index_N ?_) | (with_reducible refine stop_index_V ?_) | (with_reducible refine stop_index_VV ?_) | (with_reducible refine stop_index_I ?_)  | (with_reducible refine stop_str_B ?_) | (with_reducible refine stop_mark_B ?_) | (with_reducible refine stop_buildSlice ?_))
              go_roundg (its.length - (j + 1) + 1)
              case measure => have := Hk.out; omega
              case rel => exact ⟨j + 1, T.2.1, T.2.2, by omega, by omega, by go_num, by rw [hE2], huz', hRz, hbz, by omega⟩
            · rw [if_neg hE2] at HEQ
              have hEb : (T.2.2 != 0) = true := by simpa using hE2
              have hEc : (T.2.2 == 0) = false := beq_eq_false_iff_ne.2 hE2
              go_wp2_with (first | ((with_reducible apply wpList_unguard); rfl) | (with_reducible refine stop_make ?_) | ((with_reducible apply len_B); assumption) | ((with_reducible apply len_BB); assumption)  | ((with_reducible apply len_N); assumption) | ((with_reducible apply len_V); assumption) | ((with_reducible apply len_VV); assumption) | ((with_reducible apply len_I); assumption)  | (with_reducible refine stop_builtin ?_) | (with_reducible refine stop_slice ?_) | (with_reducible refine stop_index_B ?_) | (with_reducible refine stop_index_BB ?_)  | (with_reducible refine stop_index_N ?_) | (with_reducible refine stop_index_V ?_) | (with_reducible refine stop_index_VV ?_) | (with_reducible refine stop_index_I ?_)  | (with_reducible refine stop_str_B ?_) | (with_reducible refine stop_mark_B ?_) | (with_reducible refine stop_buildSlice ?_))
              refine (text_any wy r _ L 0 m hRy (by omega) (by omega)).mono ?_
              rw [← HM.out, HEQ.1, HEQ.2.1, HEQ.2.2]
              rintro e wz ⟨v, rfl, hv, hRz, ho⟩
              have hrestz := hresty.only ho (by rintro b hb _ rfl; exact absurd hb (by omega))
              have huz := huy.only ho (by rintro b hb _ rfl; exact absurd hb (by omega))
              have hbz := hby4.trans (ho.below (B := w4.heap.size) (by omega) (by rintro k rfl; exact hr))
              have hsz := ho.size
              have htz := (ht.only ho (fun b hb (e : b = r) => by have := (ht.ge b hb).1; omega)).sl'
              clear ho hRy hresty huy hby4 ht
              go_wp2_with (first | ((with_reducible apply wpList_unguard); rfl) | (with_reducible refine stop_make ?_) | ((with_reducible apply len_B); assumption) | ((with_reducible apply len_BB); assumption)  | ((with_reducible apply len_N); assumption) | ((with_reducible apply len_V); assumption) | ((with_reducible apply len_VV); assumption) | ((with_reducible apply len_I); assumption)  | (with_reducible refine stop_builtin ?_) | (with_reducible refine stop_slice ?_) | (with_reducible refine stop_index_B ?_) | (with_reducible refine stop_index_BB ?_)  | (with_reducible refine stop_index_N ?_) | (with_reducible refine stop_index_V ?_) | (with_reducible refine stop_index_VV ?_) | (with_reducible refine stop_index_I ?_)  | (with_reducible refine stop_str_B ?_) | (with_reducible refine stop_mark_B ?_) | (with_reducible refine stop_buildSlice ?_))
              refine (same_any wz _ _ _ _ v t hv.sl' htz).mono ?_
              rintro e w' ⟨rfl, rfl⟩
              rw [beq_self_eq_true]
              go_wp2_with (first | ((with_reducible apply wpList_unguard); rfl) | (with_reducible refine stop_make ?_) | ((with_reducible apply len_B); assumption) | ((with_reducible apply len_BB); assumption)  | ((with_reducible apply len_N); assumption) | ((with_reducible apply len_V); assumption) | ((with_reducible apply len_VV); assumption) | ((with_reducible apply len_I); assumption)  | (with_reducible refine stop_builtin ?_) | (with_reducible refine stop_slice ?_) | (with_reducible refine stop_index_B ?_) | (with_reducible refine stop_index_BB ?_)  | (with_reducible refine stop_index_N ?_) | (with_reducible refine stop_index_V ?_) | (with_reducible refine stop_index_VV ?_) | (with_reducible refine stop_index_I ?_)  | (with_reducible refine stop_str_B ?_) | (with_reducible refine stop_mark_B ?_) | (with_reducible refine stop_buildSlice ?_))
              refine (left_any wz r _ _ _ hRz).mono ?_
              rintro e w' ⟨rfl, rfl⟩
              go_wp2_with (first | ((with_reducible apply wpList_unguard); rfl) | (with_reducible refine stop_make ?_) | ((with_reducible apply len_B); assumption) | ((with_reducible apply len_BB); assumption)  | ((with_reducible apply len_N); assumption) | ((with_reducible apply len_V); assumption) | ((with_reducible apply len_VV); assumption) | ((with_reducible apply len_I); assumption)  | (with_reducible refine stop_builtin ?_) | (with_reducible refine stop_slice ?_) | (with_reducible refine stop_index_B ?_) | (with_reducible refine stop_index_BB ?_)  | (with_reducible refine stop_index_N ?_) | (with_reducible refine stop_index_V ?_) | (with_reducible refine stop_index_VV ?_) | (with_reducible refine stop_index_I ?_)  | (with_reducible refine stop_str_B ?_) | (with_reducible refine stop_mark_B ?_) | (with_reducible refine stop_buildSlice ?_))
              go_roundg (its.length - (j + 1) + 1)
              case measure => have := Hk.out; omega
              case rel => exact ⟨j + 1, L, T.2.2, by omega, by omega, by go_num, rfl, hrestz, hRz, hbz, by omega⟩
          · have hEb : (E == 0) = false := beq_eq_false_iff_ne.2 hE
            go_wp2_with (first | ((with_reducible apply wpList_unguard); rfl) | (with_reducible refine stop_make ?_) | ((with_reducible apply len_B); assumption) | ((with_reducible apply len_BB); assumption)  | ((with_reducible apply len_N); assumption) | ((with_reducible apply len_V); assumption) | ((with_reducible apply len_VV); assumption) | ((with_reducible apply len_I); assumption)  | (with_reducible refine stop_builtin ?_) | (with_reducible refine stop_slice ?_) | (with_reducible refine stop_index_B ?_) | (with_reducible refine stop_index_BB ?_)  | (with_reducible refine stop_index_N ?_) | (with_reducible refine stop_index_V ?_) | (with_reducible refine stop_index_VV ?_) | (with_reducible refine stop_index_I ?_)  | (with_reducible refine stop_str_B ?_) | (with_reducible refine stop_mark_B ?_) | (with_reducible refine stop_buildSlice ?_))
            obtain ⟨wx, hwx⟩ : ∃ wx, wx = wr.alloc (.cells #[.int .u8 (d : Int), .slice an nn cn, .slice at' nt ct, .slice av nv cv, .int .i64 m] 36) := ⟨_, rfl⟩
            rw [← hwx] at hbx hrestx hRx hIx hszx ⊢
            clear hwx hal c0 c1 c2 c3 c4 hrest hRd hbr hitr
            obtain ⟨bx, hbxe⟩ : ∃ b, b = wr.heap.size := ⟨_, rfl⟩
            rw [← hbxe] at hIx hszx ⊢
            clear hbxe
            have hsx := hbx.size
            obtain ⟨c0, c1, c2, c3, c4⟩ := hIx.cells
            refine (text_any wx r _ L E m hRx (by omega) (by omega)).mono ?_
            rw [← HM.out, show rtext L E M = ([], L, E) by unfold rtext; rw [if_pos hE]]
            rintro e wz ⟨v, rfl, hv, hRz, ho⟩
            have hrestz := hrestx.only ho (by rintro b hb _ rfl; exact absurd hb (by omega))
            have hbz := hbx.trans (ho.below (B := w4.heap.size) (by omega) (by rintro k rfl; exact hr))
            have hsz := ho.size
            clear ho hRx hrestx hbx
            go_wp2_with (first | ((with_reducible apply wpList_unguard); rfl) | (with_reducible refine stop_make ?_) | ((with_reducible apply len_B); assumption) | ((with_reducible apply len_BB); assumption)  | ((with_reducible apply len_N); assumption) | ((with_reducible apply len_V); assumption) | ((with_reducible apply len_VV); assumption) | ((with_reducible apply len_I); assumption)  | (with_reducible refine stop_builtin ?_) | (with_reducible refine stop_slice ?_) | (with_reducible refine stop_index_B ?_) | (with_reducible refine stop_index_BB ?_)  | (with_reducible refine stop_index_N ?_) | (with_reducible refine stop_index_V ?_) | (with_reducible refine stop_index_VV ?_) | (with_reducible refine stop_index_I ?_)  | (with_reducible refine stop_str_B ?_) | (with_reducible refine stop_mark_B ?_) | (with_reducible refine stop_buildSlice ?_))
            refine (same_any wz _ (fun _ => False) _ [] v _ hv.sl' (Sl.nil _ _)).mono ?_
            rintro e w' ⟨rfl, rfl⟩
            rw [beq_self_eq_true]
            go_wp2_with (first | ((with_reducible apply wpList_unguard); rfl) | (with_reducible refine stop_make ?_) | ((with_reducible apply len_B); assumption) | ((with_reducible apply len_BB); assumption)  | ((with_reducible apply len_N); assumption) | ((with_reducible apply len_V); assumption) | ((with_reducible apply len_VV); assumption) | ((with_reducible apply len_I); assumption)  | (with_reducible refine stop_builtin ?_) | (with_reducible refine stop_slice ?_) | (with_reducible refine stop_index_B ?_) | (with_reducible refine stop_index_BB ?_)  | (with_reducible refine stop_index_N ?_) | (with_reducible refine stop_index_V ?_) | (with_reducible refine stop_index_VV ?_) | (with_reducible refine stop_index_I ?_)  | (with_reducible refine stop_str_B ?_) | (with_reducible refine stop_mark_B ?_) | (with_reducible refine stop_buildSlice ?_))
            refine (left_any wz r _ _ _ hRz).mono ?_
            rintro e w' ⟨rfl, rfl⟩
            go_wp2_with (first | ((with_reducible apply wpList_unguard); rfl) | (with_reducible refine stop_make ?_) | ((with_reducible apply len_B); assumption) | ((with_reducible apply len_BB); assumption)  | ((with_reducible apply len_N); assumption) | ((with_reducible apply len_V); assumption) | ((with_reducible apply len_VV); assumption) | ((with_reducible apply len_I); assumption)  | (with_reducible refine stop_builtin ?_) | (with_reducible refine stop_slice ?_) | (with_reducible refine stop_index_B ?_) | (with_reducible refine stop_index_BB ?_)  | (with_reducible refine stop_index_N ?_) | (with_reducible refine stop_index_V ?_) | (with_reducible refine stop_index_VV ?_) | (with_reducible refine stop_index_I ?_)  | (with_reducible refine stop_str_B ?_) | (with_reducible refine stop_mark_B ?_) | (with_reducible refine stop_buildSlice ?_))
            go_roundg (its.length - (j + 1) + 1)
            case measure => have := Hk.out; omega
            case rel => exact ⟨j + 1, L, E, by omega, by omega, by go_num, rfl, hrestz, hRz, hbz, by omega⟩
        · have hk0 : ((d : Int) % 3 == 0) = false := by simp; omega
          have hk1 : ((d : Int) % 3 == 1) = false := by simp; omega
          obtain ⟨M, hM⟩ : ∃ M, M = m.toNat := ⟨_, rfl⟩
          have HM := Lib.hid hM
          clear hM
          by_cases hE : E = 0
          · subst hE
            go_wp2_with (first | ((with_reducible apply wpList_unguard); rfl) | (with_reducible refine stop_make ?_) | ((with_reducible apply len_B); assumption) | ((with_reducible apply len_BB); assumption)  | ((with_reducible apply len_N); assumption) | ((with_reducible apply len_V); assumption) | ((with_reducible apply len_VV); assumption) | ((with_reducible apply len_I); assumption)  | (with_reducible refine stop_builtin ?_) | (with_reducible refine stop_slice ?_) | (with_reducible refine stop_index_B ?_) | (with_reducible refine stop_index_BB ?_)  | (with_reducible refine stop_index_N ?_) | (with_reducible refine stop_index_V ?_) | (with_reducible refine stop_index_VV ?_) | (with_reducible refine stop_index_I ?_)  | (with_reducible refine stop_str_B ?_) | (with_reducible refine stop_mark_B ?_) | (with_reducible refine stop_buildSlice ?_))
            obtain ⟨wx, hwx⟩ : ∃ wx, wx = wr.alloc (.cells #[.int .u8 (d : Int), .slice an nn cn, .slice at' nt ct, .slice av nv cv, .int .i64 m] 36) := ⟨_, rfl⟩
            rw [← hwx] at hbx hrestx hRx hIx hszx ⊢
            clear hwx hal c0 c1 c2 c3 c4 hrest hRd hbr hitr
            obtain ⟨bx, hbxe⟩ : ∃ b, b = wr.heap.size := ⟨_, rfl⟩
            rw [← hbxe] at hIx hszx ⊢
            clear hbxe
            have hsx := hbx.size
            obtain ⟨c0, c1, c2, c3, c4⟩ := hIx.cells
            have HEQ := rv_eq L M
            have hTlen := tvec_len L M
            refine (tvec_any wx _ L _ m hrestx m2 (by omega)).mono ?_
            rw [← HM.out]
            obtain ⟨T, hT⟩ : ∃ T, T = tvec L M := ⟨_, rfl⟩
            rw [← hT] at HEQ hTlen ⊢
            rintro e wy ⟨t, u, rfl, ht, hu, hby⟩
            have huy : Sl wy (· < w4.heap.size) T.2.1 u := hu.wide fun b h _ => h.1
            clear hu hT
            have hrx := hRx.lt
            have hRy := hRx.only (Only.of_below hby) (by omega) (by rintro b _ h; omega)
            have hresty := hrestx.below hby (Nat.le_refl _)
            have hby4 := below_on hbx hby (by omega)
            have hIy := hIx.only (Only.of_below hby) (by have := hIx.lt; omega)
            have hsy := hby.size
            clear hRx hrestx hbx hIx c0 c1 c2 c3 c4
            obtain ⟨c0, c1, c2, c3, c4⟩ := hIy.cells
            by_cases hE2 : T.2.2 = 0
            · rw [if_pos hE2] at HEQ
              have hEb : (T.2.2 != 0) = false := by simp [hE2]
              have hEc : (T.2.2 == 0) = true := by simp [hE2]
              go_wp2_with (first | ((with_reducible apply wpList_unguard); rfl) | (with_reducible refine stop_make ?_) | ((with_reducible apply len_B); assumption) | ((with_reducible apply len_BB); assumption)  | ((with_reducible apply len_N); assumption) | ((with_reducible apply len_V); assumption) | ((with_reducible apply len_VV); assumption) | ((with_reducible apply len_I); assumption)  | (with_reducible refine stop_builtin ?_) | (with_reducible refine stop_slice ?_) | (with_reducible refine stop_index_B ?_) | (with_reducible refine stop_index_BB ?_)  | (with_reducible refine stop_index_N ?_) | (with_reducible refine stop_index_V ?_) | (with_reducible refine stop_index_VV ?_) | (with_reducible refine stop_index_I ?_)  | (with_reducible refine stop_str_B ?_) | (with_reducible refine stop_mark_B ?_) | (with_reducible refine stop_buildSlice ?_))
              refine (vec_any wy r _ L 0 m hRy (by omega) (by omega)).mono ?_
              rw [← HM.out, HEQ.1, HEQ.2.1, HEQ.2.2]
              rintro e wz ⟨v, rfl, hv, hRz, ho⟩
              have hrestz := hresty.only ho (by rintro b hb _ rfl; exact absurd hb (by omega))
              have huz := huy.only ho (by rintro b hb _ rfl; exact absurd hb (by omega))
              have hbz := hby4.trans (ho.below (B := w4.heap.size) (by omega) (by rintro k rfl; exact hr))
              have hsz := ho.size
              have htz := (ht.only ho (fun b hb (e : b = r) => by have := (ht.ge b hb).1; omega)).sl'
              clear ho hRy hresty huy hby4 ht
              go_wp2_with (first | ((with_reducible apply wpList_unguard); rfl) | (with_reducible refine stop_make ?_) | ((with_reducible apply len_B); assumption) | ((with_reducible apply len_BB); assumption)  | ((with_reducible apply len_N); assumption) | ((with_reducible apply len_V); assumption) | ((with_reducible apply len_VV); assumption) | ((with_reducible apply len_I); assumption)  | (with_reducible refine stop_builtin ?_) | (with_reducible refine stop_slice ?_) | (with_reducible refine stop_index_B ?_) | (with_reducible refine stop_index_BB ?_)  | (with_reducible refine stop_index_N ?_) | (with_reducible refine stop_index_V ?_) | (with_reducible refine stop_index_VV ?_) | (with_reducible refine stop_index_I ?_)  | (with_reducible refine stop_str_B ?_) | (with_reducible refine stop_mark_B ?_) | (with_reducible refine stop_buildSlice ?_))
              refine (samevec_any wz _ _ _ _ v t hv.sl' htz).mono ?_
              rintro e wq ⟨nq, rfl, hwq⟩
              rw [beq_self_eq_true]
              have hod : Only (fun _ => False) wz wq := by rw [hwq]; exact Only.drewN _ _ _
              have hbq : Below wz.heap.size wz wq := by rw [hwq]; exact below_draws _ _ _
              have hrestz := hrestz.below hbq (Nat.le_refl _)
              have huz := huz.below hbq (Nat.le_refl _)
              have hRz := hRz.only hod (fun h => h) (fun _ _ _ h => h)
              have hbz := below_on hbz hbq (by omega)
              clear hwq hod hbq
              clear hv htz
              obtain ⟨wz, rfl⟩ : ∃ wz', wz' = wq := ⟨_, rfl⟩
              have huz' := huz
              go_wp2_with (first | ((with_reducible apply wpList_unguard); rfl) | (with_reducible refine stop_make ?_) | ((with_reducible apply len_B); assumption) | ((with_reducible apply len_BB); assumption)  | ((with_reducible apply len_N); assumption) | ((with_reducible apply len_V); assumption) | ((with_reducible apply len_VV); assumption) | ((with_reducible apply len_I); assumption)  | (with_reducible refine stop_builtin ?_) | (with_reducible refine stop_slice ?_) | (with_reducible refine stop_index_B ?_) | (with_reducible refine stop_index_BB ?_)  | (with_reducible refine stop_index_N ?_) | (with_reducible refine stop_index_V ?_) | (with_reducible refine stop_index_VV ?_) | (with_reducible refine stop_index_I ?_)  | (with_reducible refine stop_str_B ?_) | (with_reducible refine stop_mark_B ?_) | (with_reducible refine stop_buildSlice ?_))
              refine (left_any wz r _ _ _ hRz).mono ?_
              rintro e w' ⟨rfl, rfl⟩
              go_wp2_with (first | ((with_reducible apply wpList_unguard); rfl) | (with_reducible refine stop_make ?_) | ((with_reducible apply len_B); assumption) | ((with_reducible apply len_BB); assumption)  | ((with_reducible apply len_N); assumption) | ((with_reducible apply len_V); assumption) | ((with_reducible apply len_VV); assumption) | ((with_reducible apply len_I); assumption)  | (with_reducible refine stop_builtin ?_) | (with_reducible refine stop_slice ?_) | (with_reducible refine stop_index_B ?_) | (with_reducible refine stop_index_BB ?_)  | (with_reducible refine stop_index_N ?_) | (with_reducible refine stop_index_V ?_) | (with_reducible refine stop_index_VV ?_) | (with_reducible refine stop_index_I ?_)  | (with_reducible refine stop_str_B ?_) | (with_reducible refine stop_mark_B ?_) | (with_reducible refine stop_buildSlice ?_))
              go_roundg (its.length - (j + 1) + 1)
              case measure => have := Hk.out; omega
              case rel => exact ⟨j + 1, T.2.1, T.2.2, by omega, by omega, by go_num, by rw [hE2], huz', hRz, hbz, by omega⟩
            · rw [if_neg hE2] at HEQ
              have hEb : (T.2.2 != 0) = true := by simpa using hE2
              have hEc : (T.2.2 == 0) = false := beq_eq_false_iff_ne.2 hE2
              go_wp2_with (first | ((with_reducible apply wpList_unguard); rfl) | (with_reducible refine stop_make ?_) | ((with_reducible apply len_B); assumption) | ((with_reducible apply len_BB); assumption)  | ((with_reducible apply len_N); assumption) | ((with_reducible apply len_V); assumption) | ((with_reducible apply len_VV); assumption) | ((with_reducible apply len_I); assumption)  | (with_reducible refine stop_builtin ?_) | (with_reducible refine stop_slice ?_) | (with_reducible refine stop_index_B ?_) | (with_reducible refine stop_index_BB ?_)  | (with_reducible refine stop_index_N ?_) | (with_reducible refine stop_index_V ?_) | (with_reducible refine stop_index_VV ?_) | (with_reducible refine stop_index_I ?_)  | (with_reducible refine stop_str_B ?_) | (with_reducible refine stop_mark_B ?_) | (with_reducible refine stop_buildSlice ?_))
              refine (vec_any wy r _ L 0 m hRy (by omega) (by omega)).mono ?_
              rw [← HM.out, HEQ.1, HEQ.2.1, HEQ.2.2]
              rintro e wz ⟨v, rfl, hv, hRz, ho⟩
              have hrestz := hresty.only ho (by rintro b hb _ rfl; exact absurd hb (by omega))
              have huz := huy.only ho (by rintro b hb _ rfl; exact absurd hb (by omega))
              have hbz := hby4.trans (ho.below (B := w4.heap.size) (by omega) (by rintro k rfl; exact hr))
              have hsz := ho.size
              have htz := (ht.only ho (fun b hb (e : b = r) => by have := (ht.ge b hb).1; omega)).sl'
              clear ho hRy hresty huy hby4 ht
              go_wp2_with (first | ((with_reducible apply wpList_unguard); rfl) | (with_reducible refine stop_make ?_) | ((with_reducible apply len_B); assumption) | ((with_reducible apply len_BB); assumption)  | ((with_reducible apply len_N); assumption) | ((with_reducible apply len_V); assumption) | ((with_reducible apply len_VV); assumption) | ((with_reducible apply len_I); assumption)  | (with_reducible refine stop_builtin ?_) | (with_reducible refine stop_slice ?_) | (with_reducible refine stop_index_B ?_) | (with_reducible refine stop_index_BB ?_)  | (with_reducible refine stop_index_N ?_) | (with_reducible refine stop_index_V ?_) | (with_reducible refine stop_index_VV ?_) | (with_reducible refine stop_index_I ?_)  | (with_reducible refine stop_str_B ?_) | (with_reducible refine stop_mark_B ?_) | (with_reducible refine stop_buildSlice ?_))
              refine (samevec_any wz _ _ _ _ v t hv.sl' htz).mono ?_
              rintro e wq ⟨nq, rfl, hwq⟩
              rw [beq_self_eq_true]
              have hod : Only (fun _ => False) wz wq := by rw [hwq]; exact Only.drewN _ _ _
              have hbq : Below wz.heap.size wz wq := by rw [hwq]; exact below_draws _ _ _
              have hrestz := hrestz.below hbq (Nat.le_refl _)
              have huz := huz.below hbq (Nat.le_refl _)
              have hRz := hRz.only hod (fun h => h) (fun _ _ _ h => h)
              have hbz := below_on hbz hbq (by omega)
              clear hwq hod hbq
              clear hv htz
              obtain ⟨wz, rfl⟩ : ∃ wz', wz' = wq := ⟨_, rfl⟩
              go_wp2_with (first | ((with_reducible apply wpList_unguard); rfl) | (with_reducible refine stop_make ?_) | ((with_reducible apply len_B); assumption) | ((with_reducible apply len_BB); assumption)  | ((with_reducible apply len_N); assumption) | ((with_reducible apply len_V); assumption) | ((with_reducible apply len_VV); assumption) | ((with_reducible apply len_I); assumption)  | (with_reducible refine stop_builtin ?_) | (with_reducible refine stop_slice ?_) | (with_reducible refine stop_index_B ?_) | (with_reducible refine stop_index_BB ?_)  | (with_reducible refine stop_index_N ?_) | (with_reducible refine stop_index_V ?_) | (with_reducible refine stop_index_VV ?_) | (with_reducible refine stop_index_I ?_)  | (with_reducible refine stop_str_B ?_) | (with_reducible refine stop_mark_B ?_) | (with_reducible refine stop_buildSlice ?_))
              refine (left_any wz r _ _ _ hRz).mono ?_
              rintro e w' ⟨rfl, rfl⟩
              go_wp2_with (first | ((with_reducible apply wpList_unguard); rfl) | (with_reducible refine stop_make ?_) | ((with_reducible apply len_B); assumption) | ((with_reducible apply len_BB); assumption)  | ((with_reducible apply len_N); assumption) | ((with_reducible apply len_V); assumption) | ((with_reducible apply len_VV); assumption) | ((with_reducible apply len_I); assumption)  | (with_reducible refine stop_builtin ?_) | (with_reducible refine stop_slice ?_) | (with_reducible refine stop_index_B ?_) | (with_reducible refine stop_index_BB ?_)  | (with_reducible refine stop_index_N ?_) | (with_reducible refine stop_index_V ?_) | (with_reducible refine stop_index_VV ?_) | (with_reducible refine stop_index_I ?_)  | (with_reducible refine stop_str_B ?_) | (with_reducible refine stop_mark_B ?_) | (with_reducible refine stop_buildSlice ?_))
              go_roundg (its.length - (j + 1) + 1)
              case measure => have := Hk.out; omega
              case rel => exact ⟨j + 1, L, T.2.2, by omega, by omega, by go_num, rfl, hrestz, hRz, hbz, by omega⟩
          · have hEb : (E == 0) = false := beq_eq_false_iff_ne.2 hE
            go_wp2_with (first | ((with_reducible apply wpList_unguard); rfl) | (with_reducible refine stop_make ?_) | ((with_reducible apply len_B); assumption) | ((with_reducible apply len_BB); assumption)  | ((with_reducible apply len_N); assumption) | ((with_reducible apply len_V); assumption) | ((with_reducible apply len_VV); assumption) | ((with_reducible apply len_I); assumption)  | (with_reducible refine stop_builtin ?_) | (with_reducible refine stop_slice ?_) | (with_reducible refine stop_index_B ?_) | (with_reducible refine stop_index_BB ?_)  | (with_reducible refine stop_index_N ?_) | (with_reducible refine stop_index_V ?_) | (with_reducible refine stop_index_VV ?_) | (with_reducible refine stop_index_I ?_)  | (with_reducible refine stop_str_B ?_) | (with_reducible refine stop_mark_B ?_) | (with_reducible refine stop_buildSlice ?_))
            obtain ⟨wx, hwx⟩ : ∃ wx, wx = wr.alloc (.cells #[.int .u8 (d : Int), .slice an nn cn, .slice at' nt ct, .slice av nv cv, .int .i64 m] 36) := ⟨_, rfl⟩
            rw [← hwx] at hbx hrestx hRx hIx hszx ⊢
            clear hwx hal c0 c1 c2 c3 c4 hrest hRd hbr hitr
            obtain ⟨bx, hbxe⟩ : ∃ b, b = wr.heap.size := ⟨_, rfl⟩
            rw [← hbxe] at hIx hszx ⊢
            clear hbxe
            have hsx := hbx.size
            obtain ⟨c0, c1, c2, c3, c4⟩ := hIx.cells
            refine (vec_any wx r _ L E m hRx (by omega) (by omega)).mono ?_
            rw [← HM.out, show rvecs L E M = ([], L, E) by unfold rvecs; rw [if_pos hE]]
            rintro e wz ⟨v, rfl, hv, hRz, ho⟩
            have hrestz := hrestx.only ho (by rintro b hb _ rfl; exact absurd hb (by omega))
            have hbz := hbx.trans (ho.below (B := w4.heap.size) (by omega) (by rintro k rfl; exact hr))
            have hsz := ho.size
            clear ho hRx hrestx hbx
            go_wp2_with (first | ((with_reducible apply wpList_unguard); rfl) | (with_reducible refine stop_make ?_) | ((with_reducible apply len_B); assumption) | ((with_reducible apply len_BB); assumption)  | ((with_reducible apply len_N); assumption) | ((with_reducible apply len_V); assumption) | ((with_reducible apply len_VV); assumption) | ((with_reducible apply len_I); assumption)  | (with_reducible refine stop_builtin ?_) | (with_reducible refine stop_slice ?_) | (with_reducible refine stop_index_B ?_) | (with_reducible refine stop_index_BB ?_)  | (with_reducible refine stop_index_N ?_) | (with_reducible refine stop_index_V ?_) | (with_reducible refine stop_index_VV ?_) | (with_reducible refine stop_index_I ?_)  | (with_reducible refine stop_str_B ?_) | (with_reducible refine stop_mark_B ?_) | (with_reducible refine stop_buildSlice ?_))
            refine (samevec_any wz _ (fun _ => False) _ [] v _ hv.sl' (Sl.nil _ _)).mono ?_
            rintro e wq ⟨nq, rfl, hwq⟩
            rw [beq_self_eq_true]
            have hod : Only (fun _ => False) wz wq := by rw [hwq]; exact Only.drewN _ _ _
            have hbq : Below wz.heap.size wz wq := by rw [hwq]; exact below_draws _ _ _
            have hrestz := hrestz.below hbq (Nat.le_refl _)
            have hRz := hRz.only hod (fun h => h) (fun _ _ _ h => h)
            have hbz := below_on hbz hbq (by omega)
            clear hwq hod hbq
            clear hv
            obtain ⟨wz, rfl⟩ : ∃ wz', wz' = wq := ⟨_, rfl⟩
            go_wp2_with (first | ((with_reducible apply wpList_unguard); rfl) | (with_reducible refine stop_make ?_) | ((with_reducible apply len_B); assumption) | ((with_reducible apply len_BB); assumption)  | ((with_reducible apply len_N); assumption) | ((with_reducible apply len_V); assumption) | ((with_reducible apply len_VV); assumption) | ((with_reducible apply len_I); assumption)  | (with_reducible refine stop_builtin ?_) | (with_reducible refine stop_slice ?_) | (with_reducible refine stop_index_B ?_) | (with_reducible refine stop_index_BB ?_)  | (with_reducible refine stop_index_N ?_) | (with_reducible refine stop_index_V ?_) | (with_reducible refine stop_index_VV ?_) | (with_reducible refine stop_index_I ?_)  | (with_reducible refine stop_str_B ?_) | (with_reducible refine stop_mark_B ?_) | (with_reducible refine stop_buildSlice ?_))
            refine (left_any wz r _ _ _ hRz).mono ?_
            rintro e w' ⟨rfl, rfl⟩
            go_wp2_with (first | ((with_reducible apply wpList_unguard); rfl) | (with_reducible refine stop_make ?_) | ((with_reducible apply len_B); assumption) | ((with_reducible apply len_BB); assumption)  | ((with_reducible apply len_N); assumption) | ((with_reducible apply len_V); assumption) | ((with_reducible apply len_VV); assumption) | ((with_reducible apply len_I); assumption)  | (with_reducible refine stop_builtin ?_) | (with_reducible refine stop_slice ?_) | (with_reducible refine stop_index_B ?_) | (with_reducible refine stop_index_BB ?_)  | (with_reducible refine stop_index_N ?_) | (with_reducible refine stop_index_V ?_) | (with_reducible refine stop_index_VV ?_) | (with_reducible refine stop_index_I ?_)  | (with_reducible refine stop_str_B ?_) | (with_reducible refine stop_mark_B ?_) | (with_reducible refine stop_buildSlice ?_))
            go_roundg (its.length - (j + 1) + 1)
            case measure => have := Hk.out; omega
            case rel => exact ⟨j + 1, L, E, by omega, by omega, by go_num, rfl, hrestz, hRz, hbz, by omega⟩
      · clear hIx hszx hitr hrest hRd hbr
        have hlast : (P ++ [165])[P.length]? = some 165 := by simp
        have hEnd : ∀ X : Int, X = rend L E → X = if E = 0 then (if 0 < L.length then 4 else 0) else E := by
          rintro X rfl
          unfold rend
          by_cases hE : E = 0
          · rw [if_neg (by simpa using hE), if_pos hE]
          · rw [if_pos hE, if_neg hE]
        obtain ⟨X, hX⟩ : ∃ X, X = rend L E := ⟨_, rfl⟩
        have hXv := hEnd X hX
        have HX := Lib.hid hX
        clear hEnd hX
        rcases (show (E = 0 ∧ 0 < L.length) ∨ (E = 0 ∧ ¬ 0 < L.length) ∨ E ≠ 0 by omega) with ⟨hE, hL0⟩ | ⟨hE, hL0⟩ | hE
        case' inl =>
          subst hE
          rw [if_pos rfl, if_pos hL0] at hXv
          have HXv := Lib.hid hXv
          clear hXv
          go_wp2_with (first | ((with_reducible apply wpList_unguard); rfl) | (with_reducible refine stop_make ?_) | ((with_reducible apply len_B); assumption) | ((with_reducible apply len_BB); assumption)  | ((with_reducible apply len_N); assumption) | ((with_reducible apply len_V); assumption) | ((with_reducible apply len_VV); assumption) | ((with_reducible apply len_I); assumption)  | (with_reducible refine stop_builtin ?_) | (with_reducible refine stop_slice ?_) | (with_reducible refine stop_index_B ?_) | (with_reducible refine stop_index_BB ?_)  | (with_reducible refine stop_index_N ?_) | (with_reducible refine stop_index_V ?_) | (with_reducible refine stop_index_VV ?_) | (with_reducible refine stop_index_I ?_)  | (with_reducible refine stop_str_B ?_) | (with_reducible refine stop_mark_B ?_) | (with_reducible refine stop_buildSlice ?_))
          obtain ⟨wx, hwx⟩ : ∃ wx, wx = wr.alloc (.cells #[.int .u8 (d : Int), .slice an nn cn, .slice at' nt ct, .slice av nv cv, .int .i64 m] 36) := ⟨_, rfl⟩
          rw [← hwx] at hbx hrestx hRx ⊢
          clear hwx hal c0 c1 c2 c3 c4
          refine (end_any wx r _ _ _ hRx).mono ?_
          rintro e w' ⟨rfl, rfl⟩
          rw [← HX.out, HXv.out]
        case' inr.inl =>
          subst hE
          rw [if_pos rfl, if_neg hL0] at hXv
          have HXv := Lib.hid hXv
          clear hXv
          go_wp2_with (first | ((with_reducible apply wpList_unguard); rfl) | (with_reducible refine stop_make ?_) | ((with_reducible apply len_B); assumption) | ((with_reducible apply len_BB); assumption)  | ((with_reducible apply len_N); assumption) | ((with_reducible apply len_V); assumption) | ((with_reducible apply len_VV); assumption) | ((with_reducible apply len_I); assumption)  | (with_reducible refine stop_builtin ?_) | (with_reducible refine stop_slice ?_) | (with_reducible refine stop_index_B ?_) | (with_reducible refine stop_index_BB ?_)  | (with_reducible refine stop_index_N ?_) | (with_reducible refine stop_index_V ?_) | (with_reducible refine stop_index_VV ?_) | (with_reducible refine stop_index_I ?_)  | (with_reducible refine stop_str_B ?_) | (with_reducible refine stop_mark_B ?_) | (with_reducible refine stop_buildSlice ?_))
          obtain ⟨wx, hwx⟩ : ∃ wx, wx = wr.alloc (.cells #[.int .u8 (d : Int), .slice an nn cn, .slice at' nt ct, .slice av nv cv, .int .i64 m] 36) := ⟨_, rfl⟩
          rw [← hwx] at hbx hrestx hRx ⊢
          clear hwx hal c0 c1 c2 c3 c4
          refine (end_any wx r _ _ _ hRx).mono ?_
          rintro e w' ⟨rfl, rfl⟩
          rw [← HX.out, HXv.out]
        case' inr.inr =>
          have hEb : (E == 0) = false := beq_eq_false_iff_ne.2 hE
          rw [if_neg hE] at hXv
          have HXv := Lib.hid hXv
          clear hXv
          go_wp2_with (first | ((with_reducible apply wpList_unguard); rfl) | (with_reducible refine stop_make ?_) | ((with_reducible apply len_B); assumption) | ((with_reducible apply len_BB); assumption)  | ((with_reducible apply len_N); assumption) | ((with_reducible apply len_V); assumption) | ((with_reducible apply len_VV); assumption) | ((with_reducible apply len_I); assumption)  | (with_reducible refine stop_builtin ?_) | (with_reducible refine stop_slice ?_) | (with_reducible refine stop_index_B ?_) | (with_reducible refine stop_index_BB ?_)  | (with_reducible refine stop_index_N ?_) | (with_reducible refine stop_index_V ?_) | (with_reducible refine stop_index_VV ?_) | (with_reducible refine stop_index_I ?_)  | (with_reducible refine stop_str_B ?_) | (with_reducible refine stop_mark_B ?_) | (with_reducible refine stop_buildSlice ?_))
          obtain ⟨wx, hwx⟩ : ∃ wx, wx = wr.alloc (.cells #[.int .u8 (d : Int), .slice an nn cn, .slice at' nt ct, .slice av nv cv, .int .i64 m] 36) := ⟨_, rfl⟩
          rw [← hwx] at hbx hrestx hRx ⊢
          clear hwx hal c0 c1 c2 c3 c4
          refine (end_any wx r _ _ _ hRx).mono ?_
          rintro e w' ⟨rfl, rfl⟩
          rw [← HX.out, HXv.out]
        all_goals
          have hpx := hp4.below hbx (Nat.le_refl _)
          have hqx := hq5.below hbx (Nat.le_refl _)
          have hqs := hqx.sl
          rw [List.take_left] at hqs
          go_wp2_with (first | ((with_reducible apply wpList_unguard); rfl) | (with_reducible refine stop_make ?_) | ((with_reducible apply len_B); assumption) | ((with_reducible apply len_BB); assumption)  | ((with_reducible apply len_N); assumption) | ((with_reducible apply len_V); assumption) | ((with_reducible apply len_VV); assumption) | ((with_reducible apply len_I); assumption)  | (with_reducible refine stop_builtin ?_) | (with_reducible refine stop_slice ?_) | (with_reducible refine stop_index_B ?_) | (with_reducible refine stop_index_BB ?_)  | (with_reducible refine stop_index_N ?_) | (with_reducible refine stop_index_V ?_) | (with_reducible refine stop_index_VV ?_) | (with_reducible refine stop_index_I ?_)  | (with_reducible refine stop_str_B ?_) | (with_reducible refine stop_mark_B ?_) | (with_reducible refine stop_buildSlice ?_))
          refine (same_any wx _ _ _ _ q5 p1 hqs hpx).mono ?_
          rintro e w' ⟨rfl, rfl⟩
          rw [beq_self_eq_true]
          go_wp2_with (first | ((with_reducible apply wpList_unguard); rfl) | (with_reducible refine stop_make ?_) | ((with_reducible apply len_B); assumption) | ((with_reducible apply len_BB); assumption)  | ((with_reducible apply len_N); assumption) | ((with_reducible apply len_V); assumption) | ((with_reducible apply len_VV); assumption) | ((with_reducible apply len_I); assumption)  | (with_reducible refine stop_builtin ?_) | (with_reducible refine stop_slice ?_) | (with_reducible refine stop_index_B ?_) | (with_reducible refine stop_index_BB ?_)  | (with_reducible refine stop_index_N ?_) | (with_reducible refine stop_index_V ?_) | (with_reducible refine stop_index_VV ?_) | (with_reducible refine stop_index_I ?_)  | (with_reducible refine stop_str_B ?_) | (with_reducible refine stop_mark_B ?_) | (with_reducible refine stop_buildSlice ?_))
          refine Stop.go (wpList_slice_back rowB hqx rfl (by omega) (by simp; done) fun z hz => ?_)
          go_wp2_with (first | ((with_reducible apply wpList_unguard); rfl) | (with_reducible refine stop_make ?_) | ((with_reducible apply len_B); assumption) | ((with_reducible apply len_BB); assumption)  | ((with_reducible apply len_N); assumption) | ((with_reducible apply len_V); assumption) | ((with_reducible apply len_VV); assumption) | ((with_reducible apply len_I); assumption)  | (with_reducible refine stop_builtin ?_) | (with_reducible refine stop_slice ?_) | (with_reducible refine stop_index_B ?_) | (with_reducible refine stop_index_BB ?_)  | (with_reducible refine stop_index_N ?_) | (with_reducible refine stop_index_V ?_) | (with_reducible refine stop_index_VV ?_) | (with_reducible refine stop_index_I ?_)  | (with_reducible refine stop_str_B ?_) | (with_reducible refine stop_mark_B ?_) | (with_reducible refine stop_buildSlice ?_))
          refine Stop.go (idx_B hz rfl (by omega) (by simp; omega) fun b6 o6 y6 hy6 hcell => ?_)
          have e6 : y6 = 165 := by
            rw [List.getElem?_take, if_pos (by omega)] at hy6
            simp at hy6
            exact hy6.symm
          subst e6
          clear hy6
          go_wp2_with (first | ((with_reducible apply wpList_unguard); rfl) | (with_reducible refine stop_make ?_) | ((with_reducible apply len_B); assumption) | ((with_reducible apply len_BB); assumption)  | ((with_reducible apply len_N); assumption) | ((with_reducible apply len_V); assumption) | ((with_reducible apply len_VV); assumption) | ((with_reducible apply len_I); assumption)  | (with_reducible refine stop_builtin ?_) | (with_reducible refine stop_slice ?_) | (with_reducible refine stop_index_B ?_) | (with_reducible refine stop_index_BB ?_)  | (with_reducible refine stop_index_N ?_) | (with_reducible refine stop_index_V ?_) | (with_reducible refine stop_index_VV ?_) | (with_reducible refine stop_index_I ?_)  | (with_reducible refine stop_str_B ?_) | (with_reducible refine stop_mark_B ?_) | (with_reducible refine stop_buildSlice ?_))
          go_ret
          exact ⟨rfl, below_on HB4.out hbx HB4.out.size⟩
    · obtain ⟨wx, rfl⟩ : ∃ wx, wx = wr := ⟨_, rfl⟩
      have hbx := hbr
      have hrestx := hrest
      have hRx := hRd
      clear hbr hrest hRd
      have hlast : (P ++ [165])[P.length]? = some 165 := by simp
      have hEnd : ∀ X : Int, X = rend L E → X = if E = 0 then (if 0 < L.length then 4 else 0) else E := by
        rintro X rfl
        unfold rend
        by_cases hE : E = 0
        · rw [if_neg (by simpa using hE), if_pos hE]
        · rw [if_pos hE, if_neg hE]
      obtain ⟨X, hX⟩ : ∃ X, X = rend L E := ⟨_, rfl⟩
      have hXv := hEnd X hX
      have HX := Lib.hid hX
      clear hEnd hX
      rcases (show (E = 0 ∧ 0 < L.length) ∨ (E = 0 ∧ ¬ 0 < L.length) ∨ E ≠ 0 by omega) with ⟨hE, hL0⟩ | ⟨hE, hL0⟩ | hE
      case' inl =>
        subst hE
        rw [if_pos rfl, if_pos hL0] at hXv
        have HXv := Lib.hid hXv
        clear hXv
        go_wp2_with (first | ((with_reducible apply wpList_unguard); rfl) | (with_reducible refine stop_make ?_) | ((with_reducible apply len_B); assumption) | ((with_reducible apply len_BB); assumption)  | ((with_reducible apply len_N); assumption) | ((with_reducible apply len_V); assumption) | ((with_reducible apply len_VV); assumption) | ((with_reducible apply len_I); assumption)  | (with_reducible refine stop_builtin ?_) | (with_reducible refine stop_slice ?_) | (with_reducible refine stop_index_B ?_) | (with_reducible refine stop_index_BB ?_)  | (with_reducible refine stop_index_N ?_) | (with_reducible refine stop_index_V ?_) | (with_reducible refine stop_index_VV ?_) | (with_reducible refine stop_index_I ?_)  | (with_reducible refine stop_str_B ?_) | (with_reducible refine stop_mark_B ?_) | (with_reducible refine stop_buildSlice ?_))
        refine (end_any wx r _ _ _ hRx).mono ?_
        rintro e w' ⟨rfl, rfl⟩
        rw [← HX.out, HXv.out]
      case' inr.inl =>
        subst hE
        rw [if_pos rfl, if_neg hL0] at hXv
        have HXv := Lib.hid hXv
        clear hXv
        go_wp2_with (first | ((with_reducible apply wpList_unguard); rfl) | (with_reducible refine stop_make ?_) | ((with_reducible apply len_B); assumption) | ((with_reducible apply len_BB); assumption)  | ((with_reducible apply len_N); assumption) | ((with_reducible apply len_V); assumption) | ((with_reducible apply len_VV); assumption) | ((with_reducible apply len_I); assumption)  | (with_reducible refine stop_builtin ?_) | (with_reducible refine stop_slice ?_) | (with_reducible refine stop_index_B ?_) | (with_reducible refine stop_index_BB ?_)  | (with_reducible refine stop_index_N ?_) | (with_reducible refine stop_index_V ?_) | (with_reducible refine stop_index_VV ?_) | (with_reducible refine stop_index_I ?_)  | (with_reducible refine stop_str_B ?_) | (with_reducible refine stop_mark_B ?_) | (with_reducible refine stop_buildSlice ?_))
        refine (end_any wx r _ _ _ hRx).mono ?_
        rintro e w' ⟨rfl, rfl⟩
        rw [← HX.out, HXv.out]
      case' inr.inr =>
        have hEb : (E == 0) = false := beq_eq_false_iff_ne.2 hE
        rw [if_neg hE] at hXv
        have HXv := Lib.hid hXv
        clear hXv
        go_wp2_with (first | ((with_reducible apply wpList_unguard); rfl) | (with_reducible refine stop_make ?_) | ((with_reducible apply len_B); assumption) | ((with_reducible apply len_BB); assumption)  | ((with_reducible apply len_N); assumption) | ((with_reducible apply len_V); assumption) | ((with_reducible apply len_VV); assumption) | ((with_reducible apply len_I); assumption)  | (with_reducible refine stop_builtin ?_) | (with_reducible refine stop_slice ?_) | (with_reducible refine stop_index_B ?_) | (with_reducible refine stop_index_BB ?_)  | (with_reducible refine stop_index_N ?_) | (with_reducible refine stop_index_V ?_) | (with_reducible refine stop_index_VV ?_) | (with_reducible refine stop_index_I ?_)  | (with_reducible refine stop_str_B ?_) | (with_reducible refine stop_mark_B ?_) | (with_reducible refine stop_buildSlice ?_))
        refine (end_any wx r _ _ _ hRx).mono ?_
        rintro e w' ⟨rfl, rfl⟩
        rw [← HX.out, HXv.out]
      all_goals
        have hpx := hp4.below hbx (Nat.le_refl _)
        have hqx := hq5.below hbx (Nat.le_refl _)
        have hqs := hqx.sl
        rw [List.take_left] at hqs
        go_wp2_with (first | ((with_reducible apply wpList_unguard); rfl) | (with_reducible refine stop_make ?_) | ((with_reducible apply len_B); assumption) | ((with_reducible apply len_BB); assumption)  | ((with_reducible apply len_N); assumption) | ((with_reducible apply len_V); assumption) | ((with_reducible apply len_VV); assumption) | ((with_reducible apply len_I); assumption)  | (with_reducible refine stop_builtin ?_) | (with_reducible refine stop_slice ?_) | (with_reducible refine stop_index_B ?_) | (with_reducible refine stop_index_BB ?_)  | (with_reducible refine stop_index_N ?_) | (with_reducible refine stop_index_V ?_) | (with_reducible refine stop_index_VV ?_) | (with_reducible refine stop_index_I ?_)  | (with_reducible refine stop_str_B ?_) | (with_reducible refine stop_mark_B ?_) | (with_reducible refine stop_buildSlice ?_))
        refine (same_any wx _ _ _ _ q5 p1 hqs hpx).mono ?_
        rintro e w' ⟨rfl, rfl⟩
        rw [beq_self_eq_true]
        go_wp2_with (first | ((with_reducible apply wpList_unguard); rfl) | (with_reducible refine stop_make ?_) | ((with_reducible apply len_B); assumption) | ((with_reducible apply len_BB); assumption)  | ((with_reducible apply len_N); assumption) | ((with_reducible apply len_V); assumption) | ((with_reducible apply len_VV); assumption) | ((with_reducible apply len_I); assumption)  | (with_reducible refine stop_builtin ?_) | (with_reducible refine stop_slice ?_) | (with_reducible refine stop_index_B ?_) | (with_reducible refine stop_index_BB ?_)  | (with_reducible refine stop_index_N ?_) | (with_reducible refine stop_index_V ?_) | (with_reducible refine stop_index_VV ?_) | (with_reducible refine stop_index_I ?_)  | (with_reducible refine stop_str_B ?_) | (with_reducible refine stop_mark_B ?_) | (with_reducible refine stop_buildSlice ?_))
        refine Stop.go (wpList_slice_back rowB hqx rfl (by omega) (by simp; done) fun z hz => ?_)
        go_wp2_with (first | ((with_reducible apply wpList_unguard); rfl) | (with_reducible refine stop_make ?_) | ((with_reducible apply len_B); assumption) | ((with_reducible apply len_BB); assumption)  | ((with_reducible apply len_N); assumption) | ((with_reducible apply len_V); assumption) | ((with_reducible apply len_VV); assumption) | ((with_reducible apply len_I); assumption)  | (with_reducible refine stop_builtin ?_) | (with_reducible refine stop_slice ?_) | (with_reducible refine stop_index_B ?_) | (with_reducible refine stop_index_BB ?_)  | (with_reducible refine stop_index_N ?_) | (with_reducible refine stop_index_V ?_) | (with_reducible refine stop_index_VV ?_) | (with_reducible refine stop_index_I ?_)  | (with_reducible refine stop_str_B ?_) | (with_reducible refine stop_mark_B ?_) | (with_reducible refine stop_buildSlice ?_))
        refine Stop.go (idx_B hz rfl (by omega) (by simp; omega) fun b6 o6 y6 hy6 hcell => ?_)
        have e6 : y6 = 165 := by
          rw [List.getElem?_take, if_pos (by omega)] at hy6
          simp at hy6
          exact hy6.symm
        subst e6
        clear hy6
        go_wp2_with (first | ((with_reducible apply wpList_unguard); rfl) | (with_reducible refine stop_make ?_) | ((with_reducible apply len_B); assumption) | ((with_reducible apply len_BB); assumption)  | ((with_reducible apply len_N); assumption) | ((with_reducible apply len_V); assumption) | ((with_reducible apply len_VV); assumption) | ((with_reducible apply len_I); assumption)  | (with_reducible refine stop_builtin ?_) | (with_reducible refine stop_slice ?_) | (with_reducible refine stop_index_B ?_) | (with_reducible refine stop_index_BB ?_)  | (with_reducible refine stop_index_N ?_) | (with_reducible refine stop_index_V ?_) | (with_reducible refine stop_index_VV ?_) | (with_reducible refine stop_index_I ?_)  | (with_reducible refine stop_str_B ?_) | (with_reducible refine stop_mark_B ?_) | (with_reducible refine stop_buildSlice ?_))
        go_ret
        exact ⟨rfl, below_on HB4.out hbx HB4.out.size⟩
end Go.Proofs.Ytfgagfemhmcdfaa
