/- package armillarylaw02: ScrollWrites. -/
import Derived.Test.YtfgagfemhmcdfaaWritesMath
namespace Go.Proofs.Ytfgagfemhmcdfaa
open Go Go.RowKit Go.Arm

theorem xor_one (y : UInt8) : bits .xor .u8 (y.toNat : Int) 1 = ((UInt8.ofNat (y.toNat ^^^ 1)).toNat : Int) := by
  have hy := y.toNat_lt
  have h := (bits_of_nat .u8 rfl y.toNat 1 hy (by decide)).2.2
  have hx : y.toNat ^^^ 1 < 256 := Nat.xor_lt_two_pow (n := 8) hy (by decide)
  rw [UInt8.toNat_ofNat_of_lt' hx]
  exact h

set_option maxHeartbeats 16000000 in
set_option maxRecDepth 100000 in
theorem scrollWrites_any (w : World) {S : Nat → Prop} {its : List Itm} {q : Value} (hq : Sl w S its q) :
    Calls Try.prog 7 #[q] w fun e w' => e = .returned (.bool true) ∧ Below w.heap.size w w' := by
  have hil : its.length ≤ 9223372036854775807 := hq.length_le
  go_enter Try.func7, Try.ntmps7
  go_wp2_with (first | ((with_reducible apply wpList_unguard); rfl) | (with_reducible refine stop_make ?_) | ((with_reducible apply len_B); assumption) | ((with_reducible apply len_BB); assumption)  | ((with_reducible apply len_N); assumption) | ((with_reducible apply len_V); assumption) | ((with_reducible apply len_VV); assumption) | ((with_reducible apply len_I); assumption)  | (with_reducible refine stop_builtin ?_) | (with_reducible refine stop_slice ?_) | (with_reducible refine stop_index_B ?_) | (with_reducible refine stop_index_BB ?_)  | (with_reducible refine stop_index_N ?_) | (with_reducible refine stop_index_V ?_) | (with_reducible refine stop_index_VV ?_) | (with_reducible refine stop_index_I ?_)  | (with_reducible refine stop_str_B ?_) | (with_reducible refine stop_mark_B ?_) | (with_reducible refine stop_buildSlice ?_))
  refine (awake_any w).mono ?_
  rintro e w0 ⟨rfl, hb0⟩
  have hq0 := (hq.old.below hb0 (Nat.le_refl _)).old
  clear hq
  go_wp2_with (first | ((with_reducible apply wpList_unguard); rfl) | (with_reducible refine stop_make ?_) | ((with_reducible apply len_B); assumption) | ((with_reducible apply len_BB); assumption)  | ((with_reducible apply len_N); assumption) | ((with_reducible apply len_V); assumption) | ((with_reducible apply len_VV); assumption) | ((with_reducible apply len_I); assumption)  | (with_reducible refine stop_builtin ?_) | (with_reducible refine stop_slice ?_) | (with_reducible refine stop_index_B ?_) | (with_reducible refine stop_index_BB ?_)  | (with_reducible refine stop_index_N ?_) | (with_reducible refine stop_index_V ?_) | (with_reducible refine stop_index_VV ?_) | (with_reducible refine stop_index_I ?_)  | (with_reducible refine stop_str_B ?_) | (with_reducible refine stop_mark_B ?_) | (with_reducible refine stop_buildSlice ?_))
  have hs1 := Ws.start w0
  obtain ⟨w1, hw1⟩ : ∃ w1, w1 = w0.alloc (.cells #[.slice none 0 0] 27) := ⟨_, rfl⟩
  obtain ⟨g, hg⟩ : ∃ g, g = w0.heap.size := ⟨_, rfl⟩
  rw [← hw1] at hs1 ⊢
  rw [← hg] at hs1 ⊢
  clear hw1 hg
  have hq1 := hq0.below hs1.below (Nat.le_refl _)
  refine Stop.go (len_I hq1 ?_)
  go_wp2_with (first | ((with_reducible apply wpList_unguard); rfl) | (with_reducible refine stop_make ?_) | ((with_reducible apply len_B); assumption) | ((with_reducible apply len_BB); assumption)  | ((with_reducible apply len_N); assumption) | ((with_reducible apply len_V); assumption) | ((with_reducible apply len_VV); assumption) | ((with_reducible apply len_I); assumption)  | (with_reducible refine stop_builtin ?_) | (with_reducible refine stop_slice ?_) | (with_reducible refine stop_index_B ?_) | (with_reducible refine stop_index_BB ?_)  | (with_reducible refine stop_index_N ?_) | (with_reducible refine stop_index_V ?_) | (with_reducible refine stop_index_VV ?_) | (with_reducible refine stop_index_I ?_)  | (with_reducible refine stop_str_B ?_) | (with_reducible refine stop_mark_B ?_) | (with_reducible refine stop_buildSlice ?_))
  go_loopg [4, 5, 6, 7, 9, 11, 13, 31] (its.length + 1) (fun k x4 x5 x6 x7 x9 x11 x13 i wr => ∃ (j : Nat) (h : Option Nat) (F : List UInt8) (L : List Itm) (T : Nat → Prop), k = its.length - j + 1 ∧ j ≤ its.length ∧ j ≤ 20 ∧ i = .int .i64 j ∧ Ws w0 wr g h F x4 F x5 L T ∧ L.length = j ∧ (∀ y ∈ L, Fits y) ∧ F = encItems L ∧ F.length ≤ j * 600)
  case atStart => exact ⟨0, none, [], [], fun _ => False, by omega, by omega, by omega, rfl, hs1, rfl, by simp, rfl, by simp⟩
  case round =>
    obtain ⟨j, h, F, L, T, hk, hj, hj20, rfl, hs, hLl, hfit, hF, hFl⟩ := hrel
    have Hk := Lib.hid hk
    have HF := Lib.hid hF
    have HLl := Lib.hid hLl
    have HFit := Lib.hid hfit
    clear hk hF hLl hfit hs1 hq1
    have hitr := hq0.below hs.below (Nat.le_refl _)
    have hsr := hs.below.size
    rcases (show (j < its.length ∧ j < 20) ∨ (j < its.length ∧ ¬ j < 20) ∨ ¬ j < its.length by omega) with ⟨hlt, hjb⟩ | ⟨hlt, hjb⟩ | hlt
    case' inl =>
      go_wp2_with (first | ((with_reducible apply wpList_unguard); rfl) | (with_reducible refine stop_make ?_) | ((with_reducible apply len_B); assumption) | ((with_reducible apply len_BB); assumption)  | ((with_reducible apply len_N); assumption) | ((with_reducible apply len_V); assumption) | ((with_reducible apply len_VV); assumption) | ((with_reducible apply len_I); assumption)  | (with_reducible refine stop_builtin ?_) | (with_reducible refine stop_slice ?_) | (with_reducible refine stop_index_B ?_) | (with_reducible refine stop_index_BB ?_)  | (with_reducible refine stop_index_N ?_) | (with_reducible refine stop_index_V ?_) | (with_reducible refine stop_index_VV ?_) | (with_reducible refine stop_index_I ?_)  | (with_reducible refine stop_str_B ?_) | (with_reducible refine stop_mark_B ?_) | (with_reducible refine stop_buildSlice ?_))
      refine Stop.go (idx_I hitr rfl (by omega) (by omega) fun b5 o5 y vn vt vv hy s1 s2 s3 m1 m2 c0 c1 c2 c3 c4 => ?_)
      obtain ⟨an, nn, cn, rfl⟩ := Sl.shape s1
      obtain ⟨at', nt, ct, rfl⟩ := Sl.shape s2
      obtain ⟨av, nv, cv, rfl⟩ := Sl.shape s3
      obtain ⟨d, hd⟩ : ∃ d, d = y.d.toNat := ⟨_, rfl⟩
      obtain ⟨m, hm⟩ : ∃ m, m = y.m := ⟨_, rfl⟩
      rw [← hd] at c0
      rw [← hm] at c4 m1 m2
      have HD := Lib.hid hd
      have HY := Lib.hid hy
      clear hd hm hy
      obtain ⟨wx, hwx⟩ : ∃ wx, wx = wr.alloc (.cells #[.int .u8 (d : Int), .slice an nn cn, .slice at' nt ct, .slice av nv cv, .int .i64 m] 36) := ⟨_, rfl⟩
      have hal := (Below.refl wr.heap.size wr).alloc (Nat.le_refl _) (.cells #[.int .u8 (d : Int), .slice an nn cn, .slice at' nt ct, .slice av nv cv, .int .i64 m] 36)
      have hIx : It (wr.alloc (.cells #[.int .u8 (d : Int), .slice an nn cn, .slice at' nt ct, .slice av nv cv, .int .i64 m] 36)) wr.heap.size d (.slice an nn cn) (.slice at' nt ct) (.slice av nv cv) m := heap_alloc_new wr _
      have hszx := halloc_size wr (.cells #[.int .u8 (d : Int), .slice an nn cn, .slice at' nt ct, .slice av nv cv, .int .i64 m] 36)
      have sx := hs.alloc hal
      have t1 := s1.below hal (Nat.le_refl _)
      have t2 := s2.below hal (Nat.le_refl _)
      have t3 := s3.below hal (Nat.le_refl _)
      go_wp2_with (first | ((with_reducible apply wpList_unguard); rfl) | (with_reducible refine stop_make ?_) | ((with_reducible apply len_B); assumption) | ((with_reducible apply len_BB); assumption)  | ((with_reducible apply len_N); assumption) | ((with_reducible apply len_V); assumption) | ((with_reducible apply len_VV); assumption) | ((with_reducible apply len_I); assumption)  | (with_reducible refine stop_builtin ?_) | (with_reducible refine stop_slice ?_) | (with_reducible refine stop_index_B ?_) | (with_reducible refine stop_index_BB ?_)  | (with_reducible refine stop_index_N ?_) | (with_reducible refine stop_index_V ?_) | (with_reducible refine stop_index_VV ?_) | (with_reducible refine stop_index_I ?_)  | (with_reducible refine stop_str_B ?_) | (with_reducible refine stop_mark_B ?_) | (with_reducible refine stop_buildSlice ?_))
      rw [← hwx] at hal hIx hszx sx t1 t2 t3 ⊢
      clear hwx s1 s2 s3 c0 c1 c2 c3 c4 hitr
      refine (few_any wx d m t1 t2 t3).mono ?_
      rintro e w2 ⟨vn2, vt2, vv2, rfl, hn2, ht2, hv2, hb2⟩
      have hsr2 := hs.wf.wr.lt
      have hsh2 := hs.wf.wr.row_lt
      have hsw2 := hs.wlt
      have hsa2 := hs.alt
      have hst2 := hs.tlt
      have s2 := sx.alloc hb2
      have hI2 := hIx.only (Only.of_below hb2) (by omega)
      have hsz2 := hb2.size
      obtain ⟨bx, hbx⟩ : ∃ b, b = wr.heap.size := ⟨_, rfl⟩
      rw [← hbx] at hI2 hszx hsr2 hsh2 hsw2 hsa2 hst2 hsr ⊢
      clear hbx t1 t2 t3 sx hIx hal hb2 hs
      obtain ⟨NS, hNS⟩ : ∃ NS, NS = y.ns.take 5 := ⟨_, rfl⟩
      obtain ⟨TS, hTS⟩ : ∃ TS, TS = (y.ts.take 4).map fun t => t.take 40 := ⟨_, rfl⟩
      obtain ⟨VS, hVS⟩ : ∃ VS, VS = (y.vs.take 4).map fun v => v.take 12 := ⟨_, rfl⟩
      have hNl : NS.length ≤ 5 := by rw [hNS, List.length_take]; omega
      have hTl : TS.length ≤ 4 := by rw [hTS, List.length_map, List.length_take]; omega
      have hVl : VS.length ≤ 4 := by rw [hVS, List.length_map, List.length_take]; omega
      have HTe : Hid (∀ t ∈ TS, t.length ≤ 40) := by
        intro t ht
        rw [hTS, List.mem_map] at ht
        obtain ⟨y, _, rfl⟩ := ht
        rw [List.length_take]; omega
      have HVe : Hid (∀ t ∈ VS, t.length ≤ 12) := by
        intro t ht
        rw [hVS, List.mem_map] at ht
        obtain ⟨y, _, rfl⟩ := ht
        rw [List.length_take]; omega
      rw [← hNS] at hn2
      rw [← hTS] at ht2
      rw [← hVS] at hv2
      clear hNS hTS hVS
      obtain ⟨an2, nn2, cn2, rfl⟩ := Sl.shape hn2
      obtain ⟨at2, nt2, ct2, rfl⟩ := Sl.shape ht2
      obtain ⟨av2, nv2, cv2, rfl⟩ := Sl.shape hv2
      obtain ⟨c0, c1, c2, c3, c4⟩ := hI2.cells
      obtain ⟨f0, f1, f2, f3, f4⟩ := hI2.frozen5
      go_wp2_with (first | ((with_reducible apply wpList_unguard); rfl) | (with_reducible refine stop_make ?_) | ((with_reducible apply len_B); assumption) | ((with_reducible apply len_BB); assumption)  | ((with_reducible apply len_N); assumption) | ((with_reducible apply len_V); assumption) | ((with_reducible apply len_VV); assumption) | ((with_reducible apply len_I); assumption)  | (with_reducible refine stop_builtin ?_) | (with_reducible refine stop_slice ?_) | (with_reducible refine stop_index_B ?_) | (with_reducible refine stop_index_BB ?_)  | (with_reducible refine stop_index_N ?_) | (with_reducible refine stop_index_V ?_) | (with_reducible refine stop_index_VV ?_) | (with_reducible refine stop_index_I ?_)  | (with_reducible refine stop_str_B ?_) | (with_reducible refine stop_mark_B ?_) | (with_reducible refine stop_buildSlice ?_))
      obtain ⟨vn2, hvn2⟩ : ∃ v : Value, v = .slice an2 nn2 cn2 := ⟨_, rfl⟩
      obtain ⟨vt2, hvt2⟩ : ∃ v : Value, v = .slice at2 nt2 ct2 := ⟨_, rfl⟩
      obtain ⟨vv2, hvv2⟩ : ∃ v : Value, v = .slice av2 nv2 cv2 := ⟨_, rfl⟩
      obtain ⟨w3, hw3⟩ : ∃ w3, w3 = ((((w2.setCell ⟨bx, 0, none⟩ (.int .u8 (d : Int))).setCell ⟨bx, 1, none⟩ (.slice an2 nn2 cn2)).setCell ⟨bx, 2, none⟩ (.slice at2 nt2 ct2)).setCell ⟨bx, 3, none⟩ (.slice av2 nv2 cv2)).setCell ⟨bx, 4, none⟩ (.int .i64 m) := ⟨_, rfl⟩
      have ho3 : Only (fun k => k = bx) w2 w3 := by
        rw [hw3]
        exact ((((Only.of_set w2 ⟨bx, 0, none⟩ _).trans (Only.of_set _ ⟨bx, 1, none⟩ _) (fun _ _ h => h)).trans (Only.of_set _ ⟨bx, 2, none⟩ _) (fun _ _ h => h)).trans (Only.of_set _ ⟨bx, 3, none⟩ _) (fun _ _ h => h)).trans (Only.of_set _ ⟨bx, 4, none⟩ _) (fun _ _ h => h)
      have hI3 : It w3 bx d (.slice an2 nn2 cn2) (.slice at2 nt2 ct2) (.slice av2 nv2 cv2) m := by
        rw [hw3]
        exact ((((hI2.set0 (d' := d)).set1 (v := .slice an2 nn2 cn2)).set2 (v := .slice at2 nt2 ct2)).set3 (v := .slice av2 nv2 cv2)).set4 (m' := m)
      rw [← hw3]
      clear hw3
      obtain ⟨T1, hT1⟩ : ∃ T1 : Nat → Prop, T1 = fun b => T b ∨ (bx ≤ b ∧ b < w3.heap.size) := ⟨_, rfl⟩
      have hs23 := ho3.size
      have s3' := s2.stay ho3 (by rintro k rfl; omega) (by omega) (fun b hb e => by have := hsh2 b hb; omega) (fun b hb e => by have := hsw2 b hb; omega) (fun b hb e => by have := hsa2 b hb; omega) (fun b hb e => by have := hst2 b hb; omega)
      have s3 := s3'.more (A := bx) (T' := T1) hsr2 hsh2 hsw2 hsa2 (fun b hb => by rw [hT1]; exact .inl hb) (fun b hb => by rw [hT1] at hb; exact hb)
      have hI3l := hI3.lt
      have hbxT : T1 bx := by rw [hT1]; exact .inr ⟨Nat.le_refl _, hI3l⟩
      have hn3 : Sl w3 T1 NS (.slice an2 nn2 cn2) := (hn2.only ho3 (by rintro b ⟨hb1, hb2⟩ _ e; have e : b = bx := e; omega)).wide (fun b hb hl => by rw [hT1]; exact .inr ⟨by have := hb.1; omega, hl⟩)
      have ht3 : Sl w3 T1 TS (.slice at2 nt2 ct2) := (ht2.only ho3 (by rintro b ⟨hb1, hb2⟩ _ e; have e : b = bx := e; omega)).wide (fun b hb hl => by rw [hT1]; exact .inr ⟨by have := hb.1; omega, hl⟩)
      have hv3 : Sl w3 T1 VS (.slice av2 nv2 cv2) := (hv2.only ho3 (by rintro b ⟨hb1, hb2⟩ _ e; have e : b = bx := e; omega)).wide (fun b hb hl => by rw [hT1]; exact .inr ⟨by have := hb.1; omega, hl⟩)
      have hy3 : Rep.rd w3 T1 (⟨y.d, NS, TS, VS, m⟩ : Itm) [.int .u8 (d : Int), .slice an2 nn2 cn2, .slice at2 nt2 ct2, .slice av2 nv2 cv2, .int .i64 m] := ⟨_, _, _, by rw [HD.out], hn3, ht3, hv3, m1, m2⟩
      rw [← hvn2] at hn3 hI3
      rw [← hvt2] at ht3 hI3
      rw [← hvv2] at hv3 hI3
      clear s2 hI2 hn2 ht2 hv2 ho3 s3' hT1 c0 c1 c2 c3 c4 f0 f1 f2 f3 f4
      refine Stop.go (push_I (s3.all : Own w3 _ _ _ _ _) (fun _ => rfl) (fun _ => rfl) rfl hy3 (fun b hb => ⟨s3.tlt b hb, s3.ta b hb⟩) (by have := HLl.out; omega) s3.below.size fun u v4 w4 g1 g0 g2 g3 => ?_)
      have s4 := s3.setAll (fun b hb => hb) g0 g1 g2 g3
      have hF := Only.of_grown g2
      have hI4 := hI3.only hF (s3.ta bx hbxT)
      have hn4 := hn3.only hF (fun b hb _ => s3.ta b hb)
      have ht4 := ht3.only hF (fun b hb _ => s3.ta b hb)
      have hv4 := hv3.only hF (fun b hb _ => s3.ta b hb)
      clear s3 hI3 hn3 ht3 hv3 hy3 g1 g2 g3 hF
      rw [hvn2, hvt2, hvv2] at hI4
      rw [hvn2] at hn4
      rw [hvt2] at ht4
      rw [hvv2] at hv4
      clear hvn2 hvt2 hvv2
      obtain ⟨c0, c1, c2, c3, c4⟩ := hI4.cells
      rcases (show d % 3 = 0 ∨ d % 3 = 1 ∨ d % 3 = 2 by omega) with h3 | h3 | h3
      · have hk0 : ((d : Int) % 3 == 0) = true := by simp; omega
        have hk1 : ((d : Int) % 3 == 1) = false := by simp; omega
        have hFI : encItem ⟨y.d, NS, TS, VS, m⟩ = encs NS := by
          unfold encItem
          simp only
          rw [← HD.out, if_pos h3]
        have HFI := Lib.hid hFI
        have hall := encs_len NS
        clear hFI
        go_wp2_with (first | ((with_reducible apply wpList_unguard); rfl) | (with_reducible refine stop_make ?_) | ((with_reducible apply len_B); assumption) | ((with_reducible apply len_BB); assumption)  | ((with_reducible apply len_N); assumption) | ((with_reducible apply len_V); assumption) | ((with_reducible apply len_VV); assumption) | ((with_reducible apply len_I); assumption)  | (with_reducible refine stop_builtin ?_) | (with_reducible refine stop_slice ?_) | (with_reducible refine stop_index_B ?_) | (with_reducible refine stop_index_BB ?_)  | (with_reducible refine stop_index_N ?_) | (with_reducible refine stop_index_V ?_) | (with_reducible refine stop_index_VV ?_) | (with_reducible refine stop_index_I ?_)  | (with_reducible refine stop_str_B ?_) | (with_reducible refine stop_mark_B ?_) | (with_reducible refine stop_buildSlice ?_))
        refine (wnums_any w4 g h F _ NS (.slice an2 nn2 cn2) s4.wf.wr hn4 (fun b hb => ⟨s4.tlt b (.inl hb), s4.tg b (.inl hb), s4.th b (.inl hb)⟩) (by omega) (by omega)).mono ?_
        rintro e w5 ⟨rfl, h5, a1, a2⟩
        have s5 := s4.write a1 a2
        have hI5 := hI4.only a2.2 (by
          rintro (e | e)
          · exact s4.tg bx (.inl hbxT) e
          · exact s4.th bx (.inl hbxT) e)
        have hx5 := hn4.only a2.2 (by
          rintro b hb _ (e | e)
          · exact s4.tg b (.inl hb) e
          · exact s4.th b (.inl hb) e)
        clear a1 a2 s4 hn4 ht4 hv4 hI4
        obtain ⟨c0, c1, c2, c3, c4⟩ := hI5.cells
        go_wp2_with (first | ((with_reducible apply wpList_unguard); rfl) | (with_reducible refine stop_make ?_) | ((with_reducible apply len_B); assumption) | ((with_reducible apply len_BB); assumption)  | ((with_reducible apply len_N); assumption) | ((with_reducible apply len_V); assumption) | ((with_reducible apply len_VV); assumption) | ((with_reducible apply len_I); assumption)  | (with_reducible refine stop_builtin ?_) | (with_reducible refine stop_slice ?_) | (with_reducible refine stop_index_B ?_) | (with_reducible refine stop_index_BB ?_)  | (with_reducible refine stop_index_N ?_) | (with_reducible refine stop_index_V ?_) | (with_reducible refine stop_index_VV ?_) | (with_reducible refine stop_index_I ?_)  | (with_reducible refine stop_str_B ?_) | (with_reducible refine stop_mark_B ?_) | (with_reducible refine stop_buildSlice ?_))
        go_loopg [4, 9, 72] (NS.length + 1) (fun k x4 x9 i wr => ∃ i' : Nat, k = NS.length - i' + 1 ∧ i' ≤ NS.length ∧ i = .int .i64 i' ∧ Ws w0 wr g h5 (F ++ encs NS) x4 (F ++ encs (NS.take i')) v4 (L ++ [⟨y.d, NS, TS, VS, m⟩]) (fun b => T1 b ∨ b = w3.heap.size) ∧ Sl wr T1 NS (.slice an2 nn2 cn2))
        case atStart => exact ⟨0, by omega, by omega, rfl, by simpa [encs] using s5, hx5⟩
        case round =>
          obtain ⟨i, hki, hil2, rfl, si, hxi⟩ := hrel
          have Hki := Lib.hid hki
          clear hki c0 c1 c2 c3 c4 s5 hx5 hI5
          have hpart := encs_len (NS.take i)
          rw [List.length_take] at hpart
          by_cases hlt2 : i < NS.length
          · go_wp2_with (first | ((with_reducible apply wpList_unguard); rfl) | (with_reducible refine stop_make ?_) | ((with_reducible apply len_B); assumption) | ((with_reducible apply len_BB); assumption)  | ((with_reducible apply len_N); assumption) | ((with_reducible apply len_V); assumption) | ((with_reducible apply len_VV); assumption) | ((with_reducible apply len_I); assumption)  | (with_reducible refine stop_builtin ?_) | (with_reducible refine stop_slice ?_) | (with_reducible refine stop_index_B ?_) | (with_reducible refine stop_index_BB ?_)  | (with_reducible refine stop_index_N ?_) | (with_reducible refine stop_index_V ?_) | (with_reducible refine stop_index_VV ?_) | (with_reducible refine stop_index_I ?_)  | (with_reducible refine stop_str_B ?_) | (with_reducible refine stop_mark_B ?_) | (with_reducible refine stop_buildSlice ?_))
            refine Stop.go (idx_N hxi rfl (by omega) (by omega) fun b6 o6 z hz hcell => ?_)
            have Hz := Lib.hid hz
            clear hz
            have hpre := enc_len10 z.toNat z.toNat_lt
            go_wp2_with (first | ((with_reducible apply wpList_unguard); rfl) | (with_reducible refine stop_make ?_) | ((with_reducible apply len_B); assumption) | ((with_reducible apply len_BB); assumption)  | ((with_reducible apply len_N); assumption) | ((with_reducible apply len_V); assumption) | ((with_reducible apply len_VV); assumption) | ((with_reducible apply len_I); assumption)  | (with_reducible refine stop_builtin ?_) | (with_reducible refine stop_slice ?_) | (with_reducible refine stop_index_B ?_) | (with_reducible refine stop_index_BB ?_)  | (with_reducible refine stop_index_N ?_) | (with_reducible refine stop_index_V ?_) | (with_reducible refine stop_index_VV ?_) | (with_reducible refine stop_index_I ?_)  | (with_reducible refine stop_str_B ?_) | (with_reducible refine stop_mark_B ?_) | (with_reducible refine stop_buildSlice ?_))
            refine (rnum02_any z.toNat wr z.toNat_lt).mono ?_
            rintro e w6 ⟨v6, rfl, hv6, hb6⟩
            have s6 := si.alloc hb6
            have hx6 := hxi.keep (S' := T1) (w' := w6) (fun b hb hlt => ⟨hb6.block b (si.tlt b (.inl hb)), hb⟩)
            clear hcell si hxi
            go_wp2_with (first | ((with_reducible apply wpList_unguard); rfl) | (with_reducible refine stop_make ?_) | ((with_reducible apply len_B); assumption) | ((with_reducible apply len_BB); assumption)  | ((with_reducible apply len_N); assumption) | ((with_reducible apply len_V); assumption) | ((with_reducible apply len_VV); assumption) | ((with_reducible apply len_I); assumption)  | (with_reducible refine stop_builtin ?_) | (with_reducible refine stop_slice ?_) | (with_reducible refine stop_index_B ?_) | (with_reducible refine stop_index_BB ?_)  | (with_reducible refine stop_index_N ?_) | (with_reducible refine stop_index_V ?_) | (with_reducible refine stop_index_VV ?_) | (with_reducible refine stop_index_I ?_)  | (with_reducible refine stop_str_B ?_) | (with_reducible refine stop_mark_B ?_) | (with_reducible refine stop_buildSlice ?_))
            refine Stop.go (app_B (s6.wnt : OwnB w6 _ _ _) hv6.sl' (by rw [List.length_append]; omega) s6.below.size fun v7 w7 g1 g2 g3 => ?_)
            have s7 := s6.setWant g1 g2 g3
            have hx7 := hx6.only (Only.of_grown g2) (fun b hb _ e => s6.tw b (.inl hb) e)
            clear s6 hx6 g1 g2 g3
            go_wp2_with (first | ((with_reducible apply wpList_unguard); rfl) | (with_reducible refine stop_make ?_) | ((with_reducible apply len_B); assumption) | ((with_reducible apply len_BB); assumption)  | ((with_reducible apply len_N); assumption) | ((with_reducible apply len_V); assumption) | ((with_reducible apply len_VV); assumption) | ((with_reducible apply len_I); assumption)  | (with_reducible refine stop_builtin ?_) | (with_reducible refine stop_slice ?_) | (with_reducible refine stop_index_B ?_) | (with_reducible refine stop_index_BB ?_)  | (with_reducible refine stop_index_N ?_) | (with_reducible refine stop_index_V ?_) | (with_reducible refine stop_index_VV ?_) | (with_reducible refine stop_index_I ?_)  | (with_reducible refine stop_str_B ?_) | (with_reducible refine stop_mark_B ?_) | (with_reducible refine stop_buildSlice ?_))
            go_roundg (NS.length - (i + 1) + 1)
            case measure => have := Hki.out; omega
            case rel =>
              have e := flatMap_snoc (fun n : UInt64 => enc n.toNat) NS i z (by simpa using Hz.out)
              have e2 : encs (NS.take (i + 1)) = encs (NS.take i) ++ enc z.toNat := e
              refine ⟨i + 1, by omega, by omega, by go_num, ?_, hx7⟩
              rw [e2, ← List.append_assoc]
              exact s7
          · rw [List.take_of_length_le (by omega)] at si
            clear hpart
            go_wp2_with (first | ((with_reducible apply wpList_unguard); rfl) | (with_reducible refine stop_make ?_) | ((with_reducible apply len_B); assumption) | ((with_reducible apply len_BB); assumption)  | ((with_reducible apply len_N); assumption) | ((with_reducible apply len_V); assumption) | ((with_reducible apply len_VV); assumption) | ((with_reducible apply len_I); assumption)  | (with_reducible refine stop_builtin ?_) | (with_reducible refine stop_slice ?_) | (with_reducible refine stop_index_B ?_) | (with_reducible refine stop_index_BB ?_)  | (with_reducible refine stop_index_N ?_) | (with_reducible refine stop_index_V ?_) | (with_reducible refine stop_index_VV ?_) | (with_reducible refine stop_index_I ?_)  | (with_reducible refine stop_str_B ?_) | (with_reducible refine stop_mark_B ?_) | (with_reducible refine stop_buildSlice ?_))
            refine (wbytes_any wr g h5 _ si.wf.wr (by rw [List.length_append]; omega)).mono ?_
            rintro e w8 ⟨p8, rfl, hp8, hb8⟩
            have s8 := si.alloc hb8
            clear si
            go_wp2_with (first | ((with_reducible apply wpList_unguard); rfl) | (with_reducible refine stop_make ?_) | ((with_reducible apply len_B); assumption) | ((with_reducible apply len_BB); assumption)  | ((with_reducible apply len_N); assumption) | ((with_reducible apply len_V); assumption) | ((with_reducible apply len_VV); assumption) | ((with_reducible apply len_I); assumption)  | (with_reducible refine stop_builtin ?_) | (with_reducible refine stop_slice ?_) | (with_reducible refine stop_index_B ?_) | (with_reducible refine stop_index_BB ?_)  | (with_reducible refine stop_index_N ?_) | (with_reducible refine stop_index_V ?_) | (with_reducible refine stop_index_VV ?_) | (with_reducible refine stop_index_I ?_)  | (with_reducible refine stop_str_B ?_) | (with_reducible refine stop_mark_B ?_) | (with_reducible refine stop_buildSlice ?_))
            refine (same_any w8 _ _ _ _ p8 _ hp8.sl' s8.wnt.sl').mono ?_
            rintro e w' ⟨rfl, rfl⟩
            rw [beq_self_eq_true]
            go_wp2_with (first | ((with_reducible apply wpList_unguard); rfl) | (with_reducible refine stop_make ?_) | ((with_reducible apply len_B); assumption) | ((with_reducible apply len_BB); assumption)  | ((with_reducible apply len_N); assumption) | ((with_reducible apply len_V); assumption) | ((with_reducible apply len_VV); assumption) | ((with_reducible apply len_I); assumption)  | (with_reducible refine stop_builtin ?_) | (with_reducible refine stop_slice ?_) | (with_reducible refine stop_index_B ?_) | (with_reducible refine stop_index_BB ?_)  | (with_reducible refine stop_index_N ?_) | (with_reducible refine stop_index_V ?_) | (with_reducible refine stop_index_VV ?_) | (with_reducible refine stop_index_I ?_)  | (with_reducible refine stop_str_B ?_) | (with_reducible refine stop_mark_B ?_) | (with_reducible refine stop_buildSlice ?_))
            go_roundg (its.length - (j + 1) + 1)
            case measure => have := Hk.out; omega
            case rel =>
              refine ⟨j + 1, h5, F ++ encs NS, L ++ [⟨y.d, NS, TS, VS, m⟩], _, by omega, by omega, by omega, by go_num, s8, by rw [List.length_append, HLl.out]; rfl, ?_, ?_, by rw [List.length_append]; omega⟩
              · intro z hz
                rcases List.mem_append.1 hz with hz | hz
                · exact HFit.out z hz
                · simp at hz; subst hz; exact ⟨hNl, hTl, HTe.out, hVl, HVe.out⟩
              · rw [encItems_snoc, HFI.out, HF.out]
      · have hk0 : ((d : Int) % 3 == 0) = false := by simp; omega
        have hk1 : ((d : Int) % 3 == 1) = true := by simp; omega
        have hFI : encItem ⟨y.d, NS, TS, VS, m⟩ = encTexts TS := by
          unfold encItem
          simp only
          rw [← HD.out, if_neg (by omega), if_pos h3]
        have HFI := Lib.hid hFI
        have hall := encTexts_len 40 (by decide) TS HTe.out
        clear hFI
        go_wp2_with (first | ((with_reducible apply wpList_unguard); rfl) | (with_reducible refine stop_make ?_) | ((with_reducible apply len_B); assumption) | ((with_reducible apply len_BB); assumption)  | ((with_reducible apply len_N); assumption) | ((with_reducible apply len_V); assumption) | ((with_reducible apply len_VV); assumption) | ((with_reducible apply len_I); assumption)  | (with_reducible refine stop_builtin ?_) | (with_reducible refine stop_slice ?_) | (with_reducible refine stop_index_B ?_) | (with_reducible refine stop_index_BB ?_)  | (with_reducible refine stop_index_N ?_) | (with_reducible refine stop_index_V ?_) | (with_reducible refine stop_index_VV ?_) | (with_reducible refine stop_index_I ?_)  | (with_reducible refine stop_str_B ?_) | (with_reducible refine stop_mark_B ?_) | (with_reducible refine stop_buildSlice ?_))
        refine (wtext_any w4 g h F _ TS (.slice at2 nt2 ct2) s4.wf.wr ht4 (fun b hb => ⟨s4.tlt b (.inl hb), s4.tg b (.inl hb), s4.th b (.inl hb)⟩) (by omega) (by omega) (fun t ht => by have := HTe.out t ht; omega)).mono ?_
        rintro e w5 ⟨rfl, h5, a1, a2⟩
        have s5 := s4.write a1 a2
        have hI5 := hI4.only a2.2 (by
          rintro (e | e)
          · exact s4.tg bx (.inl hbxT) e
          · exact s4.th bx (.inl hbxT) e)
        have hx5 := ht4.only a2.2 (by
          rintro b hb _ (e | e)
          · exact s4.tg b (.inl hb) e
          · exact s4.th b (.inl hb) e)
        clear a1 a2 s4 hn4 ht4 hv4 hI4
        obtain ⟨c0, c1, c2, c3, c4⟩ := hI5.cells
        go_wp2_with (first | ((with_reducible apply wpList_unguard); rfl) | (with_reducible refine stop_make ?_) | ((with_reducible apply len_B); assumption) | ((with_reducible apply len_BB); assumption)  | ((with_reducible apply len_N); assumption) | ((with_reducible apply len_V); assumption) | ((with_reducible apply len_VV); assumption) | ((with_reducible apply len_I); assumption)  | (with_reducible refine stop_builtin ?_) | (with_reducible refine stop_slice ?_) | (with_reducible refine stop_index_B ?_) | (with_reducible refine stop_index_BB ?_)  | (with_reducible refine stop_index_N ?_) | (with_reducible refine stop_index_V ?_) | (with_reducible refine stop_index_VV ?_) | (with_reducible refine stop_index_I ?_)  | (with_reducible refine stop_str_B ?_) | (with_reducible refine stop_mark_B ?_) | (with_reducible refine stop_buildSlice ?_))
        go_loopg [4, 11, 90] (TS.length + 1) (fun k x4 x9 i wr => ∃ i' : Nat, k = TS.length - i' + 1 ∧ i' ≤ TS.length ∧ i = .int .i64 i' ∧ Ws w0 wr g h5 (F ++ encTexts TS) x4 (F ++ encTexts (TS.take i')) v4 (L ++ [⟨y.d, NS, TS, VS, m⟩]) (fun b => T1 b ∨ b = w3.heap.size) ∧ Sl wr T1 TS (.slice at2 nt2 ct2))
        case atStart => exact ⟨0, by omega, by omega, rfl, by simpa [encTexts] using s5, hx5⟩
        case round =>
          obtain ⟨i, hki, hil2, rfl, si, hxi⟩ := hrel
          have Hki := Lib.hid hki
          clear hki c0 c1 c2 c3 c4 s5 hx5 hI5
          have hpart := encTexts_len 40 (by decide) (TS.take i) (fun t ht => HTe.out t (List.mem_of_mem_take ht))
          rw [List.length_take] at hpart
          by_cases hlt2 : i < TS.length
          · go_wp2_with (first | ((with_reducible apply wpList_unguard); rfl) | (with_reducible refine stop_make ?_) | ((with_reducible apply len_B); assumption) | ((with_reducible apply len_BB); assumption)  | ((with_reducible apply len_N); assumption) | ((with_reducible apply len_V); assumption) | ((with_reducible apply len_VV); assumption) | ((with_reducible apply len_I); assumption)  | (with_reducible refine stop_builtin ?_) | (with_reducible refine stop_slice ?_) | (with_reducible refine stop_index_B ?_) | (with_reducible refine stop_index_BB ?_)  | (with_reducible refine stop_index_N ?_) | (with_reducible refine stop_index_V ?_) | (with_reducible refine stop_index_VV ?_) | (with_reducible refine stop_index_I ?_)  | (with_reducible refine stop_str_B ?_) | (with_reducible refine stop_mark_B ?_) | (with_reducible refine stop_buildSlice ?_))
            refine Stop.go (idx_BB hxi rfl (by omega) (by omega) fun b6 o6 z u6 hz hu6 hcell => ?_)
            have hzl : z.length ≤ 40 := HTe.out z (List.mem_of_getElem? hz)
            have Hz := Lib.hid hz
            clear hz
            have hpre := encText_len z (by omega)
            go_wp2_with (first | ((with_reducible apply wpList_unguard); rfl) | (with_reducible refine stop_make ?_) | ((with_reducible apply len_B); assumption) | ((with_reducible apply len_BB); assumption)  | ((with_reducible apply len_N); assumption) | ((with_reducible apply len_V); assumption) | ((with_reducible apply len_VV); assumption) | ((with_reducible apply len_I); assumption)  | (with_reducible refine stop_builtin ?_) | (with_reducible refine stop_slice ?_) | (with_reducible refine stop_index_B ?_) | (with_reducible refine stop_index_BB ?_)  | (with_reducible refine stop_index_N ?_) | (with_reducible refine stop_index_V ?_) | (with_reducible refine stop_index_VV ?_) | (with_reducible refine stop_index_I ?_)  | (with_reducible refine stop_str_B ?_) | (with_reducible refine stop_mark_B ?_) | (with_reducible refine stop_buildSlice ?_))
            refine (text02_any wr _ z u6 hu6 (by omega)).mono ?_
            rintro e w6 ⟨v6, rfl, hv6, hb6⟩
            have s6 := si.alloc hb6
            have hx6 := hxi.keep (S' := T1) (w' := w6) (fun b hb hlt => ⟨hb6.block b (si.tlt b (.inl hb)), hb⟩)
            clear hcell si hxi
            go_wp2_with (first | ((with_reducible apply wpList_unguard); rfl) | (with_reducible refine stop_make ?_) | ((with_reducible apply len_B); assumption) | ((with_reducible apply len_BB); assumption)  | ((with_reducible apply len_N); assumption) | ((with_reducible apply len_V); assumption) | ((with_reducible apply len_VV); assumption) | ((with_reducible apply len_I); assumption)  | (with_reducible refine stop_builtin ?_) | (with_reducible refine stop_slice ?_) | (with_reducible refine stop_index_B ?_) | (with_reducible refine stop_index_BB ?_)  | (with_reducible refine stop_index_N ?_) | (with_reducible refine stop_index_V ?_) | (with_reducible refine stop_index_VV ?_) | (with_reducible refine stop_index_I ?_)  | (with_reducible refine stop_str_B ?_) | (with_reducible refine stop_mark_B ?_) | (with_reducible refine stop_buildSlice ?_))
            refine Stop.go (app_B (s6.wnt : OwnB w6 _ _ _) hv6.sl' (by rw [List.length_append]; omega) s6.below.size fun v7 w7 g1 g2 g3 => ?_)
            have s7 := s6.setWant g1 g2 g3
            have hx7 := hx6.only (Only.of_grown g2) (fun b hb _ e => s6.tw b (.inl hb) e)
            clear s6 hx6 g1 g2 g3
            go_wp2_with (first | ((with_reducible apply wpList_unguard); rfl) | (with_reducible refine stop_make ?_) | ((with_reducible apply len_B); assumption) | ((with_reducible apply len_BB); assumption)  | ((with_reducible apply len_N); assumption) | ((with_reducible apply len_V); assumption) | ((with_reducible apply len_VV); assumption) | ((with_reducible apply len_I); assumption)  | (with_reducible refine stop_builtin ?_) | (with_reducible refine stop_slice ?_) | (with_reducible refine stop_index_B ?_) | (with_reducible refine stop_index_BB ?_)  | (with_reducible refine stop_index_N ?_) | (with_reducible refine stop_index_V ?_) | (with_reducible refine stop_index_VV ?_) | (with_reducible refine stop_index_I ?_)  | (with_reducible refine stop_str_B ?_) | (with_reducible refine stop_mark_B ?_) | (with_reducible refine stop_buildSlice ?_))
            go_roundg (TS.length - (i + 1) + 1)
            case measure => have := Hki.out; omega
            case rel =>
              have e := flatMap_snoc encText TS i z (by simpa using Hz.out)
              have e2 : encTexts (TS.take (i + 1)) = encTexts (TS.take i) ++ encText z := e
              refine ⟨i + 1, by omega, by omega, by go_num, ?_, hx7⟩
              rw [e2, ← List.append_assoc]
              exact s7
          · rw [List.take_of_length_le (by omega)] at si
            clear hpart
            go_wp2_with (first | ((with_reducible apply wpList_unguard); rfl) | (with_reducible refine stop_make ?_) | ((with_reducible apply len_B); assumption) | ((with_reducible apply len_BB); assumption)  | ((with_reducible apply len_N); assumption) | ((with_reducible apply len_V); assumption) | ((with_reducible apply len_VV); assumption) | ((with_reducible apply len_I); assumption)  | (with_reducible refine stop_builtin ?_) | (with_reducible refine stop_slice ?_) | (with_reducible refine stop_index_B ?_) | (with_reducible refine stop_index_BB ?_)  | (with_reducible refine stop_index_N ?_) | (with_reducible refine stop_index_V ?_) | (with_reducible refine stop_index_VV ?_) | (with_reducible refine stop_index_I ?_)  | (with_reducible refine stop_str_B ?_) | (with_reducible refine stop_mark_B ?_) | (with_reducible refine stop_buildSlice ?_))
            refine (wbytes_any wr g h5 _ si.wf.wr (by rw [List.length_append]; omega)).mono ?_
            rintro e w8 ⟨p8, rfl, hp8, hb8⟩
            have s8 := si.alloc hb8
            clear si
            go_wp2_with (first | ((with_reducible apply wpList_unguard); rfl) | (with_reducible refine stop_make ?_) | ((with_reducible apply len_B); assumption) | ((with_reducible apply len_BB); assumption)  | ((with_reducible apply len_N); assumption) | ((with_reducible apply len_V); assumption) | ((with_reducible apply len_VV); assumption) | ((with_reducible apply len_I); assumption)  | (with_reducible refine stop_builtin ?_) | (with_reducible refine stop_slice ?_) | (with_reducible refine stop_index_B ?_) | (with_reducible refine stop_index_BB ?_)  | (with_reducible refine stop_index_N ?_) | (with_reducible refine stop_index_V ?_) | (with_reducible refine stop_index_VV ?_) | (with_reducible refine stop_index_I ?_)  | (with_reducible refine stop_str_B ?_) | (with_reducible refine stop_mark_B ?_) | (with_reducible refine stop_buildSlice ?_))
            refine (same_any w8 _ _ _ _ p8 _ hp8.sl' s8.wnt.sl').mono ?_
            rintro e w' ⟨rfl, rfl⟩
            rw [beq_self_eq_true]
            go_wp2_with (first | ((with_reducible apply wpList_unguard); rfl) | (with_reducible refine stop_make ?_) | ((with_reducible apply len_B); assumption) | ((with_reducible apply len_BB); assumption)  | ((with_reducible apply len_N); assumption) | ((with_reducible apply len_V); assumption) | ((with_reducible apply len_VV); assumption) | ((with_reducible apply len_I); assumption)  | (with_reducible refine stop_builtin ?_) | (with_reducible refine stop_slice ?_) | (with_reducible refine stop_index_B ?_) | (with_reducible refine stop_index_BB ?_)  | (with_reducible refine stop_index_N ?_) | (with_reducible refine stop_index_V ?_) | (with_reducible refine stop_index_VV ?_) | (with_reducible refine stop_index_I ?_)  | (with_reducible refine stop_str_B ?_) | (with_reducible refine stop_mark_B ?_) | (with_reducible refine stop_buildSlice ?_))
            go_roundg (its.length - (j + 1) + 1)
            case measure => have := Hk.out; omega
            case rel =>
              refine ⟨j + 1, h5, F ++ encTexts TS, L ++ [⟨y.d, NS, TS, VS, m⟩], _, by omega, by omega, by omega, by go_num, s8, by rw [List.length_append, HLl.out]; rfl, ?_, ?_, by rw [List.length_append]; omega⟩
              · intro z hz
                rcases List.mem_append.1 hz with hz | hz
                · exact HFit.out z hz
                · simp at hz; subst hz; exact ⟨hNl, hTl, HTe.out, hVl, HVe.out⟩
              · rw [encItems_snoc, HFI.out, HF.out]
      · have hk0 : ((d : Int) % 3 == 0) = false := by simp; omega
        have hk1 : ((d : Int) % 3 == 1) = false := by simp; omega
        have hFI : encItem ⟨y.d, NS, TS, VS, m⟩ = encVecs VS := by
          unfold encItem
          simp only
          rw [← HD.out, if_neg (by omega), if_neg (by omega)]
        have HFI := Lib.hid hFI
        have hall := encVecs_len 12 (by decide) VS HVe.out
        clear hFI
        go_wp2_with (first | ((with_reducible apply wpList_unguard); rfl) | (with_reducible refine stop_make ?_) | ((with_reducible apply len_B); assumption) | ((with_reducible apply len_BB); assumption)  | ((with_reducible apply len_N); assumption) | ((with_reducible apply len_V); assumption) | ((with_reducible apply len_VV); assumption) | ((with_reducible apply len_I); assumption)  | (with_reducible refine stop_builtin ?_) | (with_reducible refine stop_slice ?_) | (with_reducible refine stop_index_B ?_) | (with_reducible refine stop_index_BB ?_)  | (with_reducible refine stop_index_N ?_) | (with_reducible refine stop_index_V ?_) | (with_reducible refine stop_index_VV ?_) | (with_reducible refine stop_index_I ?_)  | (with_reducible refine stop_str_B ?_) | (with_reducible refine stop_mark_B ?_) | (with_reducible refine stop_buildSlice ?_))
        refine (wvecs_any w4 g h F _ VS (.slice av2 nv2 cv2) s4.wf.wr hv4 (fun b hb => ⟨s4.tlt b (.inl hb), s4.tg b (.inl hb), s4.th b (.inl hb)⟩) (by omega) (by omega) (fun t ht => by have := HVe.out t ht; omega)).mono ?_
        rintro e w5 ⟨rfl, h5, a1, a2⟩
        have s5 := s4.write a1 a2
        have hI5 := hI4.only a2.2 (by
          rintro (e | e)
          · exact s4.tg bx (.inl hbxT) e
          · exact s4.th bx (.inl hbxT) e)
        have hx5 := hv4.only a2.2 (by
          rintro b hb _ (e | e)
          · exact s4.tg b (.inl hb) e
          · exact s4.th b (.inl hb) e)
        clear a1 a2 s4 hn4 ht4 hv4 hI4
        obtain ⟨c0, c1, c2, c3, c4⟩ := hI5.cells
        go_wp2_with (first | ((with_reducible apply wpList_unguard); rfl) | (with_reducible refine stop_make ?_) | ((with_reducible apply len_B); assumption) | ((with_reducible apply len_BB); assumption)  | ((with_reducible apply len_N); assumption) | ((with_reducible apply len_V); assumption) | ((with_reducible apply len_VV); assumption) | ((with_reducible apply len_I); assumption)  | (with_reducible refine stop_builtin ?_) | (with_reducible refine stop_slice ?_) | (with_reducible refine stop_index_B ?_) | (with_reducible refine stop_index_BB ?_)  | (with_reducible refine stop_index_N ?_) | (with_reducible refine stop_index_V ?_) | (with_reducible refine stop_index_VV ?_) | (with_reducible refine stop_index_I ?_)  | (with_reducible refine stop_str_B ?_) | (with_reducible refine stop_mark_B ?_) | (with_reducible refine stop_buildSlice ?_))
        go_loopg [4, 13, 54] (VS.length + 1) (fun k x4 x9 i wr => ∃ i' : Nat, k = VS.length - i' + 1 ∧ i' ≤ VS.length ∧ i = .int .i64 i' ∧ Ws w0 wr g h5 (F ++ encVecs VS) x4 (F ++ encVecs (VS.take i')) v4 (L ++ [⟨y.d, NS, TS, VS, m⟩]) (fun b => T1 b ∨ b = w3.heap.size) ∧ Sl wr T1 VS (.slice av2 nv2 cv2))
        case atStart => exact ⟨0, by omega, by omega, rfl, by simpa [encVecs] using s5, hx5⟩
        case round =>
          obtain ⟨i, hki, hil2, rfl, si, hxi⟩ := hrel
          have Hki := Lib.hid hki
          clear hki c0 c1 c2 c3 c4 s5 hx5 hI5
          have hpart := encVecs_len 12 (by decide) (VS.take i) (fun t ht => HVe.out t (List.mem_of_mem_take ht))
          rw [List.length_take] at hpart
          by_cases hlt2 : i < VS.length
          · go_wp2_with (first | ((with_reducible apply wpList_unguard); rfl) | (with_reducible refine stop_make ?_) | ((with_reducible apply len_B); assumption) | ((with_reducible apply len_BB); assumption)  | ((with_reducible apply len_N); assumption) | ((with_reducible apply len_V); assumption) | ((with_reducible apply len_VV); assumption) | ((with_reducible apply len_I); assumption)  | (with_reducible refine stop_builtin ?_) | (with_reducible refine stop_slice ?_) | (with_reducible refine stop_index_B ?_) | (with_reducible refine stop_index_BB ?_)  | (with_reducible refine stop_index_N ?_) | (with_reducible refine stop_index_V ?_) | (with_reducible refine stop_index_VV ?_) | (with_reducible refine stop_index_I ?_)  | (with_reducible refine stop_str_B ?_) | (with_reducible refine stop_mark_B ?_) | (with_reducible refine stop_buildSlice ?_))
            refine Stop.go (idx_VV hxi rfl (by omega) (by omega) fun b6 o6 z u6 hz hu6 hcell => ?_)
            have hzl : z.length ≤ 12 := HVe.out z (List.mem_of_getElem? hz)
            have Hz := Lib.hid hz
            clear hz
            have hpre := encVec_len z (by omega)
            go_wp2_with (first | ((with_reducible apply wpList_unguard); rfl) | (with_reducible refine stop_make ?_) | ((with_reducible apply len_B); assumption) | ((with_reducible apply len_BB); assumption)  | ((with_reducible apply len_N); assumption) | ((with_reducible apply len_V); assumption) | ((with_reducible apply len_VV); assumption) | ((with_reducible apply len_I); assumption)  | (with_reducible refine stop_builtin ?_) | (with_reducible refine stop_slice ?_) | (with_reducible refine stop_index_B ?_) | (with_reducible refine stop_index_BB ?_)  | (with_reducible refine stop_index_N ?_) | (with_reducible refine stop_index_V ?_) | (with_reducible refine stop_index_VV ?_) | (with_reducible refine stop_index_I ?_)  | (with_reducible refine stop_str_B ?_) | (with_reducible refine stop_mark_B ?_) | (with_reducible refine stop_buildSlice ?_))
            refine (vec02_any wr _ z u6 hu6 (by omega)).mono ?_
            rintro e w6 ⟨v6, rfl, hv6, hb6⟩
            have s6 := si.alloc hb6
            have hx6 := hxi.keep (S' := T1) (w' := w6) (fun b hb hlt => ⟨hb6.block b (si.tlt b (.inl hb)), hb⟩)
            clear hcell si hxi
            go_wp2_with (first | ((with_reducible apply wpList_unguard); rfl) | (with_reducible refine stop_make ?_) | ((with_reducible apply len_B); assumption) | ((with_reducible apply len_BB); assumption)  | ((with_reducible apply len_N); assumption) | ((with_reducible apply len_V); assumption) | ((with_reducible apply len_VV); assumption) | ((with_reducible apply len_I); assumption)  | (with_reducible refine stop_builtin ?_) | (with_reducible refine stop_slice ?_) | (with_reducible refine stop_index_B ?_) | (with_reducible refine stop_index_BB ?_)  | (with_reducible refine stop_index_N ?_) | (with_reducible refine stop_index_V ?_) | (with_reducible refine stop_index_VV ?_) | (with_reducible refine stop_index_I ?_)  | (with_reducible refine stop_str_B ?_) | (with_reducible refine stop_mark_B ?_) | (with_reducible refine stop_buildSlice ?_))
            refine Stop.go (app_B (s6.wnt : OwnB w6 _ _ _) hv6.sl' (by rw [List.length_append]; omega) s6.below.size fun v7 w7 g1 g2 g3 => ?_)
            have s7 := s6.setWant g1 g2 g3
            have hx7 := hx6.only (Only.of_grown g2) (fun b hb _ e => s6.tw b (.inl hb) e)
            clear s6 hx6 g1 g2 g3
            go_wp2_with (first | ((with_reducible apply wpList_unguard); rfl) | (with_reducible refine stop_make ?_) | ((with_reducible apply len_B); assumption) | ((with_reducible apply len_BB); assumption)  | ((with_reducible apply len_N); assumption) | ((with_reducible apply len_V); assumption) | ((with_reducible apply len_VV); assumption) | ((with_reducible apply len_I); assumption)  | (with_reducible refine stop_builtin ?_) | (with_reducible refine stop_slice ?_) | (with_reducible refine stop_index_B ?_) | (with_reducible refine stop_index_BB ?_)  | (with_reducible refine stop_index_N ?_) | (with_reducible refine stop_index_V ?_) | (with_reducible refine stop_index_VV ?_) | (with_reducible refine stop_index_I ?_)  | (with_reducible refine stop_str_B ?_) | (with_reducible refine stop_mark_B ?_) | (with_reducible refine stop_buildSlice ?_))
            go_roundg (VS.length - (i + 1) + 1)
            case measure => have := Hki.out; omega
            case rel =>
              have e := flatMap_snoc encVec VS i z (by simpa using Hz.out)
              have e2 : encVecs (VS.take (i + 1)) = encVecs (VS.take i) ++ encVec z := e
              refine ⟨i + 1, by omega, by omega, by go_num, ?_, hx7⟩
              rw [e2, ← List.append_assoc]
              exact s7
          · rw [List.take_of_length_le (by omega)] at si
            clear hpart
            go_wp2_with (first | ((with_reducible apply wpList_unguard); rfl) | (with_reducible refine stop_make ?_) | ((with_reducible apply len_B); assumption) | ((with_reducible apply len_BB); assumption)  | ((with_reducible apply len_N); assumption) | ((with_reducible apply len_V); assumption) | ((with_reducible apply len_VV); assumption) | ((with_reducible apply len_I); assumption)  | (with_reducible refine stop_builtin ?_) | (with_reducible refine stop_slice ?_) | (with_reducible refine stop_index_B ?_) | (with_reducible refine stop_index_BB ?_)  | (with_reducible refine stop_index_N ?_) | (with_reducible refine stop_index_V ?_) | (with_reducible refine stop_index_VV ?_) | (with_reducible refine stop_index_I ?_)  | (with_reducible refine stop_str_B ?_) | (with_reducible refine stop_mark_B ?_) | (with_reducible refine stop_buildSlice ?_))
            refine (wbytes_any wr g h5 _ si.wf.wr (by rw [List.length_append]; omega)).mono ?_
            rintro e w8 ⟨p8, rfl, hp8, hb8⟩
            have s8 := si.alloc hb8
            clear si
            go_wp2_with (first | ((with_reducible apply wpList_unguard); rfl) | (with_reducible refine stop_make ?_) | ((with_reducible apply len_B); assumption) | ((with_reducible apply len_BB); assumption)  | ((with_reducible apply len_N); assumption) | ((with_reducible apply len_V); assumption) | ((with_reducible apply len_VV); assumption) | ((with_reducible apply len_I); assumption)  | (with_reducible refine stop_builtin ?_) | (with_reducible refine stop_slice ?_) | (with_reducible refine stop_index_B ?_) | (with_reducible refine stop_index_BB ?_)  | (with_reducible refine stop_index_N ?_) | (with_reducible refine stop_index_V ?_) | (with_reducible refine stop_index_VV ?_) | (with_reducible refine stop_index_I ?_)  | (with_reducible refine stop_str_B ?_) | (with_reducible refine stop_mark_B ?_) | (with_reducible refine stop_buildSlice ?_))
            refine (same_any w8 _ _ _ _ p8 _ hp8.sl' s8.wnt.sl').mono ?_
            rintro e w' ⟨rfl, rfl⟩
            rw [beq_self_eq_true]
            go_wp2_with (first | ((with_reducible apply wpList_unguard); rfl) | (with_reducible refine stop_make ?_) | ((with_reducible apply len_B); assumption) | ((with_reducible apply len_BB); assumption)  | ((with_reducible apply len_N); assumption) | ((with_reducible apply len_V); assumption) | ((with_reducible apply len_VV); assumption) | ((with_reducible apply len_I); assumption)  | (with_reducible refine stop_builtin ?_) | (with_reducible refine stop_slice ?_) | (with_reducible refine stop_index_B ?_) | (with_reducible refine stop_index_BB ?_)  | (with_reducible refine stop_index_N ?_) | (with_reducible refine stop_index_V ?_) | (with_reducible refine stop_index_VV ?_) | (with_reducible refine stop_index_I ?_)  | (with_reducible refine stop_str_B ?_) | (with_reducible refine stop_mark_B ?_) | (with_reducible refine stop_buildSlice ?_))
            go_roundg (its.length - (j + 1) + 1)
            case measure => have := Hk.out; omega
            case rel =>
              refine ⟨j + 1, h5, F ++ encVecs VS, L ++ [⟨y.d, NS, TS, VS, m⟩], _, by omega, by omega, by omega, by go_num, s8, by rw [List.length_append, HLl.out]; rfl, ?_, ?_, by rw [List.length_append]; omega⟩
              · intro z hz
                rcases List.mem_append.1 hz with hz | hz
                · exact HFit.out z hz
                · simp at hz; subst hz; exact ⟨hNl, hTl, HTe.out, hVl, HVe.out⟩
              · rw [encItems_snoc, HFI.out, HF.out]
    case' inr.inl =>
      go_wp2_with (first | ((with_reducible apply wpList_unguard); rfl) | (with_reducible refine stop_make ?_) | ((with_reducible apply len_B); assumption) | ((with_reducible apply len_BB); assumption)  | ((with_reducible apply len_N); assumption) | ((with_reducible apply len_V); assumption) | ((with_reducible apply len_VV); assumption) | ((with_reducible apply len_I); assumption)  | (with_reducible refine stop_builtin ?_) | (with_reducible refine stop_slice ?_) | (with_reducible refine stop_index_B ?_) | (with_reducible refine stop_index_BB ?_)  | (with_reducible refine stop_index_N ?_) | (with_reducible refine stop_index_V ?_) | (with_reducible refine stop_index_VV ?_) | (with_reducible refine stop_index_I ?_)  | (with_reducible refine stop_str_B ?_) | (with_reducible refine stop_mark_B ?_) | (with_reducible refine stop_buildSlice ?_))
      refine Stop.go (idx_I hitr rfl (by omega) (by omega) fun b5 o5 y vn vt vv hy s1 s2 s3 m1 m2 c0 c1 c2 c3 c4 => ?_)
      obtain ⟨an, nn, cn, rfl⟩ := Sl.shape s1
      obtain ⟨at', nt, ct, rfl⟩ := Sl.shape s2
      obtain ⟨av, nv, cv, rfl⟩ := Sl.shape s3
      obtain ⟨d, hd⟩ : ∃ d, d = y.d.toNat := ⟨_, rfl⟩
      obtain ⟨m, hm⟩ : ∃ m, m = y.m := ⟨_, rfl⟩
      rw [← hd] at c0
      rw [← hm] at c4 m1 m2
      have HD := Lib.hid hd
      have HY := Lib.hid hy
      clear hd hm hy
      go_wp2_with (first | ((with_reducible apply wpList_unguard); rfl) | (with_reducible refine stop_make ?_) | ((with_reducible apply len_B); assumption) | ((with_reducible apply len_BB); assumption)  | ((with_reducible apply len_N); assumption) | ((with_reducible apply len_V); assumption) | ((with_reducible apply len_VV); assumption) | ((with_reducible apply len_I); assumption)  | (with_reducible refine stop_builtin ?_) | (with_reducible refine stop_slice ?_) | (with_reducible refine stop_index_B ?_) | (with_reducible refine stop_index_BB ?_)  | (with_reducible refine stop_index_N ?_) | (with_reducible refine stop_index_V ?_) | (with_reducible refine stop_index_VV ?_) | (with_reducible refine stop_index_I ?_)  | (with_reducible refine stop_str_B ?_) | (with_reducible refine stop_mark_B ?_) | (with_reducible refine stop_buildSlice ?_))
      obtain ⟨wx, hwx⟩ : ∃ wx, wx = wr.alloc (.cells #[.int .u8 (d : Int), .slice an nn cn, .slice at' nt ct, .slice av nv cv, .int .i64 m] 36) := ⟨_, rfl⟩
      have hsx := hs.alloc ((Below.refl wr.heap.size wr).alloc (Nat.le_refl _) (.cells #[.int .u8 (d : Int), .slice an nn cn, .slice at' nt ct, .slice av nv cv, .int .i64 m] 36))
      rw [← hwx] at hsx ⊢
      clear hwx hs hitr HD HY s1 s2 s3 c0 c1 c2 c3 c4
    case' inr.inr =>
      go_wp2_with (first | ((with_reducible apply wpList_unguard); rfl) | (with_reducible refine stop_make ?_) | ((with_reducible apply len_B); assumption) | ((with_reducible apply len_BB); assumption)  | ((with_reducible apply len_N); assumption) | ((with_reducible apply len_V); assumption) | ((with_reducible apply len_VV); assumption) | ((with_reducible apply len_I); assumption)  | (with_reducible refine stop_builtin ?_) | (with_reducible refine stop_slice ?_) | (with_reducible refine stop_index_B ?_) | (with_reducible refine stop_index_BB ?_)  | (with_reducible refine stop_index_N ?_) | (with_reducible refine stop_index_V ?_) | (with_reducible refine stop_index_VV ?_) | (with_reducible refine stop_index_I ?_)  | (with_reducible refine stop_str_B ?_) | (with_reducible refine stop_mark_B ?_) | (with_reducible refine stop_buildSlice ?_))
      obtain ⟨wx, rfl⟩ : ∃ wx, wx = wr := ⟨_, rfl⟩
      have hsx := hs
      clear hs hitr
    all_goals
      refine (wbytes_any wx g h F hsx.wf.wr (by omega)).mono ?_
      rintro e wM ⟨p14, rfl, hp14, hbM⟩
      have hall := Own.sl (S' := (· < wx.heap.size)) hsx.all (fun b hb _ => hsx.tlt b hb) (fun b hb => hsx.alt b hb)
      have hallM := hall.below hbM (Nat.le_refl _)
      have hBM := below_on hsx.below hbM hsx.below.size
      have hsM := hbM.size
      have hsx0 := hsx.below.size
      have hLn : L.length ≤ 20 := by have := HLl.out; omega
      clear hsx hall hbM
      go_wp2_with (first | ((with_reducible apply wpList_unguard); rfl) | (with_reducible refine stop_make ?_) | ((with_reducible apply len_B); assumption) | ((with_reducible apply len_BB); assumption)  | ((with_reducible apply len_N); assumption) | ((with_reducible apply len_V); assumption) | ((with_reducible apply len_VV); assumption) | ((with_reducible apply len_I); assumption)  | (with_reducible refine stop_builtin ?_) | (with_reducible refine stop_slice ?_) | (with_reducible refine stop_index_B ?_) | (with_reducible refine stop_index_BB ?_)  | (with_reducible refine stop_index_N ?_) | (with_reducible refine stop_index_V ?_) | (with_reducible refine stop_index_VV ?_) | (with_reducible refine stop_index_I ?_)  | (with_reducible refine stop_str_B ?_) | (with_reducible refine stop_mark_B ?_) | (with_reducible refine stop_buildSlice ?_))
      refine (new_any wM _ F p14 hp14.sl' (by omega)).mono ?_
      rintro e wN ⟨r, rfl, hr, hR, hbN⟩
      have hR := hR.old
      have hrlt := hR.lt
      have hallN := hallM.below hbN (by omega)
      have hpN : OwnB wN wx.heap.size F p14 := Own.below hp14 hbN (Nat.le_refl _)
      have hpown : ∀ b, p14.ownBlock = some b → wx.heap.size ≤ b ∧ b < wM.heap.size := fun b hb => hp14.ge b hb
      have hsN := hbN.size
      have hBN := below_on hBM hbN (by omega)
      have hpl := hpN.sl'
      have HFe := HF
      clear hBM hbN hallM hp14
      go_wp2_with (first | ((with_reducible apply wpList_unguard); rfl) | (with_reducible refine stop_make ?_) | ((with_reducible apply len_B); assumption) | ((with_reducible apply len_BB); assumption)  | ((with_reducible apply len_N); assumption) | ((with_reducible apply len_V); assumption) | ((with_reducible apply len_VV); assumption) | ((with_reducible apply len_I); assumption)  | (with_reducible refine stop_builtin ?_) | (with_reducible refine stop_slice ?_) | (with_reducible refine stop_index_B ?_) | (with_reducible refine stop_index_BB ?_)  | (with_reducible refine stop_index_N ?_) | (with_reducible refine stop_index_V ?_) | (with_reducible refine stop_index_VV ?_) | (with_reducible refine stop_index_I ?_)  | (with_reducible refine stop_str_B ?_) | (with_reducible refine stop_mark_B ?_) | (with_reducible refine stop_buildSlice ?_))
      go_loopg [16, 111] (F.length + 1) (fun k x16 i wr => ∃ (t : Nat) (M : List UInt8), k = F.length - t + 1 ∧ t ≤ F.length ∧ i = .int .i64 t ∧ M.length = F.length ∧ OwnB wr wx.heap.size M p14 ∧ Only (fun k => p14.ownBlock = some k) wN wr)
      case atStart => exact ⟨0, F, by omega, by omega, rfl, rfl, hpN, Only.refl _ _⟩
      case round =>
        obtain ⟨t, M, hkt, htl, rfl, hMl, hpM, hoM⟩ := hrel
        have Hkt := Lib.hid hkt
        clear hkt hpN hpl
        by_cases hlt3 : t < F.length
        · go_wp2_with (first | ((with_reducible apply wpList_unguard); rfl) | (with_reducible refine stop_make ?_) | ((with_reducible apply len_B); assumption) | ((with_reducible apply len_BB); assumption)  | ((with_reducible apply len_N); assumption) | ((with_reducible apply len_V); assumption) | ((with_reducible apply len_VV); assumption) | ((with_reducible apply len_I); assumption)  | (with_reducible refine stop_builtin ?_) | (with_reducible refine stop_slice ?_) | (with_reducible refine stop_index_B ?_) | (with_reducible refine stop_index_BB ?_)  | (with_reducible refine stop_index_N ?_) | (with_reducible refine stop_index_V ?_) | (with_reducible refine stop_index_VV ?_) | (with_reducible refine stop_index_I ?_)  | (with_reducible refine stop_str_B ?_) | (with_reducible refine stop_mark_B ?_) | (with_reducible refine stop_buildSlice ?_))
          refine Stop.go (idx_own hpM rfl (by omega) fun g1 o1 y1 hy1 hg1 hc1 hf1 hset => ?_)
          clear hy1 hset
          go_wp2_with (first | ((with_reducible apply wpList_unguard); rfl) | (with_reducible refine stop_make ?_) | ((with_reducible apply len_B); assumption) | ((with_reducible apply len_BB); assumption)  | ((with_reducible apply len_N); assumption) | ((with_reducible apply len_V); assumption) | ((with_reducible apply len_VV); assumption) | ((with_reducible apply len_I); assumption)  | (with_reducible refine stop_builtin ?_) | (with_reducible refine stop_slice ?_) | (with_reducible refine stop_index_B ?_) | (with_reducible refine stop_index_BB ?_)  | (with_reducible refine stop_index_N ?_) | (with_reducible refine stop_index_V ?_) | (with_reducible refine stop_index_VV ?_) | (with_reducible refine stop_index_I ?_)  | (with_reducible refine stop_str_B ?_) | (with_reducible refine stop_mark_B ?_) | (with_reducible refine stop_buildSlice ?_))
          refine Stop.go (idx_own hpM rfl (by omega) fun g2 o2 y2 hy2 hg2 hc2 hf2 hset => ?_)
          have HS2 := Lib.hid hset
          clear hy2 hset
          go_wp2_with (first | ((with_reducible apply wpList_unguard); rfl) | (with_reducible refine stop_make ?_) | ((with_reducible apply len_B); assumption) | ((with_reducible apply len_BB); assumption)  | ((with_reducible apply len_N); assumption) | ((with_reducible apply len_V); assumption) | ((with_reducible apply len_VV); assumption) | ((with_reducible apply len_I); assumption)  | (with_reducible refine stop_builtin ?_) | (with_reducible refine stop_slice ?_) | (with_reducible refine stop_index_B ?_) | (with_reducible refine stop_index_BB ?_)  | (with_reducible refine stop_index_N ?_) | (with_reducible refine stop_index_V ?_) | (with_reducible refine stop_index_VV ?_) | (with_reducible refine stop_index_I ?_)  | (with_reducible refine stop_str_B ?_) | (with_reducible refine stop_mark_B ?_) | (with_reducible refine stop_buildSlice ?_))
          rw [xor_one y1]
          have hof := Only.of_set wr ⟨g2, o2, none⟩ (.int .u8 ((UInt8.ofNat (y1.toNat ^^^ 1)).toNat : Int))
          have hS2 := HS2.out (UInt8.ofNat (y1.toNat ^^^ 1))
          go_roundg (F.length - (t + 1) + 1)
          case measure => have := Hkt.out; omega
          case rel => exact ⟨t + 1, _, by omega, by omega, by go_num, by simpa using hMl, hS2, hoM.trans hof (fun k _ e => by have e : k = g2 := e; rw [e]; exact hg2)⟩
        · obtain ⟨wQ, rfl⟩ : ∃ wQ, wQ = wr := ⟨_, rfl⟩
          have hallQ := hallN.only hoM (fun b hb _ e => by have := (hpown b e).1; omega)
          have hRQ := hR.only hoM (fun e => by have := (hpown r e).2; omega) (fun b hb _ e => by have := (hpown b e).2; have := hb.1.1; omega)
          have hBQ := below_only hBN hoM (fun b e => by have := (hpown b e).1; omega)
          have hsQ := hoM.size
          clear hpM hallN hR hBN hoM
          rw [HFe.out] at hRQ
          go_wp2_with (first | ((with_reducible apply wpList_unguard); rfl) | (with_reducible refine stop_make ?_) | ((with_reducible apply len_B); assumption) | ((with_reducible apply len_BB); assumption)  | ((with_reducible apply len_N); assumption) | ((with_reducible apply len_V); assumption) | ((with_reducible apply len_VV); assumption) | ((with_reducible apply len_I); assumption)  | (with_reducible refine stop_builtin ?_) | (with_reducible refine stop_slice ?_) | (with_reducible refine stop_index_B ?_) | (with_reducible refine stop_index_BB ?_)  | (with_reducible refine stop_index_N ?_) | (with_reducible refine stop_index_V ?_) | (with_reducible refine stop_index_VV ?_) | (with_reducible refine stop_index_I ?_)  | (with_reducible refine stop_str_B ?_) | (with_reducible refine stop_mark_B ?_) | (with_reducible refine stop_buildSlice ?_))
          go_loopg [18, 20, 22, 24, 123] (L.length + 1) (fun k x18 x20 x22 x24 i wr => ∃ t : Nat, k = L.length - t + 1 ∧ t ≤ L.length ∧ i = .int .i64 t ∧ Rd wr r (fun b => (wM.heap.size ≤ b ∧ b ≠ r) ∧ b < wN.heap.size) (encItems (L.drop t)) 0 ∧ Below wM.heap.size wQ wr)
          case atStart => exact ⟨0, by omega, by omega, rfl, by simpa using hRQ, Below.refl _ _⟩
          case round =>
            obtain ⟨i, hki, hil3, rfl, hRi, hbi⟩ := hrel
            have Hki := Lib.hid hki
            clear hki hRQ
            have hit := hallQ.keep (S' := (· < wx.heap.size)) (w' := wr) (fun b hb _ => ⟨hbi.block b (by omega), hb⟩)
            have hRl : (encItems (L.drop i)).length ≤ 12000 := by
              have e := List.take_append_drop i L
              have e2 := congrArg (fun l => (encItems l).length) e
              have e3 := congrArg List.length HFe.out
              simp only [encItems, List.flatMap_append, List.length_append] at e2 e3 ⊢
              omega
            by_cases hlt4 : i < L.length
            · go_wp2_with (first | ((with_reducible apply wpList_unguard); rfl) | (with_reducible refine stop_make ?_) | ((with_reducible apply len_B); assumption) | ((with_reducible apply len_BB); assumption)  | ((with_reducible apply len_N); assumption) | ((with_reducible apply len_V); assumption) | ((with_reducible apply len_VV); assumption) | ((with_reducible apply len_I); assumption)  | (with_reducible refine stop_builtin ?_) | (with_reducible refine stop_slice ?_) | (with_reducible refine stop_index_B ?_) | (with_reducible refine stop_index_BB ?_)  | (with_reducible refine stop_index_N ?_) | (with_reducible refine stop_index_V ?_) | (with_reducible refine stop_index_VV ?_) | (with_reducible refine stop_index_I ?_)  | (with_reducible refine stop_str_B ?_) | (with_reducible refine stop_mark_B ?_) | (with_reducible refine stop_buildSlice ?_))
              refine Stop.go (idx_I hit rfl (by omega) (by omega) fun b5 o5 y vn vt vv hy s1 s2 s3 m1 m2 c0 c1 c2 c3 c4 => ?_)
              obtain ⟨an, nn, cn, rfl⟩ := Sl.shape s1
              obtain ⟨at', nt, ct, rfl⟩ := Sl.shape s2
              obtain ⟨av, nv, cv, rfl⟩ := Sl.shape s3
              have hfy := HFit.out y (List.mem_of_getElem? hy)
              obtain ⟨d, hd⟩ : ∃ d, d = y.d.toNat := ⟨_, rfl⟩
              obtain ⟨m, hm⟩ : ∃ m, m = y.m := ⟨_, rfl⟩
              rw [← hd] at c0
              rw [← hm] at c4 m1 m2
              have HD := Lib.hid hd
              have HY := Lib.hid hy
              clear hd hm hy
              rcases (show d % 3 = 0 ∨ d % 3 = 1 ∨ d % 3 = 2 by omega) with h3 | h3 | h3
              · have hk0 : ((d : Int) % 3 == 0) = true := by simp; omega
                have hk1 : ((d : Int) % 3 == 1) = false := by simp; omega
                have hFI : encItem y = encs y.ns := by
                  unfold encItem
                  rw [← HD.out, if_pos h3]
                have hdr := encItems_drop L i y (by simpa using HY.out)
                rw [hFI] at hdr
                rw [hdr] at hRi hRl
                obtain ⟨R, hRe⟩ : ∃ R, R = encItems (L.drop (i + 1)) := ⟨_, rfl⟩
                rw [← hRe] at hRi hRl
                rw [List.length_append] at hRl
                have HRe := Lib.hid hRe
                clear hFI hRe hdr
                have hNl9 : y.ns.length ≤ 9223372036854775807 := s1.length_le
                have hal := (Below.refl wr.heap.size wr).alloc (Nat.le_refl _) (.cells #[.int .u8 (d : Int), .slice an nn cn, .slice at' nt ct, .slice av nv cv, .int .i64 m] 36)
                have hIx : It (wr.alloc (.cells #[.int .u8 (d : Int), .slice an nn cn, .slice at' nt ct, .slice av nv cv, .int .i64 m] 36)) wr.heap.size d (.slice an nn cn) (.slice at' nt ct) (.slice av nv cv) m := heap_alloc_new wr _
                have hRx := hRi.only (Only.of_below hal) (by have := hRi.lt; omega) (by rintro b _ h1 h2; omega)
                have hwr := hbi.size
                have hbx2 := below_on hbi hal (by omega)
                have hsx2 := s1.below hal (Nat.le_refl _)
                obtain ⟨e0, e1, e2, e3, e4⟩ := hIx.cells
                clear hRi
                go_wp2_with (first | ((with_reducible apply wpList_unguard); rfl) | (with_reducible refine stop_make ?_) | ((with_reducible apply len_B); assumption) | ((with_reducible apply len_BB); assumption)  | ((with_reducible apply len_N); assumption) | ((with_reducible apply len_V); assumption) | ((with_reducible apply len_VV); assumption) | ((with_reducible apply len_I); assumption)  | (with_reducible refine stop_builtin ?_) | (with_reducible refine stop_slice ?_) | (with_reducible refine stop_index_B ?_) | (with_reducible refine stop_index_BB ?_)  | (with_reducible refine stop_index_N ?_) | (with_reducible refine stop_index_V ?_) | (with_reducible refine stop_index_VV ?_) | (with_reducible refine stop_index_I ?_)  | (with_reducible refine stop_str_B ?_) | (with_reducible refine stop_mark_B ?_) | (with_reducible refine stop_buildSlice ?_))
                obtain ⟨wx2, hwx2⟩ : ∃ wx, wx = wr.alloc (.cells #[.int .u8 (d : Int), .slice an nn cn, .slice at' nt ct, .slice av nv cv, .int .i64 m] 36) := ⟨_, rfl⟩
                rw [← hwx2] at hal hRx hbx2 hsx2 ⊢
                clear hwx2 hIx e0 e1 e2 e3 e4 c0 c1 c2 c3 c4 s1 s2 s3 hbi hit hal hwr
                go_loopg [20, 148] (y.ns.length + 1) (fun k x20 i' wr => ∃ t : Nat, k = y.ns.length - t + 1 ∧ t ≤ y.ns.length ∧ i' = .int .i64 t ∧ Rd wr r (fun b => (wM.heap.size ≤ b ∧ b ≠ r) ∧ b < wN.heap.size) (encs (y.ns.drop t) ++ R) 0 ∧ Below wM.heap.size wQ wr ∧ Sl wr (· < wx.heap.size) y.ns (.slice an nn cn) ∧ (encs (y.ns.drop t)).length ≤ (encs y.ns).length)
                case atStart => exact ⟨0, by omega, by omega, rfl, by simpa using hRx, hbx2, hsx2, by simp⟩
                case round =>
                  obtain ⟨t, hkt, htl, rfl, hRt, hbt, hvt, hlt9⟩ := hrel
                  have Hkt := Lib.hid hkt
                  have hwrs := hbt.size
                  clear hkt hRx hsx2 hbx2
                  by_cases hlt2 : t < y.ns.length
                  · go_wp2_with (first | ((with_reducible apply wpList_unguard); rfl) | (with_reducible refine stop_make ?_) | ((with_reducible apply len_B); assumption) | ((with_reducible apply len_BB); assumption)  | ((with_reducible apply len_N); assumption) | ((with_reducible apply len_V); assumption) | ((with_reducible apply len_VV); assumption) | ((with_reducible apply len_I); assumption)  | (with_reducible refine stop_builtin ?_) | (with_reducible refine stop_slice ?_) | (with_reducible refine stop_index_B ?_) | (with_reducible refine stop_index_BB ?_)  | (with_reducible refine stop_index_N ?_) | (with_reducible refine stop_index_V ?_) | (with_reducible refine stop_index_VV ?_) | (with_reducible refine stop_index_I ?_)  | (with_reducible refine stop_str_B ?_) | (with_reducible refine stop_mark_B ?_) | (with_reducible refine stop_buildSlice ?_))
                    refine Stop.go (idx_N hvt rfl (by omega) (by omega) fun b6 o6 z hz hcell => ?_)
                    have hdz := flat_drop (fun n : UInt64 => enc n.toNat) y.ns t z (by simpa using hz)
                    have hdz : encs (y.ns.drop t) = enc z.toNat ++ encs (y.ns.drop (t + 1)) := hdz
                    have hdl : (encs (y.ns.drop t)).length = (enc z.toNat).length + (encs (y.ns.drop (t + 1))).length := by rw [hdz, List.length_append]
                    rw [hdz, List.append_assoc] at hRt
                    rw [hdl] at hlt9
                    clear hdz hz hdl
                    go_wp2_with (first | ((with_reducible apply wpList_unguard); rfl) | (with_reducible refine stop_make ?_) | ((with_reducible apply len_B); assumption) | ((with_reducible apply len_BB); assumption)  | ((with_reducible apply len_N); assumption) | ((with_reducible apply len_V); assumption) | ((with_reducible apply len_VV); assumption) | ((with_reducible apply len_I); assumption)  | (with_reducible refine stop_builtin ?_) | (with_reducible refine stop_slice ?_) | (with_reducible refine stop_index_B ?_) | (with_reducible refine stop_index_BB ?_)  | (with_reducible refine stop_index_N ?_) | (with_reducible refine stop_index_V ?_) | (with_reducible refine stop_index_VV ?_) | (with_reducible refine stop_index_I ?_)  | (with_reducible refine stop_str_B ?_) | (with_reducible refine stop_mark_B ?_) | (with_reducible refine stop_buildSlice ?_))
                    refine (num_any' wr r _ _ 0 18446744073709551615 hRt).mono ?_
                    rw [rnum_enc z.toNat 18446744073709551615 _ z.toNat_lt, if_neg (by have := z.toNat_lt; omega)]
                    rintro e wz ⟨rfl, hRz, ho⟩
                    have hvz := hvt.only ho (by rintro b hb _ rfl; exact absurd hb (by omega))
                    have hbz := hbt.trans (ho.below (B := wM.heap.size) (by omega) (by rintro k rfl; exact hr))
                    clear hvt hRt ho hbt hcell
                    go_wp2_with (first | ((with_reducible apply wpList_unguard); rfl) | (with_reducible refine stop_make ?_) | ((with_reducible apply len_B); assumption) | ((with_reducible apply len_BB); assumption)  | ((with_reducible apply len_N); assumption) | ((with_reducible apply len_V); assumption) | ((with_reducible apply len_VV); assumption) | ((with_reducible apply len_I); assumption)  | (with_reducible refine stop_builtin ?_) | (with_reducible refine stop_slice ?_) | (with_reducible refine stop_index_B ?_) | (with_reducible refine stop_index_BB ?_)  | (with_reducible refine stop_index_N ?_) | (with_reducible refine stop_index_V ?_) | (with_reducible refine stop_index_VV ?_) | (with_reducible refine stop_index_I ?_)  | (with_reducible refine stop_str_B ?_) | (with_reducible refine stop_mark_B ?_) | (with_reducible refine stop_buildSlice ?_))
                    go_roundg (y.ns.length - (t + 1) + 1)
                    case measure => have := Hkt.out; omega
                    case rel => exact ⟨t + 1, by omega, by omega, by go_num, hRz, hbz, hvz, by omega⟩
                  · rw [List.drop_of_length_le (by omega), show encs [] = [] from rfl, List.nil_append] at hRt
                    go_wp2_with (first | ((with_reducible apply wpList_unguard); rfl) | (with_reducible refine stop_make ?_) | ((with_reducible apply len_B); assumption) | ((with_reducible apply len_BB); assumption)  | ((with_reducible apply len_N); assumption) | ((with_reducible apply len_V); assumption) | ((with_reducible apply len_VV); assumption) | ((with_reducible apply len_I); assumption)  | (with_reducible refine stop_builtin ?_) | (with_reducible refine stop_slice ?_) | (with_reducible refine stop_index_B ?_) | (with_reducible refine stop_index_BB ?_)  | (with_reducible refine stop_index_N ?_) | (with_reducible refine stop_index_V ?_) | (with_reducible refine stop_index_VV ?_) | (with_reducible refine stop_index_I ?_)  | (with_reducible refine stop_str_B ?_) | (with_reducible refine stop_mark_B ?_) | (with_reducible refine stop_buildSlice ?_))
                    go_roundg (L.length - (i + 1) + 1)
                    case measure => have := Hki.out; omega
                    case rel => exact ⟨i + 1, by omega, by omega, by go_num, by rw [← HRe.out]; exact hRt, hbt⟩
              · have hk0 : ((d : Int) % 3 == 0) = false := by simp; omega
                have hk1 : ((d : Int) % 3 == 1) = true := by simp; omega
                have hFI : encItem y = encTexts y.ts := by
                  unfold encItem
                  rw [← HD.out, if_neg (by omega), if_pos h3]
                have hdr := encItems_drop L i y (by simpa using HY.out)
                rw [hFI] at hdr
                rw [hdr] at hRi hRl
                obtain ⟨R, hRe⟩ : ∃ R, R = encItems (L.drop (i + 1)) := ⟨_, rfl⟩
                rw [← hRe] at hRi hRl
                rw [List.length_append] at hRl
                have HRe := Lib.hid hRe
                clear hFI hRe hdr
                have hNl9 : y.ts.length ≤ 9223372036854775807 := s2.length_le
                have hal := (Below.refl wr.heap.size wr).alloc (Nat.le_refl _) (.cells #[.int .u8 (d : Int), .slice an nn cn, .slice at' nt ct, .slice av nv cv, .int .i64 m] 36)
                have hIx : It (wr.alloc (.cells #[.int .u8 (d : Int), .slice an nn cn, .slice at' nt ct, .slice av nv cv, .int .i64 m] 36)) wr.heap.size d (.slice an nn cn) (.slice at' nt ct) (.slice av nv cv) m := heap_alloc_new wr _
                have hRx := hRi.only (Only.of_below hal) (by have := hRi.lt; omega) (by rintro b _ h1 h2; omega)
                have hwr := hbi.size
                have hbx2 := below_on hbi hal (by omega)
                have hsx2 := s2.below hal (Nat.le_refl _)
                obtain ⟨e0, e1, e2, e3, e4⟩ := hIx.cells
                clear hRi
                go_wp2_with (first | ((with_reducible apply wpList_unguard); rfl) | (with_reducible refine stop_make ?_) | ((with_reducible apply len_B); assumption) | ((with_reducible apply len_BB); assumption)  | ((with_reducible apply len_N); assumption) | ((with_reducible apply len_V); assumption) | ((with_reducible apply len_VV); assumption) | ((with_reducible apply len_I); assumption)  | (with_reducible refine stop_builtin ?_) | (with_reducible refine stop_slice ?_) | (with_reducible refine stop_index_B ?_) | (with_reducible refine stop_index_BB ?_)  | (with_reducible refine stop_index_N ?_) | (with_reducible refine stop_index_V ?_) | (with_reducible refine stop_index_VV ?_) | (with_reducible refine stop_index_I ?_)  | (with_reducible refine stop_str_B ?_) | (with_reducible refine stop_mark_B ?_) | (with_reducible refine stop_buildSlice ?_))
                obtain ⟨wx2, hwx2⟩ : ∃ wx, wx = wr.alloc (.cells #[.int .u8 (d : Int), .slice an nn cn, .slice at' nt ct, .slice av nv cv, .int .i64 m] 36) := ⟨_, rfl⟩
                rw [← hwx2] at hal hRx hbx2 hsx2 ⊢
                clear hwx2 hIx e0 e1 e2 e3 e4 c0 c1 c2 c3 c4 s1 s2 s3 hbi hit hal hwr
                go_loopg [22, 162] (y.ts.length + 1) (fun k x20 i' wr => ∃ t : Nat, k = y.ts.length - t + 1 ∧ t ≤ y.ts.length ∧ i' = .int .i64 t ∧ Rd wr r (fun b => (wM.heap.size ≤ b ∧ b ≠ r) ∧ b < wN.heap.size) (encTexts (y.ts.drop t) ++ R) 0 ∧ Below wM.heap.size wQ wr ∧ Sl wr (· < wx.heap.size) y.ts (.slice at' nt ct) ∧ (encTexts (y.ts.drop t)).length ≤ (encTexts y.ts).length)
                case atStart => exact ⟨0, by omega, by omega, rfl, by simpa using hRx, hbx2, hsx2, by simp⟩
                case round =>
                  obtain ⟨t, hkt, htl, rfl, hRt, hbt, hvt, hlt9⟩ := hrel
                  have Hkt := Lib.hid hkt
                  have hwrs := hbt.size
                  clear hkt hRx hsx2 hbx2
                  by_cases hlt2 : t < y.ts.length
                  · go_wp2_with (first | ((with_reducible apply wpList_unguard); rfl) | (with_reducible refine stop_make ?_) | ((with_reducible apply len_B); assumption) | ((with_reducible apply len_BB); assumption)  | ((with_reducible apply len_N); assumption) | ((with_reducible apply len_V); assumption) | ((with_reducible apply len_VV); assumption) | ((with_reducible apply len_I); assumption)  | (with_reducible refine stop_builtin ?_) | (with_reducible refine stop_slice ?_) | (with_reducible refine stop_index_B ?_) | (with_reducible refine stop_index_BB ?_)  | (with_reducible refine stop_index_N ?_) | (with_reducible refine stop_index_V ?_) | (with_reducible refine stop_index_VV ?_) | (with_reducible refine stop_index_I ?_)  | (with_reducible refine stop_str_B ?_) | (with_reducible refine stop_mark_B ?_) | (with_reducible refine stop_buildSlice ?_))
                    refine Stop.go (idx_BB hvt rfl (by omega) (by omega) fun b6 o6 z u6 hz hu6 hcell => ?_)
                    have hzl : z.length ≤ 40 := hfy.2.2.1 z (List.mem_of_getElem? hz)
                    have hdz := flat_drop encText y.ts t z (by simpa using hz)
                    have hdz : encTexts (y.ts.drop t) = encText z ++ encTexts (y.ts.drop (t + 1)) := hdz
                    have hdl : (encTexts (y.ts.drop t)).length = (encText z).length + (encTexts (y.ts.drop (t + 1))).length := by rw [hdz, List.length_append]
                    rw [hdz, List.append_assoc] at hRt
                    rw [hdl] at hlt9
                    clear hdz hz hdl
                    go_wp2_with (first | ((with_reducible apply wpList_unguard); rfl) | (with_reducible refine stop_make ?_) | ((with_reducible apply len_B); assumption) | ((with_reducible apply len_BB); assumption)  | ((with_reducible apply len_N); assumption) | ((with_reducible apply len_V); assumption) | ((with_reducible apply len_VV); assumption) | ((with_reducible apply len_I); assumption)  | (with_reducible refine stop_builtin ?_) | (with_reducible refine stop_slice ?_) | (with_reducible refine stop_index_B ?_) | (with_reducible refine stop_index_BB ?_)  | (with_reducible refine stop_index_N ?_) | (with_reducible refine stop_index_V ?_) | (with_reducible refine stop_index_VV ?_) | (with_reducible refine stop_index_I ?_)  | (with_reducible refine stop_str_B ?_) | (with_reducible refine stop_mark_B ?_) | (with_reducible refine stop_buildSlice ?_))
                    refine (text_any wr r _ _ 0 100 hRt (by decide) (by rw [List.length_append, List.length_append]; omega)).mono ?_
                    rw [show (100 : Int).toNat = 100 from rfl, rtext_enc z 100 _ (by omega), if_neg (by omega)]
                    rintro e wz ⟨v9, rfl, hv9, hRz, ho⟩
                    have hvz := hvt.only ho (by rintro b hb _ rfl; exact absurd hb (by omega))
                    have hzz := hu6.only ho (by rintro b hb _ rfl; exact absurd hb (by omega))
                    have hbz := hbt.trans (ho.below (B := wM.heap.size) (by omega) (by rintro k rfl; exact hr))
                    clear hvt hRt ho hbt hcell hu6
                    go_wp2_with (first | ((with_reducible apply wpList_unguard); rfl) | (with_reducible refine stop_make ?_) | ((with_reducible apply len_B); assumption) | ((with_reducible apply len_BB); assumption)  | ((with_reducible apply len_N); assumption) | ((with_reducible apply len_V); assumption) | ((with_reducible apply len_VV); assumption) | ((with_reducible apply len_I); assumption)  | (with_reducible refine stop_builtin ?_) | (with_reducible refine stop_slice ?_) | (with_reducible refine stop_index_B ?_) | (with_reducible refine stop_index_BB ?_)  | (with_reducible refine stop_index_N ?_) | (with_reducible refine stop_index_V ?_) | (with_reducible refine stop_index_VV ?_) | (with_reducible refine stop_index_I ?_)  | (with_reducible refine stop_str_B ?_) | (with_reducible refine stop_mark_B ?_) | (with_reducible refine stop_buildSlice ?_))
                    refine (same_any wz _ _ _ _ v9 u6 hv9.sl' hzz).mono ?_
                    rintro e w' ⟨rfl, rfl⟩
                    rw [beq_self_eq_true]
                    go_wp2_with (first | ((with_reducible apply wpList_unguard); rfl) | (with_reducible refine stop_make ?_) | ((with_reducible apply len_B); assumption) | ((with_reducible apply len_BB); assumption)  | ((with_reducible apply len_N); assumption) | ((with_reducible apply len_V); assumption) | ((with_reducible apply len_VV); assumption) | ((with_reducible apply len_I); assumption)  | (with_reducible refine stop_builtin ?_) | (with_reducible refine stop_slice ?_) | (with_reducible refine stop_index_B ?_) | (with_reducible refine stop_index_BB ?_)  | (with_reducible refine stop_index_N ?_) | (with_reducible refine stop_index_V ?_) | (with_reducible refine stop_index_VV ?_) | (with_reducible refine stop_index_I ?_)  | (with_reducible refine stop_str_B ?_) | (with_reducible refine stop_mark_B ?_) | (with_reducible refine stop_buildSlice ?_))
                    go_roundg (y.ts.length - (t + 1) + 1)
                    case measure => have := Hkt.out; omega
                    case rel => exact ⟨t + 1, by omega, by omega, by go_num, hRz, hbz, hvz, by omega⟩
                  · rw [List.drop_of_length_le (by omega), show encTexts [] = [] from rfl, List.nil_append] at hRt
                    go_wp2_with (first | ((with_reducible apply wpList_unguard); rfl) | (with_reducible refine stop_make ?_) | ((with_reducible apply len_B); assumption) | ((with_reducible apply len_BB); assumption)  | ((with_reducible apply len_N); assumption) | ((with_reducible apply len_V); assumption) | ((with_reducible apply len_VV); assumption) | ((with_reducible apply len_I); assumption)  | (with_reducible refine stop_builtin ?_) | (with_reducible refine stop_slice ?_) | (with_reducible refine stop_index_B ?_) | (with_reducible refine stop_index_BB ?_)  | (with_reducible refine stop_index_N ?_) | (with_reducible refine stop_index_V ?_) | (with_reducible refine stop_index_VV ?_) | (with_reducible refine stop_index_I ?_)  | (with_reducible refine stop_str_B ?_) | (with_reducible refine stop_mark_B ?_) | (with_reducible refine stop_buildSlice ?_))
                    go_roundg (L.length - (i + 1) + 1)
                    case measure => have := Hki.out; omega
                    case rel => exact ⟨i + 1, by omega, by omega, by go_num, by rw [← HRe.out]; exact hRt, hbt⟩
              · have hk0 : ((d : Int) % 3 == 0) = false := by simp; omega
                have hk1 : ((d : Int) % 3 == 1) = false := by simp; omega
                have hFI : encItem y = encVecs y.vs := by
                  unfold encItem
                  rw [← HD.out, if_neg (by omega), if_neg (by omega)]
                have hdr := encItems_drop L i y (by simpa using HY.out)
                rw [hFI] at hdr
                rw [hdr] at hRi hRl
                obtain ⟨R, hRe⟩ : ∃ R, R = encItems (L.drop (i + 1)) := ⟨_, rfl⟩
                rw [← hRe] at hRi hRl
                rw [List.length_append] at hRl
                have HRe := Lib.hid hRe
                clear hFI hRe hdr
                have hNl9 : y.vs.length ≤ 9223372036854775807 := s3.length_le
                have hal := (Below.refl wr.heap.size wr).alloc (Nat.le_refl _) (.cells #[.int .u8 (d : Int), .slice an nn cn, .slice at' nt ct, .slice av nv cv, .int .i64 m] 36)
                have hIx : It (wr.alloc (.cells #[.int .u8 (d : Int), .slice an nn cn, .slice at' nt ct, .slice av nv cv, .int .i64 m] 36)) wr.heap.size d (.slice an nn cn) (.slice at' nt ct) (.slice av nv cv) m := heap_alloc_new wr _
                have hRx := hRi.only (Only.of_below hal) (by have := hRi.lt; omega) (by rintro b _ h1 h2; omega)
                have hwr := hbi.size
                have hbx2 := below_on hbi hal (by omega)
                have hsx2 := s3.below hal (Nat.le_refl _)
                obtain ⟨e0, e1, e2, e3, e4⟩ := hIx.cells
                clear hRi
                go_wp2_with (first | ((with_reducible apply wpList_unguard); rfl) | (with_reducible refine stop_make ?_) | ((with_reducible apply len_B); assumption) | ((with_reducible apply len_BB); assumption)  | ((with_reducible apply len_N); assumption) | ((with_reducible apply len_V); assumption) | ((with_reducible apply len_VV); assumption) | ((with_reducible apply len_I); assumption)  | (with_reducible refine stop_builtin ?_) | (with_reducible refine stop_slice ?_) | (with_reducible refine stop_index_B ?_) | (with_reducible refine stop_index_BB ?_)  | (with_reducible refine stop_index_N ?_) | (with_reducible refine stop_index_V ?_) | (with_reducible refine stop_index_VV ?_) | (with_reducible refine stop_index_I ?_)  | (with_reducible refine stop_str_B ?_) | (with_reducible refine stop_mark_B ?_) | (with_reducible refine stop_buildSlice ?_))
                obtain ⟨wx2, hwx2⟩ : ∃ wx, wx = wr.alloc (.cells #[.int .u8 (d : Int), .slice an nn cn, .slice at' nt ct, .slice av nv cv, .int .i64 m] 36) := ⟨_, rfl⟩
                rw [← hwx2] at hal hRx hbx2 hsx2 ⊢
                clear hwx2 hIx e0 e1 e2 e3 e4 c0 c1 c2 c3 c4 s1 s2 s3 hbi hit hal hwr
                go_loopg [24, 133] (y.vs.length + 1) (fun k x20 i' wr => ∃ t : Nat, k = y.vs.length - t + 1 ∧ t ≤ y.vs.length ∧ i' = .int .i64 t ∧ Rd wr r (fun b => (wM.heap.size ≤ b ∧ b ≠ r) ∧ b < wN.heap.size) (encVecs (y.vs.drop t) ++ R) 0 ∧ Below wM.heap.size wQ wr ∧ Sl wr (· < wx.heap.size) y.vs (.slice av nv cv) ∧ (encVecs (y.vs.drop t)).length ≤ (encVecs y.vs).length)
                case atStart => exact ⟨0, by omega, by omega, rfl, by simpa using hRx, hbx2, hsx2, by simp⟩
                case round =>
                  obtain ⟨t, hkt, htl, rfl, hRt, hbt, hvt, hlt9⟩ := hrel
                  have Hkt := Lib.hid hkt
                  have hwrs := hbt.size
                  clear hkt hRx hsx2 hbx2
                  by_cases hlt2 : t < y.vs.length
                  · go_wp2_with (first | ((with_reducible apply wpList_unguard); rfl) | (with_reducible refine stop_make ?_) | ((with_reducible apply len_B); assumption) | ((with_reducible apply len_BB); assumption)  | ((with_reducible apply len_N); assumption) | ((with_reducible apply len_V); assumption) | ((with_reducible apply len_VV); assumption) | ((with_reducible apply len_I); assumption)  | (with_reducible refine stop_builtin ?_) | (with_reducible refine stop_slice ?_) | (with_reducible refine stop_index_B ?_) | (with_reducible refine stop_index_BB ?_)  | (with_reducible refine stop_index_N ?_) | (with_reducible refine stop_index_V ?_) | (with_reducible refine stop_index_VV ?_) | (with_reducible refine stop_index_I ?_)  | (with_reducible refine stop_str_B ?_) | (with_reducible refine stop_mark_B ?_) | (with_reducible refine stop_buildSlice ?_))
                    refine Stop.go (idx_VV hvt rfl (by omega) (by omega) fun b6 o6 z u6 hz hu6 hcell => ?_)
                    have hzl : z.length ≤ 12 := hfy.2.2.2.2 z (List.mem_of_getElem? hz)
                    have hdz := flat_drop encVec y.vs t z (by simpa using hz)
                    have hdz : encVecs (y.vs.drop t) = encVec z ++ encVecs (y.vs.drop (t + 1)) := hdz
                    have hdl : (encVecs (y.vs.drop t)).length = (encVec z).length + (encVecs (y.vs.drop (t + 1))).length := by rw [hdz, List.length_append]
                    rw [hdz, List.append_assoc] at hRt
                    rw [hdl] at hlt9
                    clear hdz hz hdl
                    go_wp2_with (first | ((with_reducible apply wpList_unguard); rfl) | (with_reducible refine stop_make ?_) | ((with_reducible apply len_B); assumption) | ((with_reducible apply len_BB); assumption)  | ((with_reducible apply len_N); assumption) | ((with_reducible apply len_V); assumption) | ((with_reducible apply len_VV); assumption) | ((with_reducible apply len_I); assumption)  | (with_reducible refine stop_builtin ?_) | (with_reducible refine stop_slice ?_) | (with_reducible refine stop_index_B ?_) | (with_reducible refine stop_index_BB ?_)  | (with_reducible refine stop_index_N ?_) | (with_reducible refine stop_index_V ?_) | (with_reducible refine stop_index_VV ?_) | (with_reducible refine stop_index_I ?_)  | (with_reducible refine stop_str_B ?_) | (with_reducible refine stop_mark_B ?_) | (with_reducible refine stop_buildSlice ?_))
                    refine (vec_any wr r _ _ 0 100 hRt (by decide) (by rw [List.length_append, List.length_append]; omega)).mono ?_
                    rw [show (100 : Int).toNat = 100 from rfl, rvecs_enc z 100 _ (by omega), if_neg (by omega)]
                    rintro e wy ⟨v9, rfl, hv9, hRy, ho⟩
                    have hvy := hvt.only ho (by rintro b hb _ rfl; exact absurd hb (by omega))
                    have hzz := hu6.only ho (by rintro b hb _ rfl; exact absurd hb (by omega))
                    have hby := hbt.trans (ho.below (B := wM.heap.size) (by omega) (by rintro k rfl; exact hr))
                    clear hvt hRt ho hbt hcell hu6
                    go_wp2_with (first | ((with_reducible apply wpList_unguard); rfl) | (with_reducible refine stop_make ?_) | ((with_reducible apply len_B); assumption) | ((with_reducible apply len_BB); assumption)  | ((with_reducible apply len_N); assumption) | ((with_reducible apply len_V); assumption) | ((with_reducible apply len_VV); assumption) | ((with_reducible apply len_I); assumption)  | (with_reducible refine stop_builtin ?_) | (with_reducible refine stop_slice ?_) | (with_reducible refine stop_index_B ?_) | (with_reducible refine stop_index_BB ?_)  | (with_reducible refine stop_index_N ?_) | (with_reducible refine stop_index_V ?_) | (with_reducible refine stop_index_VV ?_) | (with_reducible refine stop_index_I ?_)  | (with_reducible refine stop_str_B ?_) | (with_reducible refine stop_mark_B ?_) | (with_reducible refine stop_buildSlice ?_))
                    refine (samevec_any wy _ _ _ _ v9 u6 hv9.sl' hzz).mono ?_
                    rintro e wz ⟨nq, rfl, hwz⟩
                    rw [beq_self_eq_true]
                    have hod : Only (fun _ => False) wy wz := by rw [hwz]; exact Only.drewN _ _ _
                    have hRz := hRy.only hod (fun h => h) (fun _ _ _ h => h)
                    have hvz := hvy.only hod (fun _ _ _ h => h)
                    have hbz : Below wM.heap.size wQ wz := by rw [hwz]; exact hby.trans (below_draws _ _ _)
                    clear hwz hod hRy hvy hby hv9 hzz
                    go_wp2_with (first | ((with_reducible apply wpList_unguard); rfl) | (with_reducible refine stop_make ?_) | ((with_reducible apply len_B); assumption) | ((with_reducible apply len_BB); assumption)  | ((with_reducible apply len_N); assumption) | ((with_reducible apply len_V); assumption) | ((with_reducible apply len_VV); assumption) | ((with_reducible apply len_I); assumption)  | (with_reducible refine stop_builtin ?_) | (with_reducible refine stop_slice ?_) | (with_reducible refine stop_index_B ?_) | (with_reducible refine stop_index_BB ?_)  | (with_reducible refine stop_index_N ?_) | (with_reducible refine stop_index_V ?_) | (with_reducible refine stop_index_VV ?_) | (with_reducible refine stop_index_I ?_)  | (with_reducible refine stop_str_B ?_) | (with_reducible refine stop_mark_B ?_) | (with_reducible refine stop_buildSlice ?_))
                    go_roundg (y.vs.length - (t + 1) + 1)
                    case measure => have := Hkt.out; omega
                    case rel => exact ⟨t + 1, by omega, by omega, by go_num, hRz, hbz, hvz, by omega⟩
                  · rw [List.drop_of_length_le (by omega), show encVecs [] = [] from rfl, List.nil_append] at hRt
                    go_wp2_with (first | ((with_reducible apply wpList_unguard); rfl) | (with_reducible refine stop_make ?_) | ((with_reducible apply len_B); assumption) | ((with_reducible apply len_BB); assumption)  | ((with_reducible apply len_N); assumption) | ((with_reducible apply len_V); assumption) | ((with_reducible apply len_VV); assumption) | ((with_reducible apply len_I); assumption)  | (with_reducible refine stop_builtin ?_) | (with_reducible refine stop_slice ?_) | (with_reducible refine stop_index_B ?_) | (with_reducible refine stop_index_BB ?_)  | (with_reducible refine stop_index_N ?_) | (with_reducible refine stop_index_V ?_) | (with_reducible refine stop_index_VV ?_) | (with_reducible refine stop_index_I ?_)  | (with_reducible refine stop_str_B ?_) | (with_reducible refine stop_mark_B ?_) | (with_reducible refine stop_buildSlice ?_))
                    go_roundg (L.length - (i + 1) + 1)
                    case measure => have := Hki.out; omega
                    case rel => exact ⟨i + 1, by omega, by omega, by go_num, by rw [← HRe.out]; exact hRt, hbt⟩
            · rw [List.drop_of_length_le (by omega), show encItems [] = [] from rfl] at hRi
              go_wp2_with (first | ((with_reducible apply wpList_unguard); rfl) | (with_reducible refine stop_make ?_) | ((with_reducible apply len_B); assumption) | ((with_reducible apply len_BB); assumption)  | ((with_reducible apply len_N); assumption) | ((with_reducible apply len_V); assumption) | ((with_reducible apply len_VV); assumption) | ((with_reducible apply len_I); assumption)  | (with_reducible refine stop_builtin ?_) | (with_reducible refine stop_slice ?_) | (with_reducible refine stop_index_B ?_) | (with_reducible refine stop_index_BB ?_)  | (with_reducible refine stop_index_N ?_) | (with_reducible refine stop_index_V ?_) | (with_reducible refine stop_index_VV ?_) | (with_reducible refine stop_index_I ?_)  | (with_reducible refine stop_str_B ?_) | (with_reducible refine stop_mark_B ?_) | (with_reducible refine stop_buildSlice ?_))
              refine (end_any wr r _ _ _ hRi).mono ?_
              rintro e w' ⟨rfl, rfl⟩
              rw [show rend [] 0 = 0 from rfl]
              go_wp2_with (first | ((with_reducible apply wpList_unguard); rfl) | (with_reducible refine stop_make ?_) | ((with_reducible apply len_B); assumption) | ((with_reducible apply len_BB); assumption)  | ((with_reducible apply len_N); assumption) | ((with_reducible apply len_V); assumption) | ((with_reducible apply len_VV); assumption) | ((with_reducible apply len_I); assumption)  | (with_reducible refine stop_builtin ?_) | (with_reducible refine stop_slice ?_) | (with_reducible refine stop_index_B ?_) | (with_reducible refine stop_index_BB ?_)  | (with_reducible refine stop_index_N ?_) | (with_reducible refine stop_index_V ?_) | (with_reducible refine stop_index_VV ?_) | (with_reducible refine stop_index_I ?_)  | (with_reducible refine stop_str_B ?_) | (with_reducible refine stop_mark_B ?_) | (with_reducible refine stop_buildSlice ?_))
              refine (left_any wr r _ _ _ hRi).mono ?_
              rintro e w' ⟨rfl, rfl⟩
              go_wp2_with (first | ((with_reducible apply wpList_unguard); rfl) | (with_reducible refine stop_make ?_) | ((with_reducible apply len_B); assumption) | ((with_reducible apply len_BB); assumption)  | ((with_reducible apply len_N); assumption) | ((with_reducible apply len_V); assumption) | ((with_reducible apply len_VV); assumption) | ((with_reducible apply len_I); assumption)  | (with_reducible refine stop_builtin ?_) | (with_reducible refine stop_slice ?_) | (with_reducible refine stop_index_B ?_) | (with_reducible refine stop_index_BB ?_)  | (with_reducible refine stop_index_N ?_) | (with_reducible refine stop_index_V ?_) | (with_reducible refine stop_index_VV ?_) | (with_reducible refine stop_index_I ?_)  | (with_reducible refine stop_str_B ?_) | (with_reducible refine stop_mark_B ?_) | (with_reducible refine stop_buildSlice ?_))
              go_ret
              have hwr2 := hBQ.trans (⟨hbi.os, hbi.tape, hbi.output, hbi.size, fun k hk => hbi.block k (by omega)⟩ : Below w0.heap.size wQ wr)
              exact ⟨rfl, below_on hb0 hwr2 hb0.size⟩
end Go.Proofs.Ytfgagfemhmcdfaa
