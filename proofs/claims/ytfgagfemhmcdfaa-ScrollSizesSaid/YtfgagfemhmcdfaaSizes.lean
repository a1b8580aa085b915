/- package armillarylaw02: ScrollSizes. -/
import Derived.Test.YtfgagfemhmcdfaaAwake
namespace Go.Arm
theorem enc_len_step (n : Nat) : (enc n).length = 1 + if n / 128 = 0 then 0 else (enc (n / 128)).length := by
  by_cases h : n < 128
  · rw [enc_small n h, if_pos (by omega)]; rfl
  · rw [enc_big n h, if_neg (by omega), List.length_cons]; omega

theorem enc_mono : ∀ (b a : Nat), a ≤ b → (enc a).length ≤ (enc b).length := by
  intro b
  induction b using Nat.strongRecOn with
  | ind b ih =>
    intro a hab
    rw [enc_len_step a, enc_len_step b]
    by_cases h : a / 128 = 0
    · rw [if_pos h]; omega
    · have h2 : a / 128 ≤ b / 128 := Nat.div_le_div_right hab
      rw [if_neg h, if_neg (by omega)]
      have := ih (b / 128) (by omega) (a / 128) h2
      omega
end Go.Arm
namespace Go.Proofs.Ytfgagfemhmcdfaa
open Go Go.RowKit Go.Arm

theorem rds_N1 {w : World} {S : Nat → Prop} (x : UInt64) : rds w S [x] [.int .u64 (x.toNat : Int)] := rds_N (w := w) (S := S) (l := [x])

theorem scrollSizes_any (w : World) (a b : UInt64) :
    Calls Try.prog 3 #[.int .u64 (a.toNat : Int), .int .u64 (b.toNat : Int)] w fun e w' => e = .returned (.bool true) ∧ Below w.heap.size w w' := by
  have ha := a.toNat_lt
  have hb := b.toNat_lt
  have hla : (enc a.toNat).length ≤ 1000000000 := by have := enc_len10 _ ha; omega
  have hlb : (enc b.toNat).length ≤ 1000000000 := by have := enc_len10 _ hb; omega
  go_enter Try.func3, Try.ntmps3
  go_wp2_with (first | ((with_reducible apply wpList_unguard); rfl) | (with_reducible refine stop_make ?_) | ((with_reducible apply len_B); assumption) | ((with_reducible apply len_BB); assumption)  | ((with_reducible apply len_N); assumption) | ((with_reducible apply len_V); assumption) | ((with_reducible apply len_VV); assumption)  | (with_reducible refine stop_builtin ?_) | (with_reducible refine stop_slice ?_) | (with_reducible refine stop_index_B ?_) | (with_reducible refine stop_index_BB ?_)  | (with_reducible refine stop_index_N ?_) | (with_reducible refine stop_index_V ?_) | (with_reducible refine stop_index_VV ?_)  | (with_reducible refine stop_str_B ?_) | (with_reducible refine stop_mark_B ?_) | (with_reducible refine stop_buildSlice ?_))
  refine (awake_any w).mono ?_
  rintro e w0 ⟨rfl, hb0⟩
  go_wp2_with (first | ((with_reducible apply wpList_unguard); rfl) | (with_reducible refine stop_make ?_) | ((with_reducible apply len_B); assumption) | ((with_reducible apply len_BB); assumption)  | ((with_reducible apply len_N); assumption) | ((with_reducible apply len_V); assumption) | ((with_reducible apply len_VV); assumption)  | (with_reducible refine stop_builtin ?_) | (with_reducible refine stop_slice ?_) | (with_reducible refine stop_index_B ?_) | (with_reducible refine stop_index_BB ?_)  | (with_reducible refine stop_index_N ?_) | (with_reducible refine stop_index_V ?_) | (with_reducible refine stop_index_VV ?_)  | (with_reducible refine stop_str_B ?_) | (with_reducible refine stop_mark_B ?_) | (with_reducible refine stop_buildSlice ?_))
  have hw1 : Wf w (w0.alloc (.cells #[.slice none 0 0] 27)) w0.heap.size none [] := Wf.fresh hb0.size
  have hb1 := hb0.alloc hb0.size (.cells #[.slice none 0 0] 27)
  have hgs1 : w0.heap.size < (w0.alloc (.cells #[.slice none 0 0] 27)).heap.size := hw1.wr.lt
  generalize w0.alloc (.cells #[.slice none 0 0] 27) = wz1 at *
  obtain ⟨g1, hg1⟩ : ∃ g, g = w0.heap.size := ⟨_, rfl⟩
  rw [← hg1] at hw1 hgs1 ⊢
  clear hg1
  refine Stop.go (build_N (S := fun _ => False) ([a] : List UInt64) [.int .u64 (a.toNat : Int)] rfl rfl (rds_N1 a) (by simp) fun q1 wa1 k1 k2 k3 k4 => ?_)
  have hba1 := hb1.grown k2 hb1.size (by simp)
  have hwa1 := hw1.keep (below_of_grown k2 (Nat.le_refl _) (by simp))
  have hq1 := build_flat k1 k3
  clear k1 k2 k3 hw1 hb1
  go_wp2_with (first | ((with_reducible apply wpList_unguard); rfl) | (with_reducible refine stop_make ?_) | ((with_reducible apply len_B); assumption) | ((with_reducible apply len_BB); assumption)  | ((with_reducible apply len_N); assumption) | ((with_reducible apply len_V); assumption) | ((with_reducible apply len_VV); assumption)  | (with_reducible refine stop_builtin ?_) | (with_reducible refine stop_slice ?_) | (with_reducible refine stop_index_B ?_) | (with_reducible refine stop_index_BB ?_)  | (with_reducible refine stop_index_N ?_) | (with_reducible refine stop_index_V ?_) | (with_reducible refine stop_index_VV ?_)  | (with_reducible refine stop_str_B ?_) | (with_reducible refine stop_mark_B ?_) | (with_reducible refine stop_buildSlice ?_))
  refine (wnums_any wa1 g1 none [] _ _ q1 hwa1.wr hq1 (by rintro b rfl; exact ⟨by omega, by omega, by simp⟩) (by simp) (by simp)).mono ?_
  rintro e wb1 ⟨rfl, h1, a1, a2⟩
  have hbb1 := hwa1.below hba1 a2
  have hwb1 := hwa1.step a1 a2
  clear a1 a2 hwa1 hba1 hq1
  go_wp2_with (first | ((with_reducible apply wpList_unguard); rfl) | (with_reducible refine stop_make ?_) | ((with_reducible apply len_B); assumption) | ((with_reducible apply len_BB); assumption)  | ((with_reducible apply len_N); assumption) | ((with_reducible apply len_V); assumption) | ((with_reducible apply len_VV); assumption)  | (with_reducible refine stop_builtin ?_) | (with_reducible refine stop_slice ?_) | (with_reducible refine stop_index_B ?_) | (with_reducible refine stop_index_BB ?_)  | (with_reducible refine stop_index_N ?_) | (with_reducible refine stop_index_V ?_) | (with_reducible refine stop_index_VV ?_)  | (with_reducible refine stop_str_B ?_) | (with_reducible refine stop_mark_B ?_) | (with_reducible refine stop_buildSlice ?_))
  refine (wbytes_any wb1 g1 h1 _ hwb1.wr (by simpa [encs] using hla)).mono ?_
  rintro e wc1 ⟨p1, rfl, hp1, hbc1⟩
  have hb1 := below_on hbb1 hbc1 hbb1.size
  have hP1 := hp1.sl'.old
  rw [List.nil_append, show encs [a] = enc a.toNat by simp [encs]] at hP1
  clear hp1 hbc1 hwb1 hbb1
  go_wp2_with (first | ((with_reducible apply wpList_unguard); rfl) | (with_reducible refine stop_make ?_) | ((with_reducible apply len_B); assumption) | ((with_reducible apply len_BB); assumption)  | ((with_reducible apply len_N); assumption) | ((with_reducible apply len_V); assumption) | ((with_reducible apply len_VV); assumption)  | (with_reducible refine stop_builtin ?_) | (with_reducible refine stop_slice ?_) | (with_reducible refine stop_index_B ?_) | (with_reducible refine stop_index_BB ?_)  | (with_reducible refine stop_index_N ?_) | (with_reducible refine stop_index_V ?_) | (with_reducible refine stop_index_VV ?_)  | (with_reducible refine stop_str_B ?_) | (with_reducible refine stop_mark_B ?_) | (with_reducible refine stop_buildSlice ?_))
  have hw2 : Wf w (wc1.alloc (.cells #[.slice none 0 0] 27)) wc1.heap.size none [] := Wf.fresh hb1.size
  have hb2 := hb1.alloc hb1.size (.cells #[.slice none 0 0] 27)
  have hgs2 : wc1.heap.size < (wc1.alloc (.cells #[.slice none 0 0] 27)).heap.size := hw2.wr.lt
  have hP1a := hP1.below ((Below.refl wc1.heap.size wc1).alloc (Nat.le_refl _) (.cells #[.slice none 0 0] 27)) (Nat.le_refl _)
  generalize wc1.alloc (.cells #[.slice none 0 0] 27) = wz2 at *
  obtain ⟨g2, hg2⟩ : ∃ g, g = wc1.heap.size := ⟨_, rfl⟩
  rw [← hg2] at hw2 hgs2 ⊢
  have hgg2 : wc1.heap.size ≤ g2 := Nat.le_of_eq hg2.symm
  clear hg2
  refine Stop.go (build_N (S := fun _ => False) ([b] : List UInt64) [.int .u64 (b.toNat : Int)] rfl rfl (rds_N1 b) (by simp) fun q2 wa2 k1 k2 k3 k4 => ?_)
  have hba2 := hb2.grown k2 hb2.size (by simp)
  have hwa2 := hw2.keep (below_of_grown k2 (Nat.le_refl _) (by simp))
  have hq2 := build_flat k1 k3
  have hP1b := hP1a.grown0 k2
  clear k1 k2 k3 hw2 hb2
  go_wp2_with (first | ((with_reducible apply wpList_unguard); rfl) | (with_reducible refine stop_make ?_) | ((with_reducible apply len_B); assumption) | ((with_reducible apply len_BB); assumption)  | ((with_reducible apply len_N); assumption) | ((with_reducible apply len_V); assumption) | ((with_reducible apply len_VV); assumption)  | (with_reducible refine stop_builtin ?_) | (with_reducible refine stop_slice ?_) | (with_reducible refine stop_index_B ?_) | (with_reducible refine stop_index_BB ?_)  | (with_reducible refine stop_index_N ?_) | (with_reducible refine stop_index_V ?_) | (with_reducible refine stop_index_VV ?_)  | (with_reducible refine stop_str_B ?_) | (with_reducible refine stop_mark_B ?_) | (with_reducible refine stop_buildSlice ?_))
  refine (wnums_any wa2 g2 none [] _ _ q2 hwa2.wr hq2 (by rintro b rfl; exact ⟨by omega, by omega, by simp⟩) (by simp) (by simp)).mono ?_
  rintro e wb2 ⟨rfl, h2, a1, a2⟩
  have hbb2 := hwa2.below hba2 a2
  have hwb2 := hwa2.step a1 a2
  have hP1c := hP1b.only a2.2 (by rintro b hb _ (e | e); exact absurd hb (by omega); cases e)
  clear a1 a2 hwa2 hba2 hq2
  go_wp2_with (first | ((with_reducible apply wpList_unguard); rfl) | (with_reducible refine stop_make ?_) | ((with_reducible apply len_B); assumption) | ((with_reducible apply len_BB); assumption)  | ((with_reducible apply len_N); assumption) | ((with_reducible apply len_V); assumption) | ((with_reducible apply len_VV); assumption)  | (with_reducible refine stop_builtin ?_) | (with_reducible refine stop_slice ?_) | (with_reducible refine stop_index_B ?_) | (with_reducible refine stop_index_BB ?_)  | (with_reducible refine stop_index_N ?_) | (with_reducible refine stop_index_V ?_) | (with_reducible refine stop_index_VV ?_)  | (with_reducible refine stop_str_B ?_) | (with_reducible refine stop_mark_B ?_) | (with_reducible refine stop_buildSlice ?_))
  refine (wbytes_any wb2 g2 h2 _ hwb2.wr (by simpa [encs] using hlb)).mono ?_
  rintro e wc2 ⟨p2, rfl, hp2, hbc2⟩
  have hb2 := below_on hbb2 hbc2 hbb2.size
  have hP2 := hp2.sl'.old
  rw [List.nil_append, show encs [b] = enc b.toNat by simp [encs]] at hP2
  have hP1d := hP1c.below hbc2 (Nat.le_refl _)
  clear hp2 hbc2 hwb2 hbb2
  go_wp2_with (first | ((with_reducible apply wpList_unguard); rfl) | (with_reducible refine stop_make ?_) | ((with_reducible apply len_B); assumption) | ((with_reducible apply len_BB); assumption)  | ((with_reducible apply len_N); assumption) | ((with_reducible apply len_V); assumption) | ((with_reducible apply len_VV); assumption)  | (with_reducible refine stop_builtin ?_) | (with_reducible refine stop_slice ?_) | (with_reducible refine stop_index_B ?_) | (with_reducible refine stop_index_BB ?_)  | (with_reducible refine stop_index_N ?_) | (with_reducible refine stop_index_V ?_) | (with_reducible refine stop_index_VV ?_)  | (with_reducible refine stop_str_B ?_) | (with_reducible refine stop_mark_B ?_) | (with_reducible refine stop_buildSlice ?_))
  obtain ⟨L, hL⟩ : ∃ L, L = enc a.toNat := ⟨_, rfl⟩
  obtain ⟨M, hM⟩ : ∃ M, M = enc b.toNat := ⟨_, rfl⟩
  have hstart := enc_len_step a.toNat
  rw [← hL] at hla hstart hP1d
  rw [← hM] at hlb hP2
  have HL := Lib.hid hL
  have HM := Lib.hid hM
  have Hs := Lib.hid hstart
  clear hL hM hP1c hP1b hP1a hstart
  go_loop [7, 8] (fun x m => ∃ c n : Nat, x = .int .i64 c ∧ m = .int .u64 n ∧ n < 18446744073709551616 ∧ L.length = c + if n = 0 then 0 else (enc n).length) (fun _ m => (intOf m).toNat)
  case atStart => exact ⟨1, a.toNat / 128, rfl, by go_num, by omega, Hs.out⟩
  case round =>
    obtain ⟨c, n, rfl, rfl, hn, hlen⟩ := hrel
    have Hlen := Lib.hid hlen
    have hc : c ≤ 1000000000 := by omega
    clear hlen
    by_cases h0 : 0 < n
    · go_wp2_with (first | ((with_reducible apply wpList_unguard); rfl) | (with_reducible refine stop_make ?_) | ((with_reducible apply len_B); assumption) | ((with_reducible apply len_BB); assumption)  | ((with_reducible apply len_N); assumption) | ((with_reducible apply len_V); assumption) | ((with_reducible apply len_VV); assumption)  | (with_reducible refine stop_builtin ?_) | (with_reducible refine stop_slice ?_) | (with_reducible refine stop_index_B ?_) | (with_reducible refine stop_index_BB ?_)  | (with_reducible refine stop_index_N ?_) | (with_reducible refine stop_index_V ?_) | (with_reducible refine stop_index_VV ?_)  | (with_reducible refine stop_str_B ?_) | (with_reducible refine stop_mark_B ?_) | (with_reducible refine stop_buildSlice ?_))
      have hs := enc_len_step n
      have e := Hlen.out
      rw [if_neg (by omega)] at e
      exact ⟨⟨c + 1, n / 128, by go_num, by go_num, by omega, by rw [e, hs]; omega⟩, by simp [intOf]; omega⟩
    · have e := Hlen.out
      rw [if_pos (by omega)] at e
      have hcl : ((L.length : Int) == (c : Int)) = true := by simp; omega
      by_cases hab : b.toNat < a.toNat
      · go_wp2_with (first | ((with_reducible apply wpList_unguard); rfl) | (with_reducible refine stop_make ?_) | ((with_reducible apply len_B); assumption) | ((with_reducible apply len_BB); assumption)  | ((with_reducible apply len_N); assumption) | ((with_reducible apply len_V); assumption) | ((with_reducible apply len_VV); assumption)  | (with_reducible refine stop_builtin ?_) | (with_reducible refine stop_slice ?_) | (with_reducible refine stop_index_B ?_) | (with_reducible refine stop_index_BB ?_)  | (with_reducible refine stop_index_N ?_) | (with_reducible refine stop_index_V ?_) | (with_reducible refine stop_index_VV ?_)  | (with_reducible refine stop_str_B ?_) | (with_reducible refine stop_mark_B ?_) | (with_reducible refine stop_buildSlice ?_))
        go_ret
        exact ⟨rfl, hb2⟩
      · have hle : L.length ≤ M.length := by rw [HL.out, HM.out]; exact enc_mono _ _ (by omega)
        go_wp2_with (first | ((with_reducible apply wpList_unguard); rfl) | (with_reducible refine stop_make ?_) | ((with_reducible apply len_B); assumption) | ((with_reducible apply len_BB); assumption)  | ((with_reducible apply len_N); assumption) | ((with_reducible apply len_V); assumption) | ((with_reducible apply len_VV); assumption)  | (with_reducible refine stop_builtin ?_) | (with_reducible refine stop_slice ?_) | (with_reducible refine stop_index_B ?_) | (with_reducible refine stop_index_BB ?_)  | (with_reducible refine stop_index_N ?_) | (with_reducible refine stop_index_V ?_) | (with_reducible refine stop_index_VV ?_)  | (with_reducible refine stop_str_B ?_) | (with_reducible refine stop_mark_B ?_) | (with_reducible refine stop_buildSlice ?_))
        go_ret
        refine ⟨?_, hb2⟩
        have hcm : c ≤ M.length := by omega
        simp [hcm]
end Go.Proofs.Ytfgagfemhmcdfaa
