/- package armillarylaw02: ScrollOne. -/
import Derived.Test.YtfgagfemhmcdfaaAwake
import Derived.Test.YtfgagfemhmcdfaaScMath
namespace Go.Proofs.Ytfgagfemhmcdfaa
open Go Go.RowKit Go.Arm
theorem rnum_form (l : List UInt8) (most : Nat) (h : rend (rnum l 0 most).2.1 (rnum l 0 most).2.2 = 0) : l = enc (rnum l 0 most).1 := by
  unfold rnum at h ⊢
  rw [if_neg (by decide)] at h ⊢
  by_cases h1 : (taken l most).2.2 = 0
  · rw [if_neg (by simpa using h1)] at h ⊢
    have g := (taken_form l most h1).1
    have hr : (taken l most).2.1 = [] := by
      unfold rend at h
      rw [if_neg (by simp)] at h
      by_cases hl : 0 < (taken l most).2.1.length
      · rw [if_pos hl] at h; simp at h
      · exact List.eq_nil_of_length_eq_zero (by omega)
    rw [hr, List.append_nil] at g
    exact g
  · rw [if_pos h1] at h
    unfold rend at h
    rw [if_pos h1] at h
    exact absurd h h1
theorem rtext_len (l : List UInt8) (most : Nat) : (rtext l 0 most).1.length ≤ most ∧ (rtext l 0 most).1.length ≤ l.length := by
  have ht := taken_len l most
  unfold rtext
  rw [if_neg (by decide)]
  by_cases h1 : (taken l most).2.2 = 0
  · have g := (taken_form l most h1).2
    rw [if_neg (by simpa using h1)]
    split
    · simp
    · simp only [List.length_take]; omega
  · rw [if_pos h1]; simp
theorem rtext_form (l : List UInt8) (most : Nat) (h : rend (rtext l 0 most).2.1 (rtext l 0 most).2.2 = 0) : l = encText (rtext l 0 most).1 := by
  unfold rtext at h ⊢
  rw [if_neg (by decide)] at h ⊢
  by_cases h1 : (taken l most).2.2 = 0
  · rw [if_neg (by simpa using h1)] at h ⊢
    have g := (taken_form l most h1).1
    by_cases h2 : (taken l most).2.1.length < (taken l most).1
    · rw [if_pos h2] at h; simp [rend] at h
    · rw [if_neg h2] at h ⊢
      have hr : (taken l most).2.1.length ≤ (taken l most).1 := by
        unfold rend at h
        rw [if_neg (by simp)] at h
        by_cases hl : 0 < ((taken l most).2.1.drop (taken l most).1).length
        · rw [if_pos hl] at h; simp at h
        · rw [List.length_drop] at hl; omega
      simp only
      rw [encText, List.take_of_length_le hr, show (taken l most).2.1.length = (taken l most).1 by omega]
      exact g
  · rw [if_pos h1] at h
    unfold rend at h
    rw [if_pos h1] at h
    exact absurd h h1
theorem rvecs_form (l : List UInt8) (most : Nat) : (rvecs l 0 most).1.length ≤ most ∧ (rend (rvecs l 0 most).2.1 (rvecs l 0 most).2.2 = 0 → l = encVec (rvecs l 0 most).1) := by
  unfold rvecs
  rw [if_neg (by decide)]
  by_cases h1 : (taken l most).2.2 = 0
  · rw [if_neg (by simpa using h1)]
    obtain ⟨g, gm⟩ := taken_form l most h1
    by_cases h2 : (rvec (taken l most).1 (taken l most).2.1).2.2 = 0
    · rw [if_neg (by simpa using h2)]
      obtain ⟨k1, k2⟩ := rvec_form _ _ h2
      refine ⟨by omega, fun h => ?_⟩
      have hr : (rvec (taken l most).1 (taken l most).2.1).2.1 = [] := by
        unfold rend at h
        rw [h2, if_neg (by decide)] at h
        by_cases hl : 0 < (rvec (taken l most).1 (taken l most).2.1).2.1.length
        · rw [if_pos hl] at h; simp at h
        · exact List.eq_nil_of_length_eq_zero (by omega)
      rw [hr, List.append_nil] at k2
      rw [encVec, k1]
      conv => lhs; rw [g, k2]
      rfl
    · rw [if_pos h2]
      refine ⟨by simp, fun h => ?_⟩
      unfold rend at h
      rw [if_pos h2] at h
      exact absurd h h2
  · rw [if_pos h1]
    refine ⟨by simp, fun h => ?_⟩
    unfold rend at h
    rw [if_pos h1] at h
    exact absurd h h1

theorem scrollOne_any (w : World) {S : Nat → Prop} {l : List UInt8} {p : Value} (hp : Sl w S l p) (k : Nat) (hk : k < 256) :
    Calls Try.prog 6 #[p, .int .u8 k] w fun e w' => e = .returned (.bool true) ∧ Below w.heap.size w w' := by
  go_enter Try.func6, Try.ntmps6
  go_wp2_with (first | ((with_reducible apply wpList_unguard); rfl) | (with_reducible refine stop_make ?_) | ((with_reducible apply len_B); assumption) | ((with_reducible apply len_BB); assumption)  | ((with_reducible apply len_N); assumption) | ((with_reducible apply len_V); assumption) | ((with_reducible apply len_VV); assumption)  | (with_reducible refine stop_builtin ?_) | (with_reducible refine stop_slice ?_) | (with_reducible refine stop_index_B ?_) | (with_reducible refine stop_index_BB ?_)  | (with_reducible refine stop_index_N ?_) | (with_reducible refine stop_index_V ?_) | (with_reducible refine stop_index_VV ?_)  | (with_reducible refine stop_str_B ?_) | (with_reducible refine stop_mark_B ?_) | (with_reducible refine stop_buildSlice ?_))
  refine (awake_any w).mono ?_
  rintro e w0 ⟨rfl, hb0⟩
  have hp0 := hp.old.below hb0 (Nat.le_refl _)
  clear hp
  go_wp2_with (first | ((with_reducible apply wpList_unguard); rfl) | (with_reducible refine stop_make ?_) | ((with_reducible apply len_B); assumption) | ((with_reducible apply len_BB); assumption)  | ((with_reducible apply len_N); assumption) | ((with_reducible apply len_V); assumption) | ((with_reducible apply len_VV); assumption)  | (with_reducible refine stop_builtin ?_) | (with_reducible refine stop_slice ?_) | (with_reducible refine stop_index_B ?_) | (with_reducible refine stop_index_BB ?_)  | (with_reducible refine stop_index_N ?_) | (with_reducible refine stop_index_V ?_) | (with_reducible refine stop_index_VV ?_)  | (with_reducible refine stop_str_B ?_) | (with_reducible refine stop_mark_B ?_) | (with_reducible refine stop_buildSlice ?_))
  refine (cut_any w0 _ _ _ 60 hp0 (by decide) (by decide)).mono ?_
  rintro e w1 ⟨q, rfl, hq, hb⟩
  have hb1 := below_on hb0 hb hb0.size
  have hq1 := hq.sl'.old
  obtain ⟨L, hL⟩ : ∃ L, L = l.take 60 := ⟨_, rfl⟩
  have hl : L.length ≤ 60 := by rw [hL, List.length_take]; omega
  rw [show (60 : Int).toNat = 60 from rfl, ← hL] at hq1
  clear hq hb hL hp0 hb0
  go_wp2_with (first | ((with_reducible apply wpList_unguard); rfl) | (with_reducible refine stop_make ?_) | ((with_reducible apply len_B); assumption) | ((with_reducible apply len_BB); assumption)  | ((with_reducible apply len_N); assumption) | ((with_reducible apply len_V); assumption) | ((with_reducible apply len_VV); assumption)  | (with_reducible refine stop_builtin ?_) | (with_reducible refine stop_slice ?_) | (with_reducible refine stop_index_B ?_) | (with_reducible refine stop_index_BB ?_)  | (with_reducible refine stop_index_N ?_) | (with_reducible refine stop_index_V ?_) | (with_reducible refine stop_index_VV ?_)  | (with_reducible refine stop_str_B ?_) | (with_reducible refine stop_mark_B ?_) | (with_reducible refine stop_buildSlice ?_))
  refine (new_any w1 _ L q hq1 (by omega)).mono ?_
  rintro e w2 ⟨r, rfl, hr, hR, hb⟩
  have hR := hR.old
  have hb2 := below_on hb1 hb hb1.size
  have hq2 := hq1.below hb (Nat.le_refl _)
  have hs1 := hb1.size
  have hs2 := hR.lt
  clear hb hb1 hq1
  rcases (show k % 3 = 0 ∨ k % 3 = 1 ∨ k % 3 = 2 by omega) with h3 | h3 | h3
  · have hk0 : ((k : Int) % 3 == 0) = true := by simp; omega
    have hk1 : ((k : Int) % 3 == 1) = false := by simp; omega
    go_wp2_with (first | ((with_reducible apply wpList_unguard); rfl) | (with_reducible refine stop_make ?_) | ((with_reducible apply len_B); assumption) | ((with_reducible apply len_BB); assumption)  | ((with_reducible apply len_N); assumption) | ((with_reducible apply len_V); assumption) | ((with_reducible apply len_VV); assumption)  | (with_reducible refine stop_builtin ?_) | (with_reducible refine stop_slice ?_) | (with_reducible refine stop_index_B ?_) | (with_reducible refine stop_index_BB ?_)  | (with_reducible refine stop_index_N ?_) | (with_reducible refine stop_index_V ?_) | (with_reducible refine stop_index_VV ?_)  | (with_reducible refine stop_str_B ?_) | (with_reducible refine stop_mark_B ?_) | (with_reducible refine stop_buildSlice ?_))
    have hw3 : Wf w (w2.alloc (.cells #[.slice none 0 0] 27)) w2.heap.size none [] := Wf.fresh hb2.size
    have hal := (Below.refl w2.heap.size w2).alloc (Nat.le_refl _) (.cells #[.slice none 0 0] 27)
    have hb3 := below_on hb2 hal hb2.size
    have hq3 := hq2.below hal (Nat.le_refl _)
    have hR3 := hR.only (Only.of_below hal) (by omega) (fun b _ h => by omega)
    have hgs : w2.heap.size < (w2.alloc (.cells #[.slice none 0 0] 27)).heap.size := hw3.wr.lt
    generalize w2.alloc (.cells #[.slice none 0 0] 27) = w3 at *
    obtain ⟨g, hg⟩ : ∃ g, g = w2.heap.size := ⟨_, rfl⟩
    rw [← hg] at hw3 hgs hs2 ⊢
    have hgg : w2.heap.size ≤ g := Nat.le_of_eq hg.symm
    clear hg hal hb2 hq2 hR
    refine (num_any' w3 r _ L 0 18446744073709551615 hR3).mono ?_
    rintro e w4 ⟨rfl, hR4, ho⟩
    have hnl : (rnum L 0 18446744073709551615).1 < 18446744073709551616 := by
      unfold rnum
      rw [if_neg (by decide)]
      split
      · show (0 : Nat) < _; decide
      · exact taken_num L _ (by decide)
    have hs4 := ho.size
    have hb4 := below_only hb3 ho (by rintro k rfl; omega)
    have hw4 := hw3.only ho (by omega) (by rintro k e; cases e)
    have hq4 := hq3.only ho (by intro b hb _ e; omega)
    obtain ⟨u, hu⟩ : ∃ u : UInt64, (rnum L 0 18446744073709551615).1 = u.toNat := ⟨UInt64.ofNat (rnum L 0 18446744073709551615).1, (UInt64.toNat_ofNat_of_lt' hnl).symm⟩
    have hform := rnum_form L 18446744073709551615
    rw [hu] at hform ⊢
    generalize (rnum L 0 18446744073709551615).2.1 = M at *
    generalize (rnum L 0 18446744073709551615).2.2 = E at *
    have Hform := Lib.hid hform
    clear hform hu hnl hb3 hw3 hq3 hR3 ho
    go_wp2_with (first | ((with_reducible apply wpList_unguard); rfl) | (with_reducible refine stop_make ?_) | ((with_reducible apply len_B); assumption) | ((with_reducible apply len_BB); assumption)  | ((with_reducible apply len_N); assumption) | ((with_reducible apply len_V); assumption) | ((with_reducible apply len_VV); assumption)  | (with_reducible refine stop_builtin ?_) | (with_reducible refine stop_slice ?_) | (with_reducible refine stop_index_B ?_) | (with_reducible refine stop_index_BB ?_)  | (with_reducible refine stop_index_N ?_) | (with_reducible refine stop_index_V ?_) | (with_reducible refine stop_index_VV ?_)  | (with_reducible refine stop_str_B ?_) | (with_reducible refine stop_mark_B ?_) | (with_reducible refine stop_buildSlice ?_))
    refine Stop.go (build_N (S := fun _ => False) ([u] : List UInt64) [_] rfl rfl rds_N (by simp) fun q5 w5 k1 k2 k3 k4 => ?_)
    have hx5 := build_flat k1 k3
    have hb5 := hb4.grown k2 hb4.size (by simp)
    have hw5 := hw4.keep (below_of_grown k2 (Nat.le_refl _) (by simp))
    have hq5 := hq4.grown0 k2
    have hR5 := hR4.only (Only.of_grown k2) (by simp) (by simp)
    clear k1 k2 k3 hb4 hw4 hq4 hR4
    go_wp2_with (first | ((with_reducible apply wpList_unguard); rfl) | (with_reducible refine stop_make ?_) | ((with_reducible apply len_B); assumption) | ((with_reducible apply len_BB); assumption)  | ((with_reducible apply len_N); assumption) | ((with_reducible apply len_V); assumption) | ((with_reducible apply len_VV); assumption)  | (with_reducible refine stop_builtin ?_) | (with_reducible refine stop_slice ?_) | (with_reducible refine stop_index_B ?_) | (with_reducible refine stop_index_BB ?_)  | (with_reducible refine stop_index_N ?_) | (with_reducible refine stop_index_V ?_) | (with_reducible refine stop_index_VV ?_)  | (with_reducible refine stop_str_B ?_) | (with_reducible refine stop_mark_B ?_) | (with_reducible refine stop_buildSlice ?_))
    refine (wnums_any w5 g none [] _ [u] q5 hw5.wr hx5 (by rintro b rfl; exact ⟨by omega, by omega, by simp⟩) (by simp) (by simp)).mono ?_
    rintro e w6 ⟨rfl, h6, a1, a2⟩
    rw [List.nil_append, show encs [u] = enc u.toNat by simp [encs]] at a1
    have hb6 := hw5.below hb5 a2
    have hw6 := hw5.step a1 a2
    have hq6 := hq5.only a2.2 (by rintro b hb _ (e | e); exact absurd hb (by omega); cases e)
    have hR6 := hR5.only a2.2 (by rintro (e | e); omega; cases e) (by rintro b hb h (e | e); exact absurd hb (by omega); cases e)
    clear a1 a2 hb5 hw5 hq5 hR5 hx5
    go_wp2_with (first | ((with_reducible apply wpList_unguard); rfl) | (with_reducible refine stop_make ?_) | ((with_reducible apply len_B); assumption) | ((with_reducible apply len_BB); assumption)  | ((with_reducible apply len_N); assumption) | ((with_reducible apply len_V); assumption) | ((with_reducible apply len_VV); assumption)  | (with_reducible refine stop_builtin ?_) | (with_reducible refine stop_slice ?_) | (with_reducible refine stop_index_B ?_) | (with_reducible refine stop_index_BB ?_)  | (with_reducible refine stop_index_N ?_) | (with_reducible refine stop_index_V ?_) | (with_reducible refine stop_index_VV ?_)  | (with_reducible refine stop_str_B ?_) | (with_reducible refine stop_mark_B ?_) | (with_reducible refine stop_buildSlice ?_))
    refine (end_any w6 r _ _ _ hR6).mono ?_
    rintro e w7 ⟨rfl, rfl⟩
    by_cases hE : rend M E = 0
    · rw [hE]
      go_wp2_with (first | ((with_reducible apply wpList_unguard); rfl) | (with_reducible refine stop_make ?_) | ((with_reducible apply len_B); assumption) | ((with_reducible apply len_BB); assumption)  | ((with_reducible apply len_N); assumption) | ((with_reducible apply len_V); assumption) | ((with_reducible apply len_VV); assumption)  | (with_reducible refine stop_builtin ?_) | (with_reducible refine stop_slice ?_) | (with_reducible refine stop_index_B ?_) | (with_reducible refine stop_index_BB ?_)  | (with_reducible refine stop_index_N ?_) | (with_reducible refine stop_index_V ?_) | (with_reducible refine stop_index_VV ?_)  | (with_reducible refine stop_str_B ?_) | (with_reducible refine stop_mark_B ?_) | (with_reducible refine stop_buildSlice ?_))
      refine (wbytes_any w6 g h6 _ hw6.wr (by have := enc_len10 u.toNat u.toNat_lt; omega)).mono ?_
      rintro e w7 ⟨z, rfl, hz, hb⟩
      have hb7 := below_on hb6 hb hb6.size
      have hq7 := hq6.below hb (Nat.le_refl _)
      have hz7 := hz.sl'
      go_wp2_with (first | ((with_reducible apply wpList_unguard); rfl) | (with_reducible refine stop_make ?_) | ((with_reducible apply len_B); assumption) | ((with_reducible apply len_BB); assumption)  | ((with_reducible apply len_N); assumption) | ((with_reducible apply len_V); assumption) | ((with_reducible apply len_VV); assumption)  | (with_reducible refine stop_builtin ?_) | (with_reducible refine stop_slice ?_) | (with_reducible refine stop_index_B ?_) | (with_reducible refine stop_index_BB ?_)  | (with_reducible refine stop_index_N ?_) | (with_reducible refine stop_index_V ?_) | (with_reducible refine stop_index_VV ?_)  | (with_reducible refine stop_str_B ?_) | (with_reducible refine stop_mark_B ?_) | (with_reducible refine stop_buildSlice ?_))
      refine (same_any w7 _ _ _ _ z q hz7 hq7).mono ?_
      rintro e w8 ⟨rfl, rfl⟩
      have e1 : (enc u.toNat == L) = true := by simpa using (Hform.out hE).symm
      rw [e1]
      go_wp2_with (first | ((with_reducible apply wpList_unguard); rfl) | (with_reducible refine stop_make ?_) | ((with_reducible apply len_B); assumption) | ((with_reducible apply len_BB); assumption)  | ((with_reducible apply len_N); assumption) | ((with_reducible apply len_V); assumption) | ((with_reducible apply len_VV); assumption)  | (with_reducible refine stop_builtin ?_) | (with_reducible refine stop_slice ?_) | (with_reducible refine stop_index_B ?_) | (with_reducible refine stop_index_BB ?_)  | (with_reducible refine stop_index_N ?_) | (with_reducible refine stop_index_V ?_) | (with_reducible refine stop_index_VV ?_)  | (with_reducible refine stop_str_B ?_) | (with_reducible refine stop_mark_B ?_) | (with_reducible refine stop_buildSlice ?_))
      go_ret
      exact ⟨rfl, hb7⟩
    · have hne : (rend M E != 0) = true := by simpa using hE
      go_wp2_with (first | ((with_reducible apply wpList_unguard); rfl) | (with_reducible refine stop_make ?_) | ((with_reducible apply len_B); assumption) | ((with_reducible apply len_BB); assumption)  | ((with_reducible apply len_N); assumption) | ((with_reducible apply len_V); assumption) | ((with_reducible apply len_VV); assumption)  | (with_reducible refine stop_builtin ?_) | (with_reducible refine stop_slice ?_) | (with_reducible refine stop_index_B ?_) | (with_reducible refine stop_index_BB ?_)  | (with_reducible refine stop_index_N ?_) | (with_reducible refine stop_index_V ?_) | (with_reducible refine stop_index_VV ?_)  | (with_reducible refine stop_str_B ?_) | (with_reducible refine stop_mark_B ?_) | (with_reducible refine stop_buildSlice ?_))
      go_ret
      exact ⟨rfl, hb6⟩
  · have hk0 : ((k : Int) % 3 == 0) = false := by simp; omega
    have hk1 : ((k : Int) % 3 == 1) = true := by simp; omega
    go_wp2_with (first | ((with_reducible apply wpList_unguard); rfl) | (with_reducible refine stop_make ?_) | ((with_reducible apply len_B); assumption) | ((with_reducible apply len_BB); assumption)  | ((with_reducible apply len_N); assumption) | ((with_reducible apply len_V); assumption) | ((with_reducible apply len_VV); assumption)  | (with_reducible refine stop_builtin ?_) | (with_reducible refine stop_slice ?_) | (with_reducible refine stop_index_B ?_) | (with_reducible refine stop_index_BB ?_)  | (with_reducible refine stop_index_N ?_) | (with_reducible refine stop_index_V ?_) | (with_reducible refine stop_index_VV ?_)  | (with_reducible refine stop_str_B ?_) | (with_reducible refine stop_mark_B ?_) | (with_reducible refine stop_buildSlice ?_))
    have hw3 : Wf w (w2.alloc (.cells #[.slice none 0 0] 27)) w2.heap.size none [] := Wf.fresh hb2.size
    have hal := (Below.refl w2.heap.size w2).alloc (Nat.le_refl _) (.cells #[.slice none 0 0] 27)
    have hb3 := below_on hb2 hal hb2.size
    have hq3 := hq2.below hal (Nat.le_refl _)
    have hR3 := hR.only (Only.of_below hal) (by omega) (fun b _ h => by omega)
    have hgs : w2.heap.size < (w2.alloc (.cells #[.slice none 0 0] 27)).heap.size := hw3.wr.lt
    generalize w2.alloc (.cells #[.slice none 0 0] 27) = w3 at *
    obtain ⟨g, hg⟩ : ∃ g, g = w2.heap.size := ⟨_, rfl⟩
    rw [← hg] at hw3 hgs hs2 ⊢
    have hgg : w2.heap.size ≤ g := Nat.le_of_eq hg.symm
    clear hg hal hb2 hq2 hR
    refine (text_any w3 r _ L 0 1000 hR3 (by decide) (by omega)).mono ?_
    rintro e w4 ⟨t, rfl, ht, hR4, ho⟩
    rw [show (1000 : Int).toNat = 1000 from rfl] at ht hR4
    have hlen := rtext_len L 1000
    have hs4 := ho.size
    have hb4 := below_only hb3 ho (by rintro k rfl; omega)
    have hw4 := hw3.only ho (by omega) (by rintro k e; cases e)
    have hq4 := hq3.only ho (by intro b hb _ e; omega)
    have hform := rtext_form L 1000
    generalize (rtext L 0 1000).1 = T at *
    generalize (rtext L 0 1000).2.1 = M at *
    generalize (rtext L 0 1000).2.2 = E at *
    have Hform := Lib.hid hform
    have hx4 : Sl w4 (fun b => w3.heap.size ≤ b ∧ b < w4.heap.size) T t := ht.sl (fun _ h _ => h.elim) fun b hb => ht.ge b hb
    clear hform hb3 hw3 hq3 hR3 ho ht
    go_wp2_with (first | ((with_reducible apply wpList_unguard); rfl) | (with_reducible refine stop_make ?_) | ((with_reducible apply len_B); assumption) | ((with_reducible apply len_BB); assumption)  | ((with_reducible apply len_N); assumption) | ((with_reducible apply len_V); assumption) | ((with_reducible apply len_VV); assumption)  | (with_reducible refine stop_builtin ?_) | (with_reducible refine stop_slice ?_) | (with_reducible refine stop_index_B ?_) | (with_reducible refine stop_index_BB ?_)  | (with_reducible refine stop_index_N ?_) | (with_reducible refine stop_index_V ?_) | (with_reducible refine stop_index_VV ?_)  | (with_reducible refine stop_str_B ?_) | (with_reducible refine stop_mark_B ?_) | (with_reducible refine stop_buildSlice ?_))
    refine Stop.go (build_BB [T] [t] rfl rfl ⟨_, _, rfl, ⟨t, rfl, hx4⟩, rfl⟩ (by simp) fun q5 w5 k1 k2 k3 k4 => ?_)
    have hx5 : Sl w5 (fun b => w3.heap.size ≤ b ∧ b < w5.heap.size) [T] q5 := k1.sl (fun b h _ => ⟨h.1, by omega⟩) (fun b hb => by rw [k3] at hb; cases hb; omega)
    have hb5 := hb4.grown k2 hb4.size (by simp)
    have hw5 := hw4.keep (below_of_grown k2 (Nat.le_refl _) (by simp))
    have hq5 := hq4.grown0 k2
    have hR5 := hR4.only (Only.of_grown k2) (by simp) (by simp)
    clear k1 k2 k3 hb4 hw4 hq4 hR4
    go_wp2_with (first | ((with_reducible apply wpList_unguard); rfl) | (with_reducible refine stop_make ?_) | ((with_reducible apply len_B); assumption) | ((with_reducible apply len_BB); assumption)  | ((with_reducible apply len_N); assumption) | ((with_reducible apply len_V); assumption) | ((with_reducible apply len_VV); assumption)  | (with_reducible refine stop_builtin ?_) | (with_reducible refine stop_slice ?_) | (with_reducible refine stop_index_B ?_) | (with_reducible refine stop_index_BB ?_)  | (with_reducible refine stop_index_N ?_) | (with_reducible refine stop_index_V ?_) | (with_reducible refine stop_index_VV ?_)  | (with_reducible refine stop_str_B ?_) | (with_reducible refine stop_mark_B ?_) | (with_reducible refine stop_buildSlice ?_))
    refine (wtext_any w5 g none [] _ [T] q5 hw5.wr hx5 (by rintro b ⟨h1, h2⟩; exact ⟨by omega, by omega, by simp⟩) (by simp) (by simp) (by simpa using hlen.1)).mono ?_
    rintro e w6 ⟨rfl, h6, a1, a2⟩
    rw [List.nil_append, show encTexts [T] = encText T by simp [encTexts]] at a1
    have hb6 := hw5.below hb5 a2
    have hw6 := hw5.step a1 a2
    have hq6 := hq5.only a2.2 (by rintro b hb _ (e | e); exact absurd hb (by omega); cases e)
    have hR6 := hR5.only a2.2 (by rintro (e | e); omega; cases e) (by rintro b hb h (e | e); exact absurd hb (by omega); cases e)
    clear a1 a2 hb5 hw5 hq5 hR5 hx5
    go_wp2_with (first | ((with_reducible apply wpList_unguard); rfl) | (with_reducible refine stop_make ?_) | ((with_reducible apply len_B); assumption) | ((with_reducible apply len_BB); assumption)  | ((with_reducible apply len_N); assumption) | ((with_reducible apply len_V); assumption) | ((with_reducible apply len_VV); assumption)  | (with_reducible refine stop_builtin ?_) | (with_reducible refine stop_slice ?_) | (with_reducible refine stop_index_B ?_) | (with_reducible refine stop_index_BB ?_)  | (with_reducible refine stop_index_N ?_) | (with_reducible refine stop_index_V ?_) | (with_reducible refine stop_index_VV ?_)  | (with_reducible refine stop_str_B ?_) | (with_reducible refine stop_mark_B ?_) | (with_reducible refine stop_buildSlice ?_))
    refine (end_any w6 r _ _ _ hR6).mono ?_
    rintro e w7 ⟨rfl, rfl⟩
    by_cases hE : rend M E = 0
    · rw [hE]
      go_wp2_with (first | ((with_reducible apply wpList_unguard); rfl) | (with_reducible refine stop_make ?_) | ((with_reducible apply len_B); assumption) | ((with_reducible apply len_BB); assumption)  | ((with_reducible apply len_N); assumption) | ((with_reducible apply len_V); assumption) | ((with_reducible apply len_VV); assumption)  | (with_reducible refine stop_builtin ?_) | (with_reducible refine stop_slice ?_) | (with_reducible refine stop_index_B ?_) | (with_reducible refine stop_index_BB ?_)  | (with_reducible refine stop_index_N ?_) | (with_reducible refine stop_index_V ?_) | (with_reducible refine stop_index_VV ?_)  | (with_reducible refine stop_str_B ?_) | (with_reducible refine stop_mark_B ?_) | (with_reducible refine stop_buildSlice ?_))
      refine (wbytes_any w6 g h6 _ hw6.wr (by have := encText_len T (by omega); omega)).mono ?_
      rintro e w7 ⟨z, rfl, hz, hb⟩
      have hb7 := below_on hb6 hb hb6.size
      have hq7 := hq6.below hb (Nat.le_refl _)
      have hz7 := hz.sl'
      go_wp2_with (first | ((with_reducible apply wpList_unguard); rfl) | (with_reducible refine stop_make ?_) | ((with_reducible apply len_B); assumption) | ((with_reducible apply len_BB); assumption)  | ((with_reducible apply len_N); assumption) | ((with_reducible apply len_V); assumption) | ((with_reducible apply len_VV); assumption)  | (with_reducible refine stop_builtin ?_) | (with_reducible refine stop_slice ?_) | (with_reducible refine stop_index_B ?_) | (with_reducible refine stop_index_BB ?_)  | (with_reducible refine stop_index_N ?_) | (with_reducible refine stop_index_V ?_) | (with_reducible refine stop_index_VV ?_)  | (with_reducible refine stop_str_B ?_) | (with_reducible refine stop_mark_B ?_) | (with_reducible refine stop_buildSlice ?_))
      refine (same_any w7 _ _ _ _ z q hz7 hq7).mono ?_
      rintro e w8 ⟨rfl, rfl⟩
      have e1 : (encText T == L) = true := by simpa using (Hform.out hE).symm
      rw [e1]
      go_wp2_with (first | ((with_reducible apply wpList_unguard); rfl) | (with_reducible refine stop_make ?_) | ((with_reducible apply len_B); assumption) | ((with_reducible apply len_BB); assumption)  | ((with_reducible apply len_N); assumption) | ((with_reducible apply len_V); assumption) | ((with_reducible apply len_VV); assumption)  | (with_reducible refine stop_builtin ?_) | (with_reducible refine stop_slice ?_) | (with_reducible refine stop_index_B ?_) | (with_reducible refine stop_index_BB ?_)  | (with_reducible refine stop_index_N ?_) | (with_reducible refine stop_index_V ?_) | (with_reducible refine stop_index_VV ?_)  | (with_reducible refine stop_str_B ?_) | (with_reducible refine stop_mark_B ?_) | (with_reducible refine stop_buildSlice ?_))
      go_ret
      exact ⟨rfl, hb7⟩
    · have hne : (rend M E != 0) = true := by simpa using hE
      go_wp2_with (first | ((with_reducible apply wpList_unguard); rfl) | (with_reducible refine stop_make ?_) | ((with_reducible apply len_B); assumption) | ((with_reducible apply len_BB); assumption)  | ((with_reducible apply len_N); assumption) | ((with_reducible apply len_V); assumption) | ((with_reducible apply len_VV); assumption)  | (with_reducible refine stop_builtin ?_) | (with_reducible refine stop_slice ?_) | (with_reducible refine stop_index_B ?_) | (with_reducible refine stop_index_BB ?_)  | (with_reducible refine stop_index_N ?_) | (with_reducible refine stop_index_V ?_) | (with_reducible refine stop_index_VV ?_)  | (with_reducible refine stop_str_B ?_) | (with_reducible refine stop_mark_B ?_) | (with_reducible refine stop_buildSlice ?_))
      go_ret
      exact ⟨rfl, hb6⟩
  · have hk0 : ((k : Int) % 3 == 0) = false := by simp; omega
    have hk1 : ((k : Int) % 3 == 1) = false := by simp; omega
    go_wp2_with (first | ((with_reducible apply wpList_unguard); rfl) | (with_reducible refine stop_make ?_) | ((with_reducible apply len_B); assumption) | ((with_reducible apply len_BB); assumption)  | ((with_reducible apply len_N); assumption) | ((with_reducible apply len_V); assumption) | ((with_reducible apply len_VV); assumption)  | (with_reducible refine stop_builtin ?_) | (with_reducible refine stop_slice ?_) | (with_reducible refine stop_index_B ?_) | (with_reducible refine stop_index_BB ?_)  | (with_reducible refine stop_index_N ?_) | (with_reducible refine stop_index_V ?_) | (with_reducible refine stop_index_VV ?_)  | (with_reducible refine stop_str_B ?_) | (with_reducible refine stop_mark_B ?_) | (with_reducible refine stop_buildSlice ?_))
    have hw3 : Wf w (w2.alloc (.cells #[.slice none 0 0] 27)) w2.heap.size none [] := Wf.fresh hb2.size
    have hal := (Below.refl w2.heap.size w2).alloc (Nat.le_refl _) (.cells #[.slice none 0 0] 27)
    have hb3 := below_on hb2 hal hb2.size
    have hq3 := hq2.below hal (Nat.le_refl _)
    have hR3 := hR.only (Only.of_below hal) (by omega) (fun b _ h => by omega)
    have hgs : w2.heap.size < (w2.alloc (.cells #[.slice none 0 0] 27)).heap.size := hw3.wr.lt
    generalize w2.alloc (.cells #[.slice none 0 0] 27) = w3 at *
    obtain ⟨g, hg⟩ : ∃ g, g = w2.heap.size := ⟨_, rfl⟩
    rw [← hg] at hw3 hgs hs2 ⊢
    have hgg : w2.heap.size ≤ g := Nat.le_of_eq hg.symm
    clear hg hal hb2 hq2 hR
    refine (vec_any w3 r _ L 0 1000 hR3 (by decide) (by omega)).mono ?_
    rintro e w4 ⟨t, rfl, ht, hR4, ho⟩
    rw [show (1000 : Int).toNat = 1000 from rfl] at ht hR4
    have hlen := (rvecs_form L 1000).1
    have hs4 := ho.size
    have hb4 := below_only hb3 ho (by rintro k rfl; omega)
    have hw4 := hw3.only ho (by omega) (by rintro k e; cases e)
    have hq4 := hq3.only ho (by intro b hb _ e; omega)
    have hform := (rvecs_form L 1000).2
    generalize (rvecs L 0 1000).1 = T at *
    generalize (rvecs L 0 1000).2.1 = M at *
    generalize (rvecs L 0 1000).2.2 = E at *
    have Hform := Lib.hid hform
    have hx4 : Sl w4 (fun b => w3.heap.size ≤ b ∧ b < w4.heap.size) T t := ht.sl (fun _ h _ => h.elim) fun b hb => ht.ge b hb
    clear hform hb3 hw3 hq3 hR3 ho ht
    go_wp2_with (first | ((with_reducible apply wpList_unguard); rfl) | (with_reducible refine stop_make ?_) | ((with_reducible apply len_B); assumption) | ((with_reducible apply len_BB); assumption)  | ((with_reducible apply len_N); assumption) | ((with_reducible apply len_V); assumption) | ((with_reducible apply len_VV); assumption)  | (with_reducible refine stop_builtin ?_) | (with_reducible refine stop_slice ?_) | (with_reducible refine stop_index_B ?_) | (with_reducible refine stop_index_BB ?_)  | (with_reducible refine stop_index_N ?_) | (with_reducible refine stop_index_V ?_) | (with_reducible refine stop_index_VV ?_)  | (with_reducible refine stop_str_B ?_) | (with_reducible refine stop_mark_B ?_) | (with_reducible refine stop_buildSlice ?_))
    refine Stop.go (build_VV [T] [t] rfl rfl ⟨_, _, rfl, ⟨t, rfl, hx4⟩, rfl⟩ (by simp) fun q5 w5 k1 k2 k3 k4 => ?_)
    have hx5 : Sl w5 (fun b => w3.heap.size ≤ b ∧ b < w5.heap.size) [T] q5 := k1.sl (fun b h _ => ⟨h.1, by omega⟩) (fun b hb => by rw [k3] at hb; cases hb; omega)
    have hb5 := hb4.grown k2 hb4.size (by simp)
    have hw5 := hw4.keep (below_of_grown k2 (Nat.le_refl _) (by simp))
    have hq5 := hq4.grown0 k2
    have hR5 := hR4.only (Only.of_grown k2) (by simp) (by simp)
    clear k1 k2 k3 hb4 hw4 hq4 hR4
    go_wp2_with (first | ((with_reducible apply wpList_unguard); rfl) | (with_reducible refine stop_make ?_) | ((with_reducible apply len_B); assumption) | ((with_reducible apply len_BB); assumption)  | ((with_reducible apply len_N); assumption) | ((with_reducible apply len_V); assumption) | ((with_reducible apply len_VV); assumption)  | (with_reducible refine stop_builtin ?_) | (with_reducible refine stop_slice ?_) | (with_reducible refine stop_index_B ?_) | (with_reducible refine stop_index_BB ?_)  | (with_reducible refine stop_index_N ?_) | (with_reducible refine stop_index_V ?_) | (with_reducible refine stop_index_VV ?_)  | (with_reducible refine stop_str_B ?_) | (with_reducible refine stop_mark_B ?_) | (with_reducible refine stop_buildSlice ?_))
    refine (wvecs_any w5 g none [] _ [T] q5 hw5.wr hx5 (by rintro b ⟨h1, h2⟩; exact ⟨by omega, by omega, by simp⟩) (by simp) (by simp) (by simpa using hlen)).mono ?_
    rintro e w6 ⟨rfl, h6, a1, a2⟩
    rw [List.nil_append, show encVecs [T] = encVec T by simp [encVecs]] at a1
    have hb6 := hw5.below hb5 a2
    have hw6 := hw5.step a1 a2
    have hq6 := hq5.only a2.2 (by rintro b hb _ (e | e); exact absurd hb (by omega); cases e)
    have hR6 := hR5.only a2.2 (by rintro (e | e); omega; cases e) (by rintro b hb h (e | e); exact absurd hb (by omega); cases e)
    clear a1 a2 hb5 hw5 hq5 hR5 hx5
    go_wp2_with (first | ((with_reducible apply wpList_unguard); rfl) | (with_reducible refine stop_make ?_) | ((with_reducible apply len_B); assumption) | ((with_reducible apply len_BB); assumption)  | ((with_reducible apply len_N); assumption) | ((with_reducible apply len_V); assumption) | ((with_reducible apply len_VV); assumption)  | (with_reducible refine stop_builtin ?_) | (with_reducible refine stop_slice ?_) | (with_reducible refine stop_index_B ?_) | (with_reducible refine stop_index_BB ?_)  | (with_reducible refine stop_index_N ?_) | (with_reducible refine stop_index_V ?_) | (with_reducible refine stop_index_VV ?_)  | (with_reducible refine stop_str_B ?_) | (with_reducible refine stop_mark_B ?_) | (with_reducible refine stop_buildSlice ?_))
    refine (end_any w6 r _ _ _ hR6).mono ?_
    rintro e w7 ⟨rfl, rfl⟩
    by_cases hE : rend M E = 0
    · rw [hE]
      go_wp2_with (first | ((with_reducible apply wpList_unguard); rfl) | (with_reducible refine stop_make ?_) | ((with_reducible apply len_B); assumption) | ((with_reducible apply len_BB); assumption)  | ((with_reducible apply len_N); assumption) | ((with_reducible apply len_V); assumption) | ((with_reducible apply len_VV); assumption)  | (with_reducible refine stop_builtin ?_) | (with_reducible refine stop_slice ?_) | (with_reducible refine stop_index_B ?_) | (with_reducible refine stop_index_BB ?_)  | (with_reducible refine stop_index_N ?_) | (with_reducible refine stop_index_V ?_) | (with_reducible refine stop_index_VV ?_)  | (with_reducible refine stop_str_B ?_) | (with_reducible refine stop_mark_B ?_) | (with_reducible refine stop_buildSlice ?_))
      refine (wbytes_any w6 g h6 _ hw6.wr (by have := encInts_len T; have := enc_len10 T.length (by omega); rw [encVec, List.length_append]; unfold encInts at *; omega)).mono ?_
      rintro e w7 ⟨z, rfl, hz, hb⟩
      have hb7 := below_on hb6 hb hb6.size
      have hq7 := hq6.below hb (Nat.le_refl _)
      have hz7 := hz.sl'
      go_wp2_with (first | ((with_reducible apply wpList_unguard); rfl) | (with_reducible refine stop_make ?_) | ((with_reducible apply len_B); assumption) | ((with_reducible apply len_BB); assumption)  | ((with_reducible apply len_N); assumption) | ((with_reducible apply len_V); assumption) | ((with_reducible apply len_VV); assumption)  | (with_reducible refine stop_builtin ?_) | (with_reducible refine stop_slice ?_) | (with_reducible refine stop_index_B ?_) | (with_reducible refine stop_index_BB ?_)  | (with_reducible refine stop_index_N ?_) | (with_reducible refine stop_index_V ?_) | (with_reducible refine stop_index_VV ?_)  | (with_reducible refine stop_str_B ?_) | (with_reducible refine stop_mark_B ?_) | (with_reducible refine stop_buildSlice ?_))
      refine (same_any w7 _ _ _ _ z q hz7 hq7).mono ?_
      rintro e w8 ⟨rfl, rfl⟩
      have e1 : (encVec T == L) = true := by simpa using (Hform.out hE).symm
      rw [e1]
      go_wp2_with (first | ((with_reducible apply wpList_unguard); rfl) | (with_reducible refine stop_make ?_) | ((with_reducible apply len_B); assumption) | ((with_reducible apply len_BB); assumption)  | ((with_reducible apply len_N); assumption) | ((with_reducible apply len_V); assumption) | ((with_reducible apply len_VV); assumption)  | (with_reducible refine stop_builtin ?_) | (with_reducible refine stop_slice ?_) | (with_reducible refine stop_index_B ?_) | (with_reducible refine stop_index_BB ?_)  | (with_reducible refine stop_index_N ?_) | (with_reducible refine stop_index_V ?_) | (with_reducible refine stop_index_VV ?_)  | (with_reducible refine stop_str_B ?_) | (with_reducible refine stop_mark_B ?_) | (with_reducible refine stop_buildSlice ?_))
      go_ret
      exact ⟨rfl, hb7⟩
    · have hne : (rend M E != 0) = true := by simpa using hE
      go_wp2_with (first | ((with_reducible apply wpList_unguard); rfl) | (with_reducible refine stop_make ?_) | ((with_reducible apply len_B); assumption) | ((with_reducible apply len_BB); assumption)  | ((with_reducible apply len_N); assumption) | ((with_reducible apply len_V); assumption) | ((with_reducible apply len_VV); assumption)  | (with_reducible refine stop_builtin ?_) | (with_reducible refine stop_slice ?_) | (with_reducible refine stop_index_B ?_) | (with_reducible refine stop_index_BB ?_)  | (with_reducible refine stop_index_N ?_) | (with_reducible refine stop_index_V ?_) | (with_reducible refine stop_index_VV ?_)  | (with_reducible refine stop_str_B ?_) | (with_reducible refine stop_mark_B ?_) | (with_reducible refine stop_buildSlice ?_))
      go_ret
      exact ⟨rfl, hb6⟩
end Go.Proofs.Ytfgagfemhmcdfaa
