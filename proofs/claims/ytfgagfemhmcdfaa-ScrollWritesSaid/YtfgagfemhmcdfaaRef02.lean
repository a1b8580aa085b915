/- armillaryref02: limit, Num, Whole, Text, Vec. -/
import Derived.Test.YtfgagfemhmcdfaaScFr
import Derived.Test.YtfgagfemhmcdfaaVecs
namespace Go.Proofs.Ytfgagfemhmcdfaa
open Go Go.RowKit Go.Arm

theorem limit_any (w : World) (m : Int) (hm : m ≤ 9223372036854775807) : Calls Try.prog 38 #[.int .i64 m] w fun e w' => e = .returned (.int .u64 (m.toNat : Int)) ∧ w = w' := by
  by_cases h : m < 0
  · have e0 : (m.toNat : Int) = 0 := by omega
    rw [e0]
    go_enter Try.func38, Try.ntmps38
    go_wp2_with (first | ((with_reducible apply wpList_unguard); rfl) | (with_reducible refine stop_make ?_) | ((with_reducible apply len_B); assumption) | ((with_reducible apply len_BB); assumption)  | ((with_reducible apply len_N); assumption) | ((with_reducible apply len_V); assumption) | ((with_reducible apply len_VV); assumption)  | (with_reducible refine stop_builtin ?_) | (with_reducible refine stop_slice ?_) | (with_reducible refine stop_index_B ?_) | (with_reducible refine stop_index_BB ?_)  | (with_reducible refine stop_index_N ?_) | (with_reducible refine stop_index_V ?_) | (with_reducible refine stop_index_VV ?_)  | (with_reducible refine stop_str_B ?_) | (with_reducible refine stop_mark_B ?_) | (with_reducible refine stop_buildSlice ?_))
    go_ret
    exact ⟨rfl, rfl⟩
  · obtain ⟨k, rfl⟩ : ∃ k : Nat, m = (k : Int) := ⟨m.toNat, by omega⟩
    rw [Int.toNat_natCast]
    go_enter Try.func38, Try.ntmps38
    go_wp2_with (first | ((with_reducible apply wpList_unguard); rfl) | (with_reducible refine stop_make ?_) | ((with_reducible apply len_B); assumption) | ((with_reducible apply len_BB); assumption)  | ((with_reducible apply len_N); assumption) | ((with_reducible apply len_V); assumption) | ((with_reducible apply len_VV); assumption)  | (with_reducible refine stop_builtin ?_) | (with_reducible refine stop_slice ?_) | (with_reducible refine stop_index_B ?_) | (with_reducible refine stop_index_BB ?_)  | (with_reducible refine stop_index_N ?_) | (with_reducible refine stop_index_V ?_) | (with_reducible refine stop_index_VV ?_)  | (with_reducible refine stop_str_B ?_) | (with_reducible refine stop_mark_B ?_) | (with_reducible refine stop_buildSlice ?_))
    go_ret
    exact ⟨rfl, rfl⟩

set_option maxRecDepth 100000 in
theorem rnum02_any : ∀ (n : Nat) (w : World), n < 18446744073709551616 →
    Calls Try.prog 29 #[.int .u64 n] w fun e w' => ∃ v, e = .returned v ∧ OwnB w' w.heap.size (enc n) v ∧ Below w.heap.size w w' := by
  intro n
  induction n using Nat.strongRecOn with
  | ind n ih =>
    intro w hn
    by_cases h : n < 128
    · have he := enc_small n h
      have hc : (n : Int) = ((UInt8.ofNat n).toNat : Int) := by rw [UInt8.toNat_ofNat_of_lt' (by show n < 256; omega)]
      obtain ⟨c, hcc⟩ : ∃ c, c = UInt8.ofNat n := ⟨_, rfl⟩
      rw [← hcc] at he hc
      have Hc := Lib.hid hc
      rw [he]
      clear hc hcc ih he
      go_enter Try.func29, Try.ntmps29
      go_wp2_with (first | ((with_reducible apply wpList_unguard); rfl) | (with_reducible refine stop_make ?_) | ((with_reducible apply len_B); assumption) | ((with_reducible apply len_BB); assumption)  | ((with_reducible apply len_N); assumption) | ((with_reducible apply len_V); assumption) | ((with_reducible apply len_VV); assumption)  | (with_reducible refine stop_builtin ?_) | (with_reducible refine stop_slice ?_) | (with_reducible refine stop_index_B ?_) | (with_reducible refine stop_index_BB ?_)  | (with_reducible refine stop_index_N ?_) | (with_reducible refine stop_index_V ?_) | (with_reducible refine stop_index_VV ?_)  | (with_reducible refine stop_str_B ?_) | (with_reducible refine stop_mark_B ?_) | (with_reducible refine stop_buildSlice ?_))
      refine Stop.go (build_B ([c] : List UInt8) [.int .u8 (n : Int)] rfl rfl (by rw [Hc.out]; rfl) (by simp) fun q w1 k1 k2 k3 k4 => ?_)
      go_wp2_with (first | ((with_reducible apply wpList_unguard); rfl) | (with_reducible refine stop_make ?_) | ((with_reducible apply len_B); assumption) | ((with_reducible apply len_BB); assumption)  | ((with_reducible apply len_N); assumption) | ((with_reducible apply len_V); assumption) | ((with_reducible apply len_VV); assumption)  | (with_reducible refine stop_builtin ?_) | (with_reducible refine stop_slice ?_) | (with_reducible refine stop_index_B ?_) | (with_reducible refine stop_index_BB ?_)  | (with_reducible refine stop_index_N ?_) | (with_reducible refine stop_index_V ?_) | (with_reducible refine stop_index_VV ?_)  | (with_reducible refine stop_str_B ?_) | (with_reducible refine stop_mark_B ?_) | (with_reducible refine stop_buildSlice ?_))
      go_ret
      exact ⟨q, rfl, k1, below_of_grown k2 (Nat.le_refl _) (by simp)⟩
    · have he := enc_big n h
      have hel := enc_len10 n hn
      have hc : ((n : Int) % 128 + 128) = ((UInt8.ofNat (n % 128 + 128)).toNat : Int) := by rw [UInt8.toNat_ofNat_of_lt' (by show n % 128 + 128 < 256; omega)]; omega
      obtain ⟨c, hcc⟩ : ∃ c, c = UInt8.ofNat (n % 128 + 128) := ⟨_, rfl⟩
      rw [← hcc] at he hc
      have Hc := Lib.hid hc
      rw [he] at hel ⊢
      obtain ⟨E, hE⟩ : ∃ E, E = enc (n / 128) := ⟨_, rfl⟩
      rw [← hE] at hel ⊢
      have IH := ih (n / 128) (by omega)
      rw [← hE] at IH
      have hEl : E.length ≤ 10 := by simp at hel; omega
      clear hc hcc ih he hE hel
      go_enter Try.func29, Try.ntmps29
      go_wp2_with (first | ((with_reducible apply wpList_unguard); rfl) | (with_reducible refine stop_make ?_) | ((with_reducible apply len_B); assumption) | ((with_reducible apply len_BB); assumption)  | ((with_reducible apply len_N); assumption) | ((with_reducible apply len_V); assumption) | ((with_reducible apply len_VV); assumption)  | (with_reducible refine stop_builtin ?_) | (with_reducible refine stop_slice ?_) | (with_reducible refine stop_index_B ?_) | (with_reducible refine stop_index_BB ?_)  | (with_reducible refine stop_index_N ?_) | (with_reducible refine stop_index_V ?_) | (with_reducible refine stop_index_VV ?_)  | (with_reducible refine stop_str_B ?_) | (with_reducible refine stop_mark_B ?_) | (with_reducible refine stop_buildSlice ?_))
      refine Stop.go (build_B ([c] : List UInt8) [.int .u8 ((n : Int) % 128 + 128)] rfl rfl (by rw [Hc.out]; rfl) (by simp) fun q w1 k1 k2 k3 k4 => ?_)
      have hb1 := below_of_grown k2 (Nat.le_refl _) (by simp)
      clear k2 k4
      go_wp2_with (first | ((with_reducible apply wpList_unguard); rfl) | (with_reducible refine stop_make ?_) | ((with_reducible apply len_B); assumption) | ((with_reducible apply len_BB); assumption)  | ((with_reducible apply len_N); assumption) | ((with_reducible apply len_V); assumption) | ((with_reducible apply len_VV); assumption)  | (with_reducible refine stop_builtin ?_) | (with_reducible refine stop_slice ?_) | (with_reducible refine stop_index_B ?_) | (with_reducible refine stop_index_BB ?_)  | (with_reducible refine stop_index_N ?_) | (with_reducible refine stop_index_V ?_) | (with_reducible refine stop_index_VV ?_)  | (with_reducible refine stop_str_B ?_) | (with_reducible refine stop_mark_B ?_) | (with_reducible refine stop_buildSlice ?_))
      rw [show ((n : Int) / 128) = ((n / 128 : Nat) : Int) by omega]
      refine (IH w1 (by omega)).mono ?_
      rintro e w2 ⟨v2, rfl, hv2, hb⟩
      have hb2 : Below w.heap.size w w2 := hb1.trans (hb.mono hb1.size)
      have hq2 := Own.below k1 hb (Nat.le_refl _)
      have hs2 := hb2.size
      clear hb
      go_wp2_with (first | ((with_reducible apply wpList_unguard); rfl) | (with_reducible refine stop_make ?_) | ((with_reducible apply len_B); assumption) | ((with_reducible apply len_BB); assumption)  | ((with_reducible apply len_N); assumption) | ((with_reducible apply len_V); assumption) | ((with_reducible apply len_VV); assumption)  | (with_reducible refine stop_builtin ?_) | (with_reducible refine stop_slice ?_) | (with_reducible refine stop_index_B ?_) | (with_reducible refine stop_index_BB ?_)  | (with_reducible refine stop_index_N ?_) | (with_reducible refine stop_index_V ?_) | (with_reducible refine stop_index_VV ?_)  | (with_reducible refine stop_str_B ?_) | (with_reducible refine stop_mark_B ?_) | (with_reducible refine stop_buildSlice ?_))
      refine Stop.go (app_B (hq2 : OwnB w2 _ _ q) hv2.sl' (by simp; omega) (by omega) fun v3 w3 g1 g2 g3 => ?_)
      have hb3 := hb2.grown g2 hb2.size (fun k hk => (hq2.ge k hk).1)
      go_wp2_with (first | ((with_reducible apply wpList_unguard); rfl) | (with_reducible refine stop_make ?_) | ((with_reducible apply len_B); assumption) | ((with_reducible apply len_BB); assumption)  | ((with_reducible apply len_N); assumption) | ((with_reducible apply len_V); assumption) | ((with_reducible apply len_VV); assumption)  | (with_reducible refine stop_builtin ?_) | (with_reducible refine stop_slice ?_) | (with_reducible refine stop_index_B ?_) | (with_reducible refine stop_index_BB ?_)  | (with_reducible refine stop_index_N ?_) | (with_reducible refine stop_index_V ?_) | (with_reducible refine stop_index_VV ?_)  | (with_reducible refine stop_str_B ?_) | (with_reducible refine stop_mark_B ?_) | (with_reducible refine stop_buildSlice ?_))
      go_ret
      exact ⟨v3, rfl, by simpa using g1, hb3⟩

theorem whole02_any (w : World) (z : Int32) : Calls Try.prog 40 #[.int .i32 z.toInt] w fun e w' => ∃ v, e = .returned v ∧ OwnB w' w.heap.size (enc (zig z.toInt)) v ∧ Below w.heap.size w w' := by
  have h1 := i32_lo z
  have h2 := i32_hi z
  have hz := zig_lt z.toInt h1 h2
  obtain ⟨y, hy⟩ : ∃ y, y = z.toInt := ⟨_, rfl⟩
  rw [← hy] at h1 h2 hz ⊢
  clear hy
  obtain ⟨u, hu⟩ : ∃ u, u = zig y := ⟨_, rfl⟩
  rw [← hu] at hz ⊢
  by_cases h : y < 0
  · have hu2 : (u : Int) = -2 * y - 1 := by rw [hu, zig, if_pos h]; omega
    have Hu := Lib.hid hu2
    clear hu hu2
    go_enter Try.func40, Try.ntmps40
    go_wp2_with (first | ((with_reducible apply wpList_unguard); rfl) | (with_reducible refine stop_make ?_) | ((with_reducible apply len_B); assumption) | ((with_reducible apply len_BB); assumption)  | ((with_reducible apply len_N); assumption) | ((with_reducible apply len_V); assumption) | ((with_reducible apply len_VV); assumption)  | (with_reducible refine stop_builtin ?_) | (with_reducible refine stop_slice ?_) | (with_reducible refine stop_index_B ?_) | (with_reducible refine stop_index_BB ?_)  | (with_reducible refine stop_index_N ?_) | (with_reducible refine stop_index_V ?_) | (with_reducible refine stop_index_VV ?_)  | (with_reducible refine stop_str_B ?_) | (with_reducible refine stop_mark_B ?_) | (with_reducible refine stop_buildSlice ?_))
    rw [← Hu.out]
    refine (rnum02_any u w (by omega)).mono ?_
    rintro e w1 ⟨v, rfl, hv, hb⟩
    go_wp2_with (first | ((with_reducible apply wpList_unguard); rfl) | (with_reducible refine stop_make ?_) | ((with_reducible apply len_B); assumption) | ((with_reducible apply len_BB); assumption)  | ((with_reducible apply len_N); assumption) | ((with_reducible apply len_V); assumption) | ((with_reducible apply len_VV); assumption)  | (with_reducible refine stop_builtin ?_) | (with_reducible refine stop_slice ?_) | (with_reducible refine stop_index_B ?_) | (with_reducible refine stop_index_BB ?_)  | (with_reducible refine stop_index_N ?_) | (with_reducible refine stop_index_V ?_) | (with_reducible refine stop_index_VV ?_)  | (with_reducible refine stop_str_B ?_) | (with_reducible refine stop_mark_B ?_) | (with_reducible refine stop_buildSlice ?_))
    go_ret
    exact ⟨v, rfl, hv, hb⟩
  · have hu2 : (u : Int) = 2 * y := by rw [hu, zig, if_neg h]; omega
    have Hu := Lib.hid hu2
    clear hu hu2
    go_enter Try.func40, Try.ntmps40
    go_wp2_with (first | ((with_reducible apply wpList_unguard); rfl) | (with_reducible refine stop_make ?_) | ((with_reducible apply len_B); assumption) | ((with_reducible apply len_BB); assumption)  | ((with_reducible apply len_N); assumption) | ((with_reducible apply len_V); assumption) | ((with_reducible apply len_VV); assumption)  | (with_reducible refine stop_builtin ?_) | (with_reducible refine stop_slice ?_) | (with_reducible refine stop_index_B ?_) | (with_reducible refine stop_index_BB ?_)  | (with_reducible refine stop_index_N ?_) | (with_reducible refine stop_index_V ?_) | (with_reducible refine stop_index_VV ?_)  | (with_reducible refine stop_str_B ?_) | (with_reducible refine stop_mark_B ?_) | (with_reducible refine stop_buildSlice ?_))
    rw [← Hu.out]
    refine (rnum02_any u w (by omega)).mono ?_
    rintro e w1 ⟨v, rfl, hv, hb⟩
    go_wp2_with (first | ((with_reducible apply wpList_unguard); rfl) | (with_reducible refine stop_make ?_) | ((with_reducible apply len_B); assumption) | ((with_reducible apply len_BB); assumption)  | ((with_reducible apply len_N); assumption) | ((with_reducible apply len_V); assumption) | ((with_reducible apply len_VV); assumption)  | (with_reducible refine stop_builtin ?_) | (with_reducible refine stop_slice ?_) | (with_reducible refine stop_index_B ?_) | (with_reducible refine stop_index_BB ?_)  | (with_reducible refine stop_index_N ?_) | (with_reducible refine stop_index_V ?_) | (with_reducible refine stop_index_VV ?_)  | (with_reducible refine stop_str_B ?_) | (with_reducible refine stop_mark_B ?_) | (with_reducible refine stop_buildSlice ?_))
    go_ret
    exact ⟨v, rfl, hv, hb⟩

theorem text02_any (w : World) (S : Nat → Prop) (l : List UInt8) (p : Value) (hp : Sl w S l p) (hl : l.length ≤ 1000000) : Calls Try.prog 30 #[p] w fun e w' => ∃ v, e = .returned v ∧ OwnB w' w.heap.size (encText l) v ∧ Below w.heap.size w w' := by
  have hp0 := hp.old
  have hel := enc_len10 l.length (by omega)
  have he : encText l = enc l.length ++ l := rfl
  obtain ⟨F, hF⟩ : ∃ F, F = encText l := ⟨_, rfl⟩
  rw [← hF] at he ⊢
  have He := Lib.hid he
  clear hp he hF
  go_enter Try.func30, Try.ntmps30
  go_wp2_with (first | ((with_reducible apply wpList_unguard); rfl) | (with_reducible refine stop_make ?_) | ((with_reducible apply len_B); assumption) | ((with_reducible apply len_BB); assumption)  | ((with_reducible apply len_N); assumption) | ((with_reducible apply len_V); assumption) | ((with_reducible apply len_VV); assumption)  | (with_reducible refine stop_builtin ?_) | (with_reducible refine stop_slice ?_) | (with_reducible refine stop_index_B ?_) | (with_reducible refine stop_index_BB ?_)  | (with_reducible refine stop_index_N ?_) | (with_reducible refine stop_index_V ?_) | (with_reducible refine stop_index_VV ?_)  | (with_reducible refine stop_str_B ?_) | (with_reducible refine stop_mark_B ?_) | (with_reducible refine stop_buildSlice ?_))
  refine (rnum02_any l.length w (by omega)).mono ?_
  rintro e w1 ⟨v1, rfl, hv1, hb1⟩
  have hp1 := hp0.below hb1 (Nat.le_refl _)
  go_wp2_with (first | ((with_reducible apply wpList_unguard); rfl) | (with_reducible refine stop_make ?_) | ((with_reducible apply len_B); assumption) | ((with_reducible apply len_BB); assumption)  | ((with_reducible apply len_N); assumption) | ((with_reducible apply len_V); assumption) | ((with_reducible apply len_VV); assumption)  | (with_reducible refine stop_builtin ?_) | (with_reducible refine stop_slice ?_) | (with_reducible refine stop_index_B ?_) | (with_reducible refine stop_index_BB ?_)  | (with_reducible refine stop_index_N ?_) | (with_reducible refine stop_index_V ?_) | (with_reducible refine stop_index_VV ?_)  | (with_reducible refine stop_str_B ?_) | (with_reducible refine stop_mark_B ?_) | (with_reducible refine stop_buildSlice ?_))
  refine Stop.go (app_B (hv1 : OwnB w1 _ _ v1) hp1 (by omega) hb1.size fun v2 w2 g1 g2 g3 => ?_)
  have hb2 := hb1.grown g2 hb1.size (fun k hk => (hv1.ge k hk).1)
  go_wp2_with (first | ((with_reducible apply wpList_unguard); rfl) | (with_reducible refine stop_make ?_) | ((with_reducible apply len_B); assumption) | ((with_reducible apply len_BB); assumption)  | ((with_reducible apply len_N); assumption) | ((with_reducible apply len_V); assumption) | ((with_reducible apply len_VV); assumption)  | (with_reducible refine stop_builtin ?_) | (with_reducible refine stop_slice ?_) | (with_reducible refine stop_index_B ?_) | (with_reducible refine stop_index_BB ?_)  | (with_reducible refine stop_index_N ?_) | (with_reducible refine stop_index_V ?_) | (with_reducible refine stop_index_VV ?_)  | (with_reducible refine stop_str_B ?_) | (with_reducible refine stop_mark_B ?_) | (with_reducible refine stop_buildSlice ?_))
  go_ret
  rw [He.out]
  exact ⟨v2, rfl, g1, hb2⟩

theorem vec02_any (w : World) (S : Nat → Prop) (l : List Int32) (p : Value) (hp : Sl w S l p) (hl : l.length ≤ 1000) : Calls Try.prog 31 #[p] w fun e w' => ∃ v, e = .returned v ∧ OwnB w' w.heap.size (encVec l) v ∧ Below w.heap.size w w' := by
  have hp0 := hp.old
  have hel := enc_len10 l.length (by omega)
  have he : encVec l = enc l.length ++ encInts l := rfl
  obtain ⟨F, hF⟩ : ∃ F, F = encVec l := ⟨_, rfl⟩
  rw [← hF] at he ⊢
  have He := Lib.hid he
  clear hp he hF
  go_enter Try.func31, Try.ntmps31
  go_wp2_with (first | ((with_reducible apply wpList_unguard); rfl) | (with_reducible refine stop_make ?_) | ((with_reducible apply len_B); assumption) | ((with_reducible apply len_BB); assumption)  | ((with_reducible apply len_N); assumption) | ((with_reducible apply len_V); assumption) | ((with_reducible apply len_VV); assumption)  | (with_reducible refine stop_builtin ?_) | (with_reducible refine stop_slice ?_) | (with_reducible refine stop_index_B ?_) | (with_reducible refine stop_index_BB ?_)  | (with_reducible refine stop_index_N ?_) | (with_reducible refine stop_index_V ?_) | (with_reducible refine stop_index_VV ?_)  | (with_reducible refine stop_str_B ?_) | (with_reducible refine stop_mark_B ?_) | (with_reducible refine stop_buildSlice ?_))
  refine (rnum02_any l.length w (by omega)).mono ?_
  rintro e w1 ⟨v1, rfl, hv1, hb1⟩
  have hp1 := hp0.below hb1 (Nat.le_refl _)
  go_wp2_with (first | ((with_reducible apply wpList_unguard); rfl) | (with_reducible refine stop_make ?_) | ((with_reducible apply len_B); assumption) | ((with_reducible apply len_BB); assumption)  | ((with_reducible apply len_N); assumption) | ((with_reducible apply len_V); assumption) | ((with_reducible apply len_VV); assumption)  | (with_reducible refine stop_builtin ?_) | (with_reducible refine stop_slice ?_) | (with_reducible refine stop_index_B ?_) | (with_reducible refine stop_index_BB ?_)  | (with_reducible refine stop_index_N ?_) | (with_reducible refine stop_index_V ?_) | (with_reducible refine stop_index_VV ?_)  | (with_reducible refine stop_str_B ?_) | (with_reducible refine stop_mark_B ?_) | (with_reducible refine stop_buildSlice ?_))
  go_loopg [3, 5, 12] (l.length + 1) (fun k o x i wr => ∃ (j : Nat), k = l.length - j + 1 ∧ j ≤ l.length ∧ i = .int .i64 j ∧ OwnB wr w.heap.size (enc l.length ++ encInts (l.take j)) o ∧ Below w.heap.size w wr)
  case atStart => exact ⟨0, by omega, by omega, rfl, by simpa [encInts] using hv1, hb1⟩
  case round =>
    obtain ⟨j, hk, hj, rfl, ho, hb⟩ := hrel
    have Hk := Lib.hid hk
    clear hk hv1
    have hpr := hp0.below hb (Nat.le_refl _)
    have hlen : (encInts (l.take j)).length ≤ 10000 := by have := encInts_len (l.take j); rw [List.length_take] at this; omega
    have hs := hb.size
    by_cases hlt : j < l.length
    · go_wp2_with (first | ((with_reducible apply wpList_unguard); rfl) | (with_reducible refine stop_make ?_) | ((with_reducible apply len_B); assumption) | ((with_reducible apply len_BB); assumption)  | ((with_reducible apply len_N); assumption) | ((with_reducible apply len_V); assumption) | ((with_reducible apply len_VV); assumption)  | (with_reducible refine stop_builtin ?_) | (with_reducible refine stop_slice ?_) | (with_reducible refine stop_index_B ?_) | (with_reducible refine stop_index_BB ?_)  | (with_reducible refine stop_index_N ?_) | (with_reducible refine stop_index_V ?_) | (with_reducible refine stop_index_VV ?_)  | (with_reducible refine stop_str_B ?_) | (with_reducible refine stop_mark_B ?_) | (with_reducible refine stop_buildSlice ?_))
      refine Stop.go (idx_V hpr rfl (by omega) (by omega) fun b6 o6 y hy hcell => ?_)
      have Hy := Lib.hid hy
      clear hy
      go_wp2_with (first | ((with_reducible apply wpList_unguard); rfl) | (with_reducible refine stop_make ?_) | ((with_reducible apply len_B); assumption) | ((with_reducible apply len_BB); assumption)  | ((with_reducible apply len_N); assumption) | ((with_reducible apply len_V); assumption) | ((with_reducible apply len_VV); assumption)  | (with_reducible refine stop_builtin ?_) | (with_reducible refine stop_slice ?_) | (with_reducible refine stop_index_B ?_) | (with_reducible refine stop_index_BB ?_)  | (with_reducible refine stop_index_N ?_) | (with_reducible refine stop_index_V ?_) | (with_reducible refine stop_index_VV ?_)  | (with_reducible refine stop_str_B ?_) | (with_reducible refine stop_mark_B ?_) | (with_reducible refine stop_buildSlice ?_))
      refine (whole02_any wr y).mono ?_
      rintro e w2 ⟨v2, rfl, hv2, hb2⟩
      have hB2 : Below w.heap.size w w2 := hb.trans (hb2.mono hs)
      have ho2 := Own.below ho hb2 (Nat.le_refl _)
      have hzl := enc_len10 (zig y.toInt) (by have := zig_lt _ (i32_lo y) (i32_hi y); omega)
      go_wp2_with (first | ((with_reducible apply wpList_unguard); rfl) | (with_reducible refine stop_make ?_) | ((with_reducible apply len_B); assumption) | ((with_reducible apply len_BB); assumption)  | ((with_reducible apply len_N); assumption) | ((with_reducible apply len_V); assumption) | ((with_reducible apply len_VV); assumption)  | (with_reducible refine stop_builtin ?_) | (with_reducible refine stop_slice ?_) | (with_reducible refine stop_index_B ?_) | (with_reducible refine stop_index_BB ?_)  | (with_reducible refine stop_index_N ?_) | (with_reducible refine stop_index_V ?_) | (with_reducible refine stop_index_VV ?_)  | (with_reducible refine stop_str_B ?_) | (with_reducible refine stop_mark_B ?_) | (with_reducible refine stop_buildSlice ?_))
      refine Stop.go (app_B (ho2 : OwnB w2 _ _ _) hv2.sl' (by rw [List.length_append]; omega) hB2.size fun v3 w3 g1 g2 g3 => ?_)
      have hB3 := hB2.grown g2 hB2.size (fun k hk => (ho2.ge k hk).1)
      go_wp2_with (first | ((with_reducible apply wpList_unguard); rfl) | (with_reducible refine stop_make ?_) | ((with_reducible apply len_B); assumption) | ((with_reducible apply len_BB); assumption)  | ((with_reducible apply len_N); assumption) | ((with_reducible apply len_V); assumption) | ((with_reducible apply len_VV); assumption)  | (with_reducible refine stop_builtin ?_) | (with_reducible refine stop_slice ?_) | (with_reducible refine stop_index_B ?_) | (with_reducible refine stop_index_BB ?_)  | (with_reducible refine stop_index_N ?_) | (with_reducible refine stop_index_V ?_) | (with_reducible refine stop_index_VV ?_)  | (with_reducible refine stop_str_B ?_) | (with_reducible refine stop_mark_B ?_) | (with_reducible refine stop_buildSlice ?_))
      go_roundg (l.length - (j + 1) + 1)
      case measure => have := Hk.out; omega
      case rel =>
        have e := flatMap_snoc (fun z : Int32 => enc (zig z.toInt)) l j y (by simpa using Hy.out)
        refine ⟨j + 1, by omega, by omega, by go_num, ?_, hB3⟩
        have e2 : encInts (l.take (j + 1)) = encInts (l.take j) ++ enc (zig y.toInt) := e
        rw [e2, ← List.append_assoc]
        exact g1
    · rw [List.take_of_length_le (by omega)] at ho
      go_wp2_with (first | ((with_reducible apply wpList_unguard); rfl) | (with_reducible refine stop_make ?_) | ((with_reducible apply len_B); assumption) | ((with_reducible apply len_BB); assumption)  | ((with_reducible apply len_N); assumption) | ((with_reducible apply len_V); assumption) | ((with_reducible apply len_VV); assumption)  | (with_reducible refine stop_builtin ?_) | (with_reducible refine stop_slice ?_) | (with_reducible refine stop_index_B ?_) | (with_reducible refine stop_index_BB ?_)  | (with_reducible refine stop_index_N ?_) | (with_reducible refine stop_index_V ?_) | (with_reducible refine stop_index_VV ?_)  | (with_reducible refine stop_str_B ?_) | (with_reducible refine stop_mark_B ?_) | (with_reducible refine stop_buildSlice ?_))
      go_ret
      rw [He.out]
      exact ⟨_, rfl, ho, hb⟩
end Go.Proofs.Ytfgagfemhmcdfaa
