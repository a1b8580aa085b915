/- armillaryref02: TakeText, TakeVec. -/
import Derived.Test.YtfgagfemhmcdfaaRefTake
import Derived.Test.YtfgagfemhmcdfaaRefBase
import Derived.Deep.RegionHeld3
namespace Go.Arm
def ttext (l : List UInt8) (most : Nat) : List UInt8 × List UInt8 × Int :=
  if (taken l most).2.2 ≠ 0 then ([], [], (taken l most).2.2)
  else if (taken l most).2.1.length < (taken l most).1 then ([], [], 2)
  else ((taken l most).2.1.take (taken l most).1, (taken l most).2.1.drop (taken l most).1, 0)
def tvec (l : List UInt8) (most : Nat) : List Int32 × List UInt8 × Int :=
  if (taken l most).2.2 ≠ 0 then ([], [], (taken l most).2.2)
  else if (rvec (taken l most).1 (taken l most).2.1).2.2 ≠ 0 then ([], [], (rvec (taken l most).1 (taken l most).2.1).2.2)
  else rvec (taken l most).1 (taken l most).2.1
end Go.Arm
namespace Go.Proofs.Ytfgagfemhmcdfaa
open Go Go.RowKit Go.Arm

set_option maxRecDepth 100000 in
theorem ttext_any (w : World) (S : Nat → Prop) (l : List UInt8) (p : Value) (most : Int) (hp : Sl w S l p) (hm : most ≤ 9223372036854775807) (hl : l.length ≤ 1000000) :
    Calls Try.prog 22 #[p, .int .i64 most] w fun e w' => ∃ v u, e = .returned (.tuple #[v, u, .int .i64 (ttext l most.toNat).2.2]) ∧ OwnB w' w.heap.size (ttext l most.toNat).1 v ∧ Sl w' (fun b => S b ∧ b < w.heap.size) (ttext l most.toNat).2.1 u ∧ Below w.heap.size w w' := by
  have hp0 : Sl w (fun b => S b ∧ b < w.heap.size) l p := hp.wide fun b h1 h2 => ⟨h1, h2⟩
  obtain ⟨S', hS'⟩ : ∃ S' : Nat → Prop, S' = fun b => S b ∧ b < w.heap.size := ⟨_, rfl⟩
  rw [← hS'] at hp0 ⊢
  have hSl : ∀ b, S' b → b < w.heap.size := by rw [hS']; exact fun b h => h.2
  clear hS' hp
  have hlim := limit_any w most hm
  obtain ⟨M, hM⟩ : ∃ M, M = most.toNat := ⟨_, rfl⟩
  have hMl : M < 18446744073709551616 := by omega
  rw [← hM] at hlim ⊢
  clear hM
  obtain ⟨R, hR⟩ : ∃ R, R = ttext l M := ⟨_, rfl⟩
  rw [← hR]
  unfold ttext at hR
  have hTl := taken_len l M
  have hTn := taken_num l M hMl
  obtain ⟨T, hT⟩ : ∃ T, T = taken l M := ⟨_, rfl⟩
  rw [← hT] at hR hTl hTn
  have HR := Lib.hid hR
  have HT := Lib.hid hT
  clear hR hT
  go_enter Try.func22, Try.ntmps22
  go_wp2_with (first | ((with_reducible apply wpList_unguard); rfl) | (with_reducible refine stop_make ?_) | ((with_reducible apply len_B); assumption) | ((with_reducible apply len_BB); assumption)  | ((with_reducible apply len_N); assumption) | ((with_reducible apply len_V); assumption) | ((with_reducible apply len_VV); assumption)  | (with_reducible refine stop_builtin ?_) | (with_reducible refine stop_slice ?_) | (with_reducible refine stop_index_B ?_) | (with_reducible refine stop_index_BB ?_)  | (with_reducible refine stop_index_N ?_) | (with_reducible refine stop_index_V ?_) | (with_reducible refine stop_index_VV ?_)  | (with_reducible refine stop_str_B ?_) | (with_reducible refine stop_mark_B ?_) | (with_reducible refine stop_buildSlice ?_))
  refine hlim.mono ?_
  rintro e w1 ⟨rfl, rfl⟩
  go_wp2_with (first | ((with_reducible apply wpList_unguard); rfl) | (with_reducible refine stop_make ?_) | ((with_reducible apply len_B); assumption) | ((with_reducible apply len_BB); assumption)  | ((with_reducible apply len_N); assumption) | ((with_reducible apply len_V); assumption) | ((with_reducible apply len_VV); assumption)  | (with_reducible refine stop_builtin ?_) | (with_reducible refine stop_slice ?_) | (with_reducible refine stop_index_B ?_) | (with_reducible refine stop_index_BB ?_)  | (with_reducible refine stop_index_N ?_) | (with_reducible refine stop_index_V ?_) | (with_reducible refine stop_index_VV ?_)  | (with_reducible refine stop_str_B ?_) | (with_reducible refine stop_mark_B ?_) | (with_reducible refine stop_buildSlice ?_))
  refine (take02_any w S' l p M hp0).mono ?_
  rw [← HT.out]
  rintro e w1 ⟨u, rfl, hu, nq, hw1⟩
  have hu1 : Sl w1 S' T.2.1 u := by rw [hw1]; exact hu.drewN nq
  have hb1 : Below w.heap.size w w1 := by rw [hw1]; exact below_draws _ _ _
  have hs1 : w1.heap.size = w.heap.size := by rw [hw1]; rfl
  clear hw1 hu
  by_cases hE : T.2.2 = 0
  · have hEb : (T.2.2 != 0) = false := by simp [hE]
    by_cases hlt : T.2.1.length < T.1
    · go_wp2_with (first | ((with_reducible apply wpList_unguard); rfl) | (with_reducible refine stop_make ?_) | ((with_reducible apply len_B); assumption) | ((with_reducible apply len_BB); assumption)  | ((with_reducible apply len_N); assumption) | ((with_reducible apply len_V); assumption) | ((with_reducible apply len_VV); assumption)  | (with_reducible refine stop_builtin ?_) | (with_reducible refine stop_slice ?_) | (with_reducible refine stop_index_B ?_) | (with_reducible refine stop_index_BB ?_)  | (with_reducible refine stop_index_N ?_) | (with_reducible refine stop_index_V ?_) | (with_reducible refine stop_index_VV ?_)  | (with_reducible refine stop_str_B ?_) | (with_reducible refine stop_mark_B ?_) | (with_reducible refine stop_buildSlice ?_))
      go_ret3
      have e := HR.out
      rw [if_neg (by simpa using hE), if_pos hlt] at e
      rw [e]
      exact ⟨_, _, rfl, Own.nil _ _ _ _, Sl.nil _ _, hb1⟩
    · obtain ⟨x1, hx1, hs1'⟩ := hu1.slice_run_h (P := Try.prog) rowB .u64 (T.1 : Int) (by omega) (by omega)
      obtain ⟨x2, hx2, hs2'⟩ := hu1.slice_run_l (P := Try.prog) rowB .u64 (T.1 : Int) (by omega) (by omega)
      rw [Int.toNat_natCast] at hs1' hs2'
      go_wp2_with (first | ((with_reducible apply wpList_unguard); rfl) | (with_reducible refine stop_make ?_) | ((with_reducible apply len_B); assumption) | ((with_reducible apply len_BB); assumption)  | ((with_reducible apply len_N); assumption) | ((with_reducible apply len_V); assumption) | ((with_reducible apply len_VV); assumption)  | (with_reducible refine stop_builtin ?_) | (with_reducible refine stop_slice ?_) | (with_reducible refine stop_index_B ?_) | (with_reducible refine stop_index_BB ?_)  | (with_reducible refine stop_index_N ?_) | (with_reducible refine stop_index_V ?_) | (with_reducible refine stop_index_VV ?_)  | (with_reducible refine stop_str_B ?_) | (with_reducible refine stop_mark_B ?_) | (with_reducible refine stop_buildSlice ?_))
      go_region_held3 (fun _ => True) (trivial)
        (first | (go_at_call 16; refine (copy_any w1.drew _ _ x1 hs1'.drew (by rw [List.length_take]; omega)).mono ?_; rintro e w3 ⟨t3, rfl, ht3, hb3⟩))
      have hsd : w1.drew.heap.size = w.heap.size := hs1
      have hb3' : Below w.heap.size w w3 := (hb1.drew).trans (by rw [← hsd]; exact hb3)
      rw [hsd] at ht3
      have hu3 := hs2'.drew.below hb3 (by omega)
      go_wp2_with (first | ((with_reducible apply wpList_unguard); rfl) | (with_reducible refine stop_make ?_) | ((with_reducible apply len_B); assumption) | ((with_reducible apply len_BB); assumption)  | ((with_reducible apply len_N); assumption) | ((with_reducible apply len_V); assumption) | ((with_reducible apply len_VV); assumption)  | (with_reducible refine stop_builtin ?_) | (with_reducible refine stop_slice ?_) | (with_reducible refine stop_index_B ?_) | (with_reducible refine stop_index_BB ?_)  | (with_reducible refine stop_index_N ?_) | (with_reducible refine stop_index_V ?_) | (with_reducible refine stop_index_VV ?_)  | (with_reducible refine stop_str_B ?_) | (with_reducible refine stop_mark_B ?_) | (with_reducible refine stop_buildSlice ?_))
      go_ret3
      have e := HR.out
      rw [if_neg (by simpa using hE), if_neg hlt] at e
      rw [e]
      exact ⟨_, _, rfl, ht3, hu3, hb3'⟩
  · have hEb : (T.2.2 != 0) = true := by simpa using hE
    go_wp2_with (first | ((with_reducible apply wpList_unguard); rfl) | (with_reducible refine stop_make ?_) | ((with_reducible apply len_B); assumption) | ((with_reducible apply len_BB); assumption)  | ((with_reducible apply len_N); assumption) | ((with_reducible apply len_V); assumption) | ((with_reducible apply len_VV); assumption)  | (with_reducible refine stop_builtin ?_) | (with_reducible refine stop_slice ?_) | (with_reducible refine stop_index_B ?_) | (with_reducible refine stop_index_BB ?_)  | (with_reducible refine stop_index_N ?_) | (with_reducible refine stop_index_V ?_) | (with_reducible refine stop_index_VV ?_)  | (with_reducible refine stop_str_B ?_) | (with_reducible refine stop_mark_B ?_) | (with_reducible refine stop_buildSlice ?_))
    go_ret3
    have e := HR.out
    rw [if_pos hE] at e
    rw [e]
    exact ⟨_, _, rfl, Own.nil _ _ _ _, Sl.nil _ _, hb1⟩

set_option maxHeartbeats 4000000 in
set_option maxRecDepth 100000 in
theorem tvec_any (w : World) (S : Nat → Prop) (l : List UInt8) (p : Value) (most : Int) (hp : Sl w S l p) (hm : most ≤ 9223372036854775807) (hl : l.length ≤ 1000000) :
    Calls Try.prog 24 #[p, .int .i64 most] w fun e w' => ∃ v u, e = .returned (.tuple #[v, u, .int .i64 (tvec l most.toNat).2.2]) ∧ Own w' w.heap.size 21 (fun _ => False) (tvec l most.toNat).1 v ∧ Sl w' (fun b => S b ∧ b < w.heap.size) (tvec l most.toNat).2.1 u ∧ Below w.heap.size w w' := by
  have hp0 : Sl w (fun b => S b ∧ b < w.heap.size) l p := hp.wide fun b h1 h2 => ⟨h1, h2⟩
  obtain ⟨S', hS'⟩ : ∃ S' : Nat → Prop, S' = fun b => S b ∧ b < w.heap.size := ⟨_, rfl⟩
  rw [← hS'] at hp0 ⊢
  have hSl : ∀ b, S' b → b < w.heap.size := by rw [hS']; exact fun b h => h.2
  clear hS' hp
  have hlim := limit_any w most hm
  obtain ⟨M, hM⟩ : ∃ M, M = most.toNat := ⟨_, rfl⟩
  have hMl : M < 18446744073709551616 := by omega
  rw [← hM] at hlim ⊢
  clear hM
  obtain ⟨R, hR⟩ : ∃ R, R = tvec l M := ⟨_, rfl⟩
  rw [← hR]
  unfold tvec at hR
  have hTl := taken_len l M
  have hTn := taken_num l M hMl
  obtain ⟨T, hT⟩ : ∃ T, T = taken l M := ⟨_, rfl⟩
  rw [← hT] at hR hTl hTn
  have HR := Lib.hid hR
  have HT := Lib.hid hT
  clear hR hT
  go_enter Try.func24, Try.ntmps24
  go_wp2_with (first | ((with_reducible apply wpList_unguard); rfl) | (with_reducible refine stop_make ?_) | ((with_reducible apply len_B); assumption) | ((with_reducible apply len_BB); assumption)  | ((with_reducible apply len_N); assumption) | ((with_reducible apply len_V); assumption) | ((with_reducible apply len_VV); assumption)  | (with_reducible refine stop_builtin ?_) | (with_reducible refine stop_slice ?_) | (with_reducible refine stop_index_B ?_) | (with_reducible refine stop_index_BB ?_)  | (with_reducible refine stop_index_N ?_) | (with_reducible refine stop_index_V ?_) | (with_reducible refine stop_index_VV ?_)  | (with_reducible refine stop_str_B ?_) | (with_reducible refine stop_mark_B ?_) | (with_reducible refine stop_buildSlice ?_))
  refine hlim.mono ?_
  rintro e w1 ⟨rfl, rfl⟩
  go_wp2_with (first | ((with_reducible apply wpList_unguard); rfl) | (with_reducible refine stop_make ?_) | ((with_reducible apply len_B); assumption) | ((with_reducible apply len_BB); assumption)  | ((with_reducible apply len_N); assumption) | ((with_reducible apply len_V); assumption) | ((with_reducible apply len_VV); assumption)  | (with_reducible refine stop_builtin ?_) | (with_reducible refine stop_slice ?_) | (with_reducible refine stop_index_B ?_) | (with_reducible refine stop_index_BB ?_)  | (with_reducible refine stop_index_N ?_) | (with_reducible refine stop_index_V ?_) | (with_reducible refine stop_index_VV ?_)  | (with_reducible refine stop_str_B ?_) | (with_reducible refine stop_mark_B ?_) | (with_reducible refine stop_buildSlice ?_))
  refine (take02_any w S' l p M hp0).mono ?_
  rw [← HT.out]
  rintro e w1 ⟨u, rfl, hu, nq, hw1⟩
  have hu1 : Sl w1 S' T.2.1 u := by rw [hw1]; exact hu.drewN nq
  have hb1 : Below w.heap.size w w1 := by rw [hw1]; exact below_draws _ _ _
  have hs1 : w1.heap.size = w.heap.size := by rw [hw1]; rfl
  clear hw1 hu
  by_cases hE : T.2.2 = 0
  · have hEb : (T.2.2 != 0) = false := by simp [hE]
    obtain ⟨RV, hRV⟩ : ∃ RV, RV = rvec T.1 T.2.1 := ⟨_, rfl⟩
    have hR := HR.out
    rw [if_neg (by simpa using hE), ← hRV] at hR
    have HR := Lib.hid hR
    have HRV := Lib.hid hRV
    clear hR hRV
    go_wp2_with (first | ((with_reducible apply wpList_unguard); rfl) | (with_reducible refine stop_make ?_) | ((with_reducible apply len_B); assumption) | ((with_reducible apply len_BB); assumption)  | ((with_reducible apply len_N); assumption) | ((with_reducible apply len_V); assumption) | ((with_reducible apply len_VV); assumption)  | (with_reducible refine stop_builtin ?_) | (with_reducible refine stop_slice ?_) | (with_reducible refine stop_index_B ?_) | (with_reducible refine stop_index_BB ?_)  | (with_reducible refine stop_index_N ?_) | (with_reducible refine stop_index_V ?_) | (with_reducible refine stop_index_VV ?_)  | (with_reducible refine stop_str_B ?_) | (with_reducible refine stop_mark_B ?_) | (with_reducible refine stop_buildSlice ?_))
    go_loopg [8, 10, 11, 12, 13, 14, 27] (T.1 + 1) (fun k r o x1 x2 x3 x4 i wr => ∃ (j : Nat) (L : List UInt8) (D : List Int32), k = T.1 - j + 1 ∧ j ≤ T.1 ∧ Sl wr S' L r ∧ i = .int .u64 j ∧ Own wr w.heap.size 21 (fun _ => False) D o ∧ Below w.heap.size w wr
      ∧ D.length + L.length ≤ l.length ∧ RV = (D ++ (rvec (T.1 - j) L).1, (rvec (T.1 - j) L).2))
    case atStart => exact ⟨0, T.2.1, [], rfl, by omega, hu1, rfl, Own.nil _ _ _ _, hb1, by simpa using hTl, by rw [HRV.out]; simp⟩
    case round =>
      obtain ⟨j, L, D, hk, hj, hL, rfl, ho, hb, hlen, hst⟩ := hrel
      have Hst := Lib.hid hst
      have Hk := Lib.hid hk
      clear hst hk
      by_cases hlt : j < T.1
      · go_wp2_with (first | ((with_reducible apply wpList_unguard); rfl) | (with_reducible refine stop_make ?_) | ((with_reducible apply len_B); assumption) | ((with_reducible apply len_BB); assumption)  | ((with_reducible apply len_N); assumption) | ((with_reducible apply len_V); assumption) | ((with_reducible apply len_VV); assumption)  | (with_reducible refine stop_builtin ?_) | (with_reducible refine stop_slice ?_) | (with_reducible refine stop_index_B ?_) | (with_reducible refine stop_index_BB ?_)  | (with_reducible refine stop_index_N ?_) | (with_reducible refine stop_index_V ?_) | (with_reducible refine stop_index_VV ?_)  | (with_reducible refine stop_str_B ?_) | (with_reducible refine stop_mark_B ?_) | (with_reducible refine stop_buildSlice ?_))
        refine (take02_any wr _ L _ 18446744073709551615 hL).mono ?_
        obtain ⟨U, hU⟩ : ∃ U, U = taken L 18446744073709551615 := ⟨_, rfl⟩
        rw [← hU]
        rintro e w2 ⟨u2, rfl, hu2, nq2, hw2⟩
        have hul : U.1 < 18446744073709551616 := by rw [hU]; exact taken_num _ _ (by decide)
        have hlt2 : U.2.2 = 0 → U.2.1.length < L.length := by rw [hU]; exact taken_lt L _
        have hrv : rvec (T.1 - j) L = if U.2.2 ≠ 0 then ([], [], U.2.2) else if 4294967295 < U.1 then ([], [], 4) else (Int32.ofInt (unzig U.1) :: (rvec (T.1 - (j + 1)) U.2.1).1, (rvec (T.1 - (j + 1)) U.2.1).2) := by
          rw [show T.1 - j = T.1 - (j + 1) + 1 by omega, rvec, ← hU]
        have hu2' : Sl w2 S' U.2.1 u2 := by rw [hw2]; exact hu2.drewN nq2
        have hb2 : Below w.heap.size w w2 := by rw [hw2]; exact hb.trans (below_draws _ _ _)
        have ho2 : Own w2 w.heap.size 21 (fun _ => False) D u10 := by rw [hw2]; exact Own.drewN ho nq2
        have Hrv := Lib.hid hrv
        clear hrv hU hu2 hw2 hL ho hb
        by_cases hE2 : U.2.2 = 0
        · have hEb2 : (U.2.2 != 0) = false := by simp [hE2]
          by_cases hbig : 4294967295 < U.1
          · have hbig' : (4294967295 : Int) < (U.1 : Int) := by omega
            go_wp2_with (first | ((with_reducible apply wpList_unguard); rfl) | (with_reducible refine stop_make ?_) | ((with_reducible apply len_B); assumption) | ((with_reducible apply len_BB); assumption)  | ((with_reducible apply len_N); assumption) | ((with_reducible apply len_V); assumption) | ((with_reducible apply len_VV); assumption)  | (with_reducible refine stop_builtin ?_) | (with_reducible refine stop_slice ?_) | (with_reducible refine stop_index_B ?_) | (with_reducible refine stop_index_BB ?_)  | (with_reducible refine stop_index_N ?_) | (with_reducible refine stop_index_V ?_) | (with_reducible refine stop_index_VV ?_)  | (with_reducible refine stop_str_B ?_) | (with_reducible refine stop_mark_B ?_) | (with_reducible refine stop_buildSlice ?_))
            go_ret3
            have e1 := Hst.out
            rw [Hrv.out, if_neg (by simpa using hE2), if_pos hbig] at e1
            have e := HR.out
            rw [e1, if_pos (by simp)] at e
            rw [e]
            exact ⟨_, _, rfl, Own.nil _ _ _ _, Sl.nil _ _, hb2⟩
          · have hbig' : ¬ (4294967295 : Int) < (U.1 : Int) := by omega
            have hub := unzig_lt U.1 (by omega)
            obtain ⟨c, hc⟩ : ∃ c, c = Int32.ofInt (unzig U.1) := ⟨_, rfl⟩
            have hct : c.toInt = unzig U.1 := by rw [hc]; exact Int32.toInt_ofInt_of_le hub.1 hub.2
            by_cases hodd : U.1 % 2 = 1
            · have hcz : c.toInt = -((U.1 : Int) / 2) - 1 := by rw [hct, unzig, if_neg (by omega)]; omega
              have hob : ((U.1 : Int) % 2 == 1) = true := by simp; omega
              have HC := Lib.hid hc
              have HCZ := Lib.hid hcz
              clear hc hct hcz
              go_wp2_with (first | ((with_reducible apply wpList_unguard); rfl) | (with_reducible refine stop_make ?_) | ((with_reducible apply len_B); assumption) | ((with_reducible apply len_BB); assumption)  | ((with_reducible apply len_N); assumption) | ((with_reducible apply len_V); assumption) | ((with_reducible apply len_VV); assumption)  | (with_reducible refine stop_builtin ?_) | (with_reducible refine stop_slice ?_) | (with_reducible refine stop_index_B ?_) | (with_reducible refine stop_index_BB ?_)  | (with_reducible refine stop_index_N ?_) | (with_reducible refine stop_index_V ?_) | (with_reducible refine stop_index_VV ?_)  | (with_reducible refine stop_str_B ?_) | (with_reducible refine stop_mark_B ?_) | (with_reducible refine stop_buildSlice ?_))
              rw [← HCZ.out]
              refine Stop.go (build_V (S := fun _ => False) ([c] : List Int32) [_] rfl rfl rds_V (by simp) fun q w3 k1 k2 k3 k4 => ?_)
              have ho3 := ho2.grown0 k2
              have hb3 := hb2.grown k2 hb2.size (by simp)
              have hu3 := hu2'.grown0 k2
              clear k2 k3 k4
              go_wp2_with (first | ((with_reducible apply wpList_unguard); rfl) | (with_reducible refine stop_make ?_) | ((with_reducible apply len_B); assumption) | ((with_reducible apply len_BB); assumption)  | ((with_reducible apply len_N); assumption) | ((with_reducible apply len_V); assumption) | ((with_reducible apply len_VV); assumption)  | (with_reducible refine stop_builtin ?_) | (with_reducible refine stop_slice ?_) | (with_reducible refine stop_index_B ?_) | (with_reducible refine stop_index_BB ?_)  | (with_reducible refine stop_index_N ?_) | (with_reducible refine stop_index_V ?_) | (with_reducible refine stop_index_VV ?_)  | (with_reducible refine stop_str_B ?_) | (with_reducible refine stop_mark_B ?_) | (with_reducible refine stop_buildSlice ?_))
              refine Stop.go (app_V (ho3 : Own w3 _ _ _ _ u10) k1.sl' (by simp; omega) hb3.size fun v4 w4 g1 g2 g3 => ?_)
              have hb4 := hb3.grown g2 hb3.size (fun k hk => (ho3.ge k hk).1)
              have hu4 := hu3.grown g2 (fun b hb e => by have e : u10.ownBlock = some b := e; have := (ho3.ge b e).1; have := hSl b hb; omega)
              clear g2 g3
              go_wp2_with (first | ((with_reducible apply wpList_unguard); rfl) | (with_reducible refine stop_make ?_) | ((with_reducible apply len_B); assumption) | ((with_reducible apply len_BB); assumption)  | ((with_reducible apply len_N); assumption) | ((with_reducible apply len_V); assumption) | ((with_reducible apply len_VV); assumption)  | (with_reducible refine stop_builtin ?_) | (with_reducible refine stop_slice ?_) | (with_reducible refine stop_index_B ?_) | (with_reducible refine stop_index_BB ?_)  | (with_reducible refine stop_index_N ?_) | (with_reducible refine stop_index_V ?_) | (with_reducible refine stop_index_VV ?_)  | (with_reducible refine stop_str_B ?_) | (with_reducible refine stop_mark_B ?_) | (with_reducible refine stop_buildSlice ?_))
              go_roundg (T.1 - (j + 1) + 1)
              case measure => have := Hk.out; omega
              case rel =>
                have e1 := Hst.out
                rw [Hrv.out, if_neg (by simpa using hE2), if_neg hbig, ← HC.out] at e1
                exact ⟨j + 1, U.2.1, D ++ [c], rfl, by omega, hu4, by go_num, g1, hb4, by have := hlt2 hE2; simp; omega, by rw [e1]; simp⟩
            · have hcz : c.toInt = (U.1 : Int) / 2 := by rw [hct, unzig, if_pos (by omega)]; omega
              have hob : ((U.1 : Int) % 2 == 1) = false := by simp; omega
              have HC := Lib.hid hc
              have HCZ := Lib.hid hcz
              clear hc hct hcz
              go_wp2_with (first | ((with_reducible apply wpList_unguard); rfl) | (with_reducible refine stop_make ?_) | ((with_reducible apply len_B); assumption) | ((with_reducible apply len_BB); assumption)  | ((with_reducible apply len_N); assumption) | ((with_reducible apply len_V); assumption) | ((with_reducible apply len_VV); assumption)  | (with_reducible refine stop_builtin ?_) | (with_reducible refine stop_slice ?_) | (with_reducible refine stop_index_B ?_) | (with_reducible refine stop_index_BB ?_)  | (with_reducible refine stop_index_N ?_) | (with_reducible refine stop_index_V ?_) | (with_reducible refine stop_index_VV ?_)  | (with_reducible refine stop_str_B ?_) | (with_reducible refine stop_mark_B ?_) | (with_reducible refine stop_buildSlice ?_))
              rw [← HCZ.out]
              refine Stop.go (build_V (S := fun _ => False) ([c] : List Int32) [_] rfl rfl rds_V (by simp) fun q w3 k1 k2 k3 k4 => ?_)
              have ho3 := ho2.grown0 k2
              have hb3 := hb2.grown k2 hb2.size (by simp)
              have hu3 := hu2'.grown0 k2
              clear k2 k3 k4
              go_wp2_with (first | ((with_reducible apply wpList_unguard); rfl) | (with_reducible refine stop_make ?_) | ((with_reducible apply len_B); assumption) | ((with_reducible apply len_BB); assumption)  | ((with_reducible apply len_N); assumption) | ((with_reducible apply len_V); assumption) | ((with_reducible apply len_VV); assumption)  | (with_reducible refine stop_builtin ?_) | (with_reducible refine stop_slice ?_) | (with_reducible refine stop_index_B ?_) | (with_reducible refine stop_index_BB ?_)  | (with_reducible refine stop_index_N ?_) | (with_reducible refine stop_index_V ?_) | (with_reducible refine stop_index_VV ?_)  | (with_reducible refine stop_str_B ?_) | (with_reducible refine stop_mark_B ?_) | (with_reducible refine stop_buildSlice ?_))
              refine Stop.go (app_V (ho3 : Own w3 _ _ _ _ u10) k1.sl' (by simp; omega) hb3.size fun v4 w4 g1 g2 g3 => ?_)
              have hb4 := hb3.grown g2 hb3.size (fun k hk => (ho3.ge k hk).1)
              have hu4 := hu3.grown g2 (fun b hb e => by have e : u10.ownBlock = some b := e; have := (ho3.ge b e).1; have := hSl b hb; omega)
              clear g2 g3
              go_wp2_with (first | ((with_reducible apply wpList_unguard); rfl) | (with_reducible refine stop_make ?_) | ((with_reducible apply len_B); assumption) | ((with_reducible apply len_BB); assumption)  | ((with_reducible apply len_N); assumption) | ((with_reducible apply len_V); assumption) | ((with_reducible apply len_VV); assumption)  | (with_reducible refine stop_builtin ?_) | (with_reducible refine stop_slice ?_) | (with_reducible refine stop_index_B ?_) | (with_reducible refine stop_index_BB ?_)  | (with_reducible refine stop_index_N ?_) | (with_reducible refine stop_index_V ?_) | (with_reducible refine stop_index_VV ?_)  | (with_reducible refine stop_str_B ?_) | (with_reducible refine stop_mark_B ?_) | (with_reducible refine stop_buildSlice ?_))
              go_roundg (T.1 - (j + 1) + 1)
              case measure => have := Hk.out; omega
              case rel =>
                have e1 := Hst.out
                rw [Hrv.out, if_neg (by simpa using hE2), if_neg hbig, ← HC.out] at e1
                exact ⟨j + 1, U.2.1, D ++ [c], rfl, by omega, hu4, by go_num, g1, hb4, by have := hlt2 hE2; simp; omega, by rw [e1]; simp⟩
        · have hEb2 : (U.2.2 != 0) = true := by simpa using hE2
          go_wp2_with (first | ((with_reducible apply wpList_unguard); rfl) | (with_reducible refine stop_make ?_) | ((with_reducible apply len_B); assumption) | ((with_reducible apply len_BB); assumption)  | ((with_reducible apply len_N); assumption) | ((with_reducible apply len_V); assumption) | ((with_reducible apply len_VV); assumption)  | (with_reducible refine stop_builtin ?_) | (with_reducible refine stop_slice ?_) | (with_reducible refine stop_index_B ?_) | (with_reducible refine stop_index_BB ?_)  | (with_reducible refine stop_index_N ?_) | (with_reducible refine stop_index_V ?_) | (with_reducible refine stop_index_VV ?_)  | (with_reducible refine stop_str_B ?_) | (with_reducible refine stop_mark_B ?_) | (with_reducible refine stop_buildSlice ?_))
          go_ret3
          have e1 := Hst.out
          rw [Hrv.out, if_pos hE2] at e1
          have e := HR.out
          rw [e1, if_pos hE2] at e
          rw [e]
          exact ⟨_, _, rfl, Own.nil _ _ _ _, Sl.nil _ _, hb2⟩
      · obtain rfl : j = T.1 := by omega
        go_wp2_with (first | ((with_reducible apply wpList_unguard); rfl) | (with_reducible refine stop_make ?_) | ((with_reducible apply len_B); assumption) | ((with_reducible apply len_BB); assumption)  | ((with_reducible apply len_N); assumption) | ((with_reducible apply len_V); assumption) | ((with_reducible apply len_VV); assumption)  | (with_reducible refine stop_builtin ?_) | (with_reducible refine stop_slice ?_) | (with_reducible refine stop_index_B ?_) | (with_reducible refine stop_index_BB ?_)  | (with_reducible refine stop_index_N ?_) | (with_reducible refine stop_index_V ?_) | (with_reducible refine stop_index_VV ?_)  | (with_reducible refine stop_str_B ?_) | (with_reducible refine stop_mark_B ?_) | (with_reducible refine stop_buildSlice ?_))
        go_ret3
        have e1 := Hst.out
        rw [Nat.sub_self, rvec] at e1
        have e := HR.out
        rw [e1, if_neg (by simp)] at e
        rw [e]
        exact ⟨_, _, rfl, by simpa using ho, hL, hb⟩
  · have hEb : (T.2.2 != 0) = true := by simpa using hE
    go_wp2_with (first | ((with_reducible apply wpList_unguard); rfl) | (with_reducible refine stop_make ?_) | ((with_reducible apply len_B); assumption) | ((with_reducible apply len_BB); assumption)  | ((with_reducible apply len_N); assumption) | ((with_reducible apply len_V); assumption) | ((with_reducible apply len_VV); assumption)  | (with_reducible refine stop_builtin ?_) | (with_reducible refine stop_slice ?_) | (with_reducible refine stop_index_B ?_) | (with_reducible refine stop_index_BB ?_)  | (with_reducible refine stop_index_N ?_) | (with_reducible refine stop_index_V ?_) | (with_reducible refine stop_index_VV ?_)  | (with_reducible refine stop_str_B ?_) | (with_reducible refine stop_mark_B ?_) | (with_reducible refine stop_buildSlice ?_))
    go_ret3
    have e := HR.out
    rw [if_pos hE] at e
    rw [e]
    exact ⟨_, _, rfl, Own.nil _ _ _ _, Sl.nil _ _, hb1⟩
end Go.Proofs.Ytfgagfemhmcdfaa
