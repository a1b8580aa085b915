/- SealLong: the walk. -/
import Derived.Test.YtiaiagkfkckkpaaDoorLaw01a
import Derived.Test.YtiaiagkfkckkpaaDoorSealMath
import Derived.Test.YtiaiagkfkckkpaaDoorMake
namespace Go.Proofs.YtiaiagkfkckkpaaDoor
open Go Go.RowKit Go.Arm

theorem next_long (m : Nat) (h1 : 4097 ≤ m) (h2 : m ≤ 4099) : next (([0, 0, 0, 0, UInt8.ofNat (m - 4096), 16] : List UInt8) ++ List.replicate m 0) = ([], [], 3) := by
  have e : (([0, 0, 0, 0, UInt8.ofNat (m - 4096), 16] : List UInt8) ++ List.replicate m 0).take 6 = [0, 0, 0, 0, UInt8.ofNat (m - 4096), 16] := List.take_left' rfl
  rw [next, if_neg (by simp), if_pos]
  rw [e]
  obtain rfl | rfl | rfl : m = 4097 ∨ m = 4098 ∨ m = 4099 := by omega
  all_goals decide

theorem sealLong_true (w : World) {n : Nat} (hN : Nib w) (hn : n < 256) :
    Calls Tryd.prog 7 #[.int .u8 n] w fun e w' => e = .returned (.bool true) ∧ Below w.heap.size w w' := by
  obtain ⟨r, hr⟩ : ∃ r, r = n % 7 := ⟨_, rfl⟩
  have hr7 : r < 7 := by omega
  have hr' : (n : Int) % 7 = (r : Int) := by omega
  have Hr := Lib.hid hr
  clear hr
  go_enter Tryd.func7, Tryd.ntmps7
  go_wp2_with (first | ((with_reducible apply wpList_unguard); rfl) | (with_reducible refine stop_make ?_) | ((with_reducible apply len_B); assumption) | ((with_reducible apply len_BB); assumption)  | (with_reducible refine stop_builtin ?_) | (with_reducible refine stop_slice ?_) | (with_reducible refine stop_index_B ?_) | (with_reducible refine stop_index_BB ?_)  | (with_reducible refine stop_str_B ?_) | (with_reducible refine stop_mark_B ?_) | (with_reducible refine stop_buildSlice ?_))
  refine (awake_any w hN).mono ?_
  rintro e w1 ⟨rfl, hb1⟩
  have hN1 := hN.below hb1 (Nat.le_refl _)
  have hs1 := hb1.size
  go_wp2_with (first | ((with_reducible apply wpList_unguard); rfl) | (with_reducible refine stop_make ?_) | ((with_reducible apply len_B); assumption) | ((with_reducible apply len_BB); assumption)  | (with_reducible refine stop_builtin ?_) | (with_reducible refine stop_slice ?_) | (with_reducible refine stop_index_B ?_) | (with_reducible refine stop_index_BB ?_)  | (with_reducible refine stop_str_B ?_) | (with_reducible refine stop_mark_B ?_) | (with_reducible refine stop_buildSlice ?_))
  obtain ⟨m, hm, hm1, hm2⟩ : ∃ m : Nat, (4093 + (r : Int)) = m ∧ 4093 ≤ m ∧ m ≤ 4099 := ⟨4093 + r, by omega, by omega, by omega⟩
  rw [hm]
  clear hm hr' Hr hr7
  refine Stop.go (make_B rfl rfl (by omega) fun v w2 p1 p2 => ?_)
  have hN2 := hN1.grown p2 (by simp)
  have hb2 := hb1.grown0 p2 hs1
  have hs2 := hb2.size
  obtain ⟨z, hz⟩ : ∃ z, z = List.replicate m (0 : UInt8) := ⟨_, rfl⟩
  have hzl : z.length = m := by rw [hz]; simp
  rw [← hz] at p1
  have Hz := Lib.hid hz
  clear hz
  go_wp2_with (first | ((with_reducible apply wpList_unguard); rfl) | (with_reducible refine stop_make ?_) | ((with_reducible apply len_B); assumption) | ((with_reducible apply len_BB); assumption)  | (with_reducible refine stop_builtin ?_) | (with_reducible refine stop_slice ?_) | (with_reducible refine stop_index_B ?_) | (with_reducible refine stop_index_BB ?_)  | (with_reducible refine stop_str_B ?_) | (with_reducible refine stop_mark_B ?_) | (with_reducible refine stop_buildSlice ?_))
  refine Stop.go (build_BB (S := fun b => w1.heap.size ≤ b) [z] [v] rfl rfl (rds_cons p1.sl' rds_nil) (by simp) fun q w3 k1 k2 k3 k4 => ?_)
  have hN3 := hN2.grown k2 (by simp)
  have hb3 := hb2.grown0 k2 hs2
  have hs3 := hb3.size
  clear p1
  by_cases hbig : m ≤ 4096
  · go_wp2_with (first | ((with_reducible apply wpList_unguard); rfl) | (with_reducible refine stop_make ?_) | ((with_reducible apply len_B); assumption) | ((with_reducible apply len_BB); assumption)  | (with_reducible refine stop_builtin ?_) | (with_reducible refine stop_slice ?_) | (with_reducible refine stop_index_B ?_) | (with_reducible refine stop_index_BB ?_)  | (with_reducible refine stop_str_B ?_) | (with_reducible refine stop_mark_B ?_) | (with_reducible refine stop_buildSlice ?_))
    refine (sframe_any w3 _ [z] q hN3 k1.slGe (by simp) (by simp; omega)).mono ?_
    rintro e w4 ⟨f, rfl, hf, hb4⟩
    rw [show [z].flatten = z by simp] at hf
    have hN4 := hN3.below hb4 (Nat.le_refl _)
    have hb4' := hb3.trans (hb4.mono hs3)
    have hs4 := hb4'.size
    have hfs : Sl w4 (· < w4.heap.size) (frame z) f := hf.sl'.old
    have hfl := frame_len z
    have hop := opened_frame z (by omega)
    clear hf
    have hnb : ¬ (4096 : Int) < (m : Int) := by omega
    go_wp2_with (first | ((with_reducible apply wpList_unguard); rfl) | (with_reducible refine stop_make ?_) | ((with_reducible apply len_B); assumption) | ((with_reducible apply len_BB); assumption)  | (with_reducible refine stop_builtin ?_) | (with_reducible refine stop_slice ?_) | (with_reducible refine stop_index_B ?_) | (with_reducible refine stop_index_BB ?_)  | (with_reducible refine stop_str_B ?_) | (with_reducible refine stop_mark_B ?_) | (with_reducible refine stop_buildSlice ?_))
    refine (sopen_any w4 _ (frame z) f hN4 hfs (by omega)).mono ?_
    rintro e w5 ⟨b, rfl, hb, hb5⟩
    rw [hop] at hb ⊢
    dsimp only at hb ⊢
    have hb5' := hb4'.trans (hb5.mono hs4)
    have hm3 : (z.length : Int) = m := by omega
    go_wp2_with (first | ((with_reducible apply wpList_unguard); rfl) | (with_reducible refine stop_make ?_) | ((with_reducible apply len_B); assumption) | ((with_reducible apply len_BB); assumption)  | (with_reducible refine stop_builtin ?_) | (with_reducible refine stop_slice ?_) | (with_reducible refine stop_index_B ?_) | (with_reducible refine stop_index_BB ?_)  | (with_reducible refine stop_str_B ?_) | (with_reducible refine stop_mark_B ?_) | (with_reducible refine stop_buildSlice ?_))
    go_ret
    exact ⟨rfl, hb5'⟩
  · have hnb : (4096 : Int) < (m : Int) := by omega
    go_wp2_with (first | ((with_reducible apply wpList_unguard); rfl) | (with_reducible refine stop_make ?_) | ((with_reducible apply len_B); assumption) | ((with_reducible apply len_BB); assumption)  | (with_reducible refine stop_builtin ?_) | (with_reducible refine stop_slice ?_) | (with_reducible refine stop_index_B ?_) | (with_reducible refine stop_index_BB ?_)  | (with_reducible refine stop_str_B ?_) | (with_reducible refine stop_mark_B ?_) | (with_reducible refine stop_buildSlice ?_))
    refine (sframe_long w3 _ [z] q k1.slGe (by simp) (by simp; omega) (by simp; omega)).mono ?_
    rintro e w4 ⟨rfl, hb4⟩
    have hN4 := hN3.below hb4 (Nat.le_refl _)
    have hb4' := hb3.trans (hb4.mono hs3)
    have hs4 := hb4'.size
    clear k1 k2 k3 k4 p2 hb4 hb3 hN3 hs3 hN2 hb2 hs2
    go_wp2_with (first | ((with_reducible apply wpList_unguard); rfl) | (with_reducible refine stop_make ?_) | ((with_reducible apply len_B); assumption) | ((with_reducible apply len_BB); assumption)  | (with_reducible refine stop_builtin ?_) | (with_reducible refine stop_slice ?_) | (with_reducible refine stop_index_B ?_) | (with_reducible refine stop_index_BB ?_)  | (with_reducible refine stop_str_B ?_) | (with_reducible refine stop_mark_B ?_) | (with_reducible refine stop_buildSlice ?_))
    have e1 : (m : Int) % 256 = ((UInt8.ofNat (m - 4096)).toNat : Int) := by
      rw [UInt8.toNat_ofNat_of_lt' (by show m - 4096 < 256; omega)]; omega
    have e2 : (m : Int) / 256 = ((16 : UInt8).toNat : Int) := by
      show (m : Int) / 256 = 16
      omega
    have hnl := next_long m (by omega) hm2
    rw [e1, e2]
    generalize UInt8.ofNat (m - 4096) = c at *
    refine Stop.go (build_B_at (([0, 0, 0, 0, c, 16] : List UInt8).map fun b => Value.int .u8 (b.toNat : Int)) rfl rfl (by simp [Value.cells]) (by simp) ?_)
    have ho := Own.built w4 5 (fun _ => False) w4.heap.size (Nat.le_refl _) ([0, 0, 0, 0, c, 16] : List UInt8) _ (rds_u8_cells.2 rfl) rfl (by simp only [maxLen]; simp)
    have hbA := (Below.refl w4.heap.size w4).alloc (Nat.le_refl _) (.cells ((([0, 0, 0, 0, c, 16] : List UInt8).map fun b => Value.int .u8 (b.toNat : Int)).toArray) 5)
    have hoS := ho.sl'
    have hNA := hN4.below hbA (Nat.le_refl _)
    have hsA := hbA.size
    generalize hgb : w4.heap.size = B at *
    clear hgb
    generalize (w4.alloc (.cells ((([0, 0, 0, 0, c, 16] : List UInt8).map fun b => Value.int .u8 (b.toNat : Int)).toArray) 5)) = w5 at *
    go_wp2_with (first | ((with_reducible apply wpList_unguard); rfl) | (with_reducible refine stop_make ?_) | ((with_reducible apply len_B); assumption) | ((with_reducible apply len_BB); assumption)  | (with_reducible refine stop_builtin ?_) | (with_reducible refine stop_slice ?_) | (with_reducible refine stop_index_B ?_) | (with_reducible refine stop_index_BB ?_)  | (with_reducible refine stop_str_B ?_) | (with_reducible refine stop_mark_B ?_) | (with_reducible refine stop_buildSlice ?_))
    have hoS6 : Sl w5 (fun b => B ≤ b) [0, 0, 0, 0, c, 16] (.slice (some ⟨B, 0, none⟩) 6 6) := hoS
    refine Stop.go (app_zeros_B (k := m) Tryd.underlying3 rfl hoS6 rfl (by omega) (by omega) fun v6 w6 g1 g2 => ?_)
    have hN6 := hNA.below g2 (Nat.le_refl _)
    have hb6 := hb4'.trans ((hbA.mono hs4).trans (g2.mono (by omega)))
    have hs6 := hb6.size
    clear hoS hoS6 ho
    go_wp2_with (first | ((with_reducible apply wpList_unguard); rfl) | (with_reducible refine stop_make ?_) | ((with_reducible apply len_B); assumption) | ((with_reducible apply len_BB); assumption)  | (with_reducible refine stop_builtin ?_) | (with_reducible refine stop_slice ?_) | (with_reducible refine stop_index_B ?_) | (with_reducible refine stop_index_BB ?_)  | (with_reducible refine stop_str_B ?_) | (with_reducible refine stop_mark_B ?_) | (with_reducible refine stop_buildSlice ?_))
    refine (snext_any w6 _ _ v6 hN6 g1 (by simp; omega)).mono ?_
    rintro e w7 ⟨v1, v2, rfl, _, _, hb7⟩
    rw [hnl]
    have hb7' := hb6.trans (hb7.mono hs6)
    dsimp only
    have hnil : Sl w7 (fun _ => False) ([] : List UInt8) (.slice none 0 0) := Sl.nil _ _
    go_wp2_with (first | ((with_reducible apply wpList_unguard); rfl) | (with_reducible refine stop_make ?_) | ((with_reducible apply len_B); assumption) | ((with_reducible apply len_BB); assumption)  | (with_reducible refine stop_builtin ?_) | (with_reducible refine stop_slice ?_) | (with_reducible refine stop_index_B ?_) | (with_reducible refine stop_index_BB ?_)  | (with_reducible refine stop_str_B ?_) | (with_reducible refine stop_mark_B ?_) | (with_reducible refine stop_buildSlice ?_))
    go_ret
    exact ⟨rfl, hb7'⟩

end Go.Proofs.YtiaiagkfkckkpaaDoor
