/- package armillarylaw02: awake. -/
import Derived.Test.YtfgagfemhmcdfaaScFr
import Derived.Test.YtfgagfemhmcdfaaRefBase
namespace Go.Proofs.Ytfgagfemhmcdfaa
open Go Go.RowKit Go.Arm

theorem awake_write : encs [5, 300] ++ encVecs [[1, -1]] = [5, 172, 2, 2, 2, 1] := by
  simp [encs, encVecs, encVec, enc_small, enc_big, zig]
theorem awake_read : rnum [128, 0] 0 9 = (0, [128, 0], 4) := by
  simp [rnum, taken, peek, peekGo]

theorem rds_pm {w : World} {S : Nat → Prop} : rds w S ([1, -1] : List Int32) [.int .i32 1, .int .i32 (-1)] := by
  have e : (([1, -1] : List Int32).map fun x => Value.int .i32 x.toInt) = [.int .i32 1, .int .i32 (-1)] := by
    have e1 : (1 : Int32).toInt = 1 := by decide
    have e2 : (-1 : Int32).toInt = -1 := by decide
    simp [e1, e2]
  have := rds_V (w := w) (S := S) (l := [1, -1])
  rwa [e] at this
theorem rds_5300 {w : World} {S : Nat → Prop} : rds w S ([5, 300] : List UInt64) [.int .u64 5, .int .u64 300] := by
  have := rds_N (w := w) (S := S) (l := [5, 300])
  simpa using this

set_option maxHeartbeats 400000 in
theorem awake_any (w : World) : Calls Try.prog 10 #[] w fun e w' => e = .returned (.bool true) ∧ Below w.heap.size w w' := by
  have hb0 := Below.refl w.heap.size w
  go_enter Try.func10, Try.ntmps10
  go_wp2_with (first | ((with_reducible apply wpList_unguard); rfl) | (with_reducible refine stop_make ?_) | ((with_reducible apply len_B); assumption) | ((with_reducible apply len_BB); assumption)  | ((with_reducible apply len_N); assumption) | ((with_reducible apply len_V); assumption) | ((with_reducible apply len_VV); assumption)  | (with_reducible refine stop_builtin ?_) | (with_reducible refine stop_slice ?_) | (with_reducible refine stop_index_B ?_) | (with_reducible refine stop_index_BB ?_)  | (with_reducible refine stop_index_N ?_) | (with_reducible refine stop_index_V ?_) | (with_reducible refine stop_index_VV ?_)  | (with_reducible refine stop_str_B ?_) | (with_reducible refine stop_mark_B ?_) | (with_reducible refine stop_buildSlice ?_))
  have hw1 : Wf w (w.alloc (.cells #[.slice none 0 0] 27)) w.heap.size none [] := Wf.fresh (Nat.le_refl _)
  have hb1 := hb0.alloc (Nat.le_refl _) (.cells #[.slice none 0 0] 27)
  have hgs : w.heap.size < (w.alloc (.cells #[.slice none 0 0] 27)).heap.size := hw1.wr.lt
  generalize w.alloc (.cells #[.slice none 0 0] 27) = w1 at *
  obtain ⟨g, hg⟩ : ∃ g, g = w.heap.size := ⟨_, rfl⟩
  rw [← hg] at hw1 hgs ⊢
  clear hg
  refine Stop.go (build_N (S := fun _ => False) ([5, 300] : List UInt64) [.int .u64 5, .int .u64 300] rfl rfl rds_5300 (by simp) fun q w2 k1 k2 k3 k4 => ?_)
  have hb2 := hb1.grown k2 hb1.size (by simp)
  have hw2 := hw1.keep (below_of_grown k2 (Nat.le_refl _) (by simp))
  have hq := build_flat k1 k3
  clear k1 k2 k3 hw1 hb1 hb0
  go_wp2_with (first | ((with_reducible apply wpList_unguard); rfl) | (with_reducible refine stop_make ?_) | ((with_reducible apply len_B); assumption) | ((with_reducible apply len_BB); assumption)  | ((with_reducible apply len_N); assumption) | ((with_reducible apply len_V); assumption) | ((with_reducible apply len_VV); assumption)  | (with_reducible refine stop_builtin ?_) | (with_reducible refine stop_slice ?_) | (with_reducible refine stop_index_B ?_) | (with_reducible refine stop_index_BB ?_)  | (with_reducible refine stop_index_N ?_) | (with_reducible refine stop_index_V ?_) | (with_reducible refine stop_index_VV ?_)  | (with_reducible refine stop_str_B ?_) | (with_reducible refine stop_mark_B ?_) | (with_reducible refine stop_buildSlice ?_))
  refine (wnums_any w2 g none [] _ _ q hw2.wr hq (by rintro b rfl; exact ⟨by omega, by omega, by simp⟩) (by simp) (by simp)).mono ?_
  rintro e w3 ⟨rfl, h3, a1, a2⟩
  have hb3 := hw2.below hb2 a2
  have hw3 := hw2.step a1 a2
  have hs3 := a2.2.size
  have hrow3 := hw3.wr.row_lt
  clear a1 a2 hw2 hb2 hq
  go_wp2_with (first | ((with_reducible apply wpList_unguard); rfl) | (with_reducible refine stop_make ?_) | ((with_reducible apply len_B); assumption) | ((with_reducible apply len_BB); assumption)  | ((with_reducible apply len_N); assumption) | ((with_reducible apply len_V); assumption) | ((with_reducible apply len_VV); assumption)  | (with_reducible refine stop_builtin ?_) | (with_reducible refine stop_slice ?_) | (with_reducible refine stop_index_B ?_) | (with_reducible refine stop_index_BB ?_)  | (with_reducible refine stop_index_N ?_) | (with_reducible refine stop_index_V ?_) | (with_reducible refine stop_index_VV ?_)  | (with_reducible refine stop_str_B ?_) | (with_reducible refine stop_mark_B ?_) | (with_reducible refine stop_buildSlice ?_))
  refine Stop.go (build_V (S := fun _ => False) ([1, -1] : List Int32) [.int .i32 1, .int .i32 (-1)] rfl rfl rds_pm (by simp) fun q w4 k1 k2 k3 k4 => ?_)
  have hb4 := hb3.grown k2 hb3.size (by simp)
  have hw4 := hw3.keep (below_of_grown k2 (Nat.le_refl _) (by simp))
  have hq := build_flat k1 k3
  clear k1 k2 k3 hw3 hb3
  go_wp2_with (first | ((with_reducible apply wpList_unguard); rfl) | (with_reducible refine stop_make ?_) | ((with_reducible apply len_B); assumption) | ((with_reducible apply len_BB); assumption)  | ((with_reducible apply len_N); assumption) | ((with_reducible apply len_V); assumption) | ((with_reducible apply len_VV); assumption)  | (with_reducible refine stop_builtin ?_) | (with_reducible refine stop_slice ?_) | (with_reducible refine stop_index_B ?_) | (with_reducible refine stop_index_BB ?_)  | (with_reducible refine stop_index_N ?_) | (with_reducible refine stop_index_V ?_) | (with_reducible refine stop_index_VV ?_)  | (with_reducible refine stop_str_B ?_) | (with_reducible refine stop_mark_B ?_) | (with_reducible refine stop_buildSlice ?_))
  refine Stop.go (build_VV (S := (· = w3.heap.size)) [([1, -1] : List Int32)] [q] rfl rfl ⟨_, _, rfl, ⟨q, rfl, hq⟩, rfl⟩ (by simp) fun q2 w5 k1 k2 k3 k5 => ?_)
  have hb5 := hb4.grown k2 hb4.size (by simp)
  have hw5 := hw4.keep (below_of_grown k2 (Nat.le_refl _) (by simp))
  have hq2 : Sl w5 (fun b => b = w3.heap.size ∨ b = w4.heap.size) [([1, -1] : List Int32)] q2 := k1.sl (fun b h _ => .inl h) (fun b hb => .inr (by rw [k3] at hb; exact (Option.some.inj hb).symm))
  clear k1 k2 k3 hw4 hb4 hq
  go_wp2_with (first | ((with_reducible apply wpList_unguard); rfl) | (with_reducible refine stop_make ?_) | ((with_reducible apply len_B); assumption) | ((with_reducible apply len_BB); assumption)  | ((with_reducible apply len_N); assumption) | ((with_reducible apply len_V); assumption) | ((with_reducible apply len_VV); assumption)  | (with_reducible refine stop_builtin ?_) | (with_reducible refine stop_slice ?_) | (with_reducible refine stop_index_B ?_) | (with_reducible refine stop_index_BB ?_)  | (with_reducible refine stop_index_N ?_) | (with_reducible refine stop_index_V ?_) | (with_reducible refine stop_index_VV ?_)  | (with_reducible refine stop_str_B ?_) | (with_reducible refine stop_mark_B ?_) | (with_reducible refine stop_buildSlice ?_))
  refine (wvecs_any w5 g h3 _ _ _ q2 hw5.wr hq2 (by
    rintro b (rfl | rfl)
    · exact ⟨by omega, by omega, fun e => by have := hrow3 _ e; omega⟩
    · exact ⟨by omega, by omega, fun e => by have := hrow3 _ e; omega⟩) (by simp [encs, enc_small, enc_big]) (by simp) (by simp)).mono ?_
  rintro e w6 ⟨rfl, h6, a1, a2⟩
  rw [List.nil_append, awake_write] at a1
  have hb6 := hw5.below hb5 a2
  have hw6 := hw5.step a1 a2
  clear a1 a2 hw5 hb5 hq2
  go_wp2_with (first | ((with_reducible apply wpList_unguard); rfl) | (with_reducible refine stop_make ?_) | ((with_reducible apply len_B); assumption) | ((with_reducible apply len_BB); assumption)  | ((with_reducible apply len_N); assumption) | ((with_reducible apply len_V); assumption) | ((with_reducible apply len_VV); assumption)  | (with_reducible refine stop_builtin ?_) | (with_reducible refine stop_slice ?_) | (with_reducible refine stop_index_B ?_) | (with_reducible refine stop_index_BB ?_)  | (with_reducible refine stop_index_N ?_) | (with_reducible refine stop_index_V ?_) | (with_reducible refine stop_index_VV ?_)  | (with_reducible refine stop_str_B ?_) | (with_reducible refine stop_mark_B ?_) | (with_reducible refine stop_buildSlice ?_))
  refine (wbytes_any w6 g h6 _ hw6.wr (by simp)).mono ?_
  rintro e w7 ⟨p7, rfl, hp7, hb7⟩
  have hB7 := below_on hb6 hb7 hb6.size
  have hP7 := hp7.sl'.old
  have hl7 := hb7.size
  clear hw6 hb6 hp7 hb7
  go_wp2_with (first | ((with_reducible apply wpList_unguard); rfl) | (with_reducible refine stop_make ?_) | ((with_reducible apply len_B); assumption) | ((with_reducible apply len_BB); assumption)  | ((with_reducible apply len_N); assumption) | ((with_reducible apply len_V); assumption) | ((with_reducible apply len_VV); assumption)  | (with_reducible refine stop_builtin ?_) | (with_reducible refine stop_slice ?_) | (with_reducible refine stop_index_B ?_) | (with_reducible refine stop_index_BB ?_)  | (with_reducible refine stop_index_N ?_) | (with_reducible refine stop_index_V ?_) | (with_reducible refine stop_index_VV ?_)  | (with_reducible refine stop_str_B ?_) | (with_reducible refine stop_mark_B ?_) | (with_reducible refine stop_buildSlice ?_))
  refine Stop.go (build_B ([128, 0] : List UInt8) [_, _] rfl rfl rfl (by simp) fun q w8 k1 k2 k3 k4 => ?_)
  have hB8 := hB7.grown k2 hB7.size (by simp)
  have hP8 := hP7.grown0 k2
  have hq := build_flat k1 k3
  clear k1 k2 k3 hP7 hB7
  go_wp2_with (first | ((with_reducible apply wpList_unguard); rfl) | (with_reducible refine stop_make ?_) | ((with_reducible apply len_B); assumption) | ((with_reducible apply len_BB); assumption)  | ((with_reducible apply len_N); assumption) | ((with_reducible apply len_V); assumption) | ((with_reducible apply len_VV); assumption)  | (with_reducible refine stop_builtin ?_) | (with_reducible refine stop_slice ?_) | (with_reducible refine stop_index_B ?_) | (with_reducible refine stop_index_BB ?_)  | (with_reducible refine stop_index_N ?_) | (with_reducible refine stop_index_V ?_) | (with_reducible refine stop_index_VV ?_)  | (with_reducible refine stop_str_B ?_) | (with_reducible refine stop_mark_B ?_) | (with_reducible refine stop_buildSlice ?_))
  refine (new_any w8 _ _ q hq (by simp)).mono ?_
  rintro e w9 ⟨r, rfl, hr, hR9, hb9⟩
  have hB9 := below_on hB8 hb9 hB8.size
  have hP9 := hP8.below hb9 (Nat.le_refl _)
  have hr9 := hr
  have hs8 := hB8.size
  clear hr hb9 hP8 hB8 hq
  go_wp2_with (first | ((with_reducible apply wpList_unguard); rfl) | (with_reducible refine stop_make ?_) | ((with_reducible apply len_B); assumption) | ((with_reducible apply len_BB); assumption)  | ((with_reducible apply len_N); assumption) | ((with_reducible apply len_V); assumption) | ((with_reducible apply len_VV); assumption)  | (with_reducible refine stop_builtin ?_) | (with_reducible refine stop_slice ?_) | (with_reducible refine stop_index_B ?_) | (with_reducible refine stop_index_BB ?_)  | (with_reducible refine stop_index_N ?_) | (with_reducible refine stop_index_V ?_) | (with_reducible refine stop_index_VV ?_)  | (with_reducible refine stop_str_B ?_) | (with_reducible refine stop_mark_B ?_) | (with_reducible refine stop_buildSlice ?_))
  refine (num_any' w9 r _ _ 0 9 hR9).mono ?_
  rw [awake_read]
  rintro e w10 ⟨rfl, hR10, ho10⟩
  have hB10 := below_only hB9 ho10 (by rintro k rfl; omega)
  have hP10 := hP9.only ho10 (by intro b hb _ e; omega)
  clear ho10 hB9 hP9 hR9
  go_wp2_with (first | ((with_reducible apply wpList_unguard); rfl) | (with_reducible refine stop_make ?_) | ((with_reducible apply len_B); assumption) | ((with_reducible apply len_BB); assumption)  | ((with_reducible apply len_N); assumption) | ((with_reducible apply len_V); assumption) | ((with_reducible apply len_VV); assumption)  | (with_reducible refine stop_builtin ?_) | (with_reducible refine stop_slice ?_) | (with_reducible refine stop_index_B ?_) | (with_reducible refine stop_index_BB ?_)  | (with_reducible refine stop_index_N ?_) | (with_reducible refine stop_index_V ?_) | (with_reducible refine stop_index_VV ?_)  | (with_reducible refine stop_str_B ?_) | (with_reducible refine stop_mark_B ?_) | (with_reducible refine stop_buildSlice ?_))
  refine Stop.go (build_B ([5, 172, 2, 2, 2, 1] : List UInt8) [_, _, _, _, _, _] rfl rfl rfl (by simp) fun q w11 k1 k2 k3 k4 => ?_)
  have hB11 := hB10.grown k2 hB10.size (by simp)
  have hP11 := hP10.grown0 k2
  have hR11 : Rd w11 r (fun k => w8.heap.size ≤ k ∧ k ≠ r) [128, 0] 4 := hR10.only (Only.of_grown k2) (by simp) (by simp)
  have hq := build_flat k1 k3
  clear k1 k2 k3 hP10 hB10 hR10
  go_wp2_with (first | ((with_reducible apply wpList_unguard); rfl) | (with_reducible refine stop_make ?_) | ((with_reducible apply len_B); assumption) | ((with_reducible apply len_BB); assumption)  | ((with_reducible apply len_N); assumption) | ((with_reducible apply len_V); assumption) | ((with_reducible apply len_VV); assumption)  | (with_reducible refine stop_builtin ?_) | (with_reducible refine stop_slice ?_) | (with_reducible refine stop_index_B ?_) | (with_reducible refine stop_index_BB ?_)  | (with_reducible refine stop_index_N ?_) | (with_reducible refine stop_index_V ?_) | (with_reducible refine stop_index_VV ?_)  | (with_reducible refine stop_str_B ?_) | (with_reducible refine stop_mark_B ?_) | (with_reducible refine stop_buildSlice ?_))
  refine (same_any w11 _ _ _ _ p7 q hP11 hq).mono ?_
  rintro e w12 ⟨rfl, rfl⟩
  rw [beq_self_eq_true]
  go_wp2_with (first | ((with_reducible apply wpList_unguard); rfl) | (with_reducible refine stop_make ?_) | ((with_reducible apply len_B); assumption) | ((with_reducible apply len_BB); assumption)  | ((with_reducible apply len_N); assumption) | ((with_reducible apply len_V); assumption) | ((with_reducible apply len_VV); assumption)  | (with_reducible refine stop_builtin ?_) | (with_reducible refine stop_slice ?_) | (with_reducible refine stop_index_B ?_) | (with_reducible refine stop_index_BB ?_)  | (with_reducible refine stop_index_N ?_) | (with_reducible refine stop_index_V ?_) | (with_reducible refine stop_index_VV ?_)  | (with_reducible refine stop_str_B ?_) | (with_reducible refine stop_mark_B ?_) | (with_reducible refine stop_buildSlice ?_))
  refine (end_any w11 r _ _ _ hR11).mono ?_
  rintro e w12 ⟨rfl, rfl⟩
  rw [show rend [128, 0] 4 = 4 by decide]
  go_wp2_with (first | ((with_reducible apply wpList_unguard); rfl) | (with_reducible refine stop_make ?_) | ((with_reducible apply len_B); assumption) | ((with_reducible apply len_BB); assumption)  | ((with_reducible apply len_N); assumption) | ((with_reducible apply len_V); assumption) | ((with_reducible apply len_VV); assumption)  | (with_reducible refine stop_builtin ?_) | (with_reducible refine stop_slice ?_) | (with_reducible refine stop_index_B ?_) | (with_reducible refine stop_index_BB ?_)  | (with_reducible refine stop_index_N ?_) | (with_reducible refine stop_index_V ?_) | (with_reducible refine stop_index_VV ?_)  | (with_reducible refine stop_str_B ?_) | (with_reducible refine stop_mark_B ?_) | (with_reducible refine stop_buildSlice ?_))
  go_ret
  exact ⟨rfl, hB11⟩
end Go.Proofs.Ytfgagfemhmcdfaa
