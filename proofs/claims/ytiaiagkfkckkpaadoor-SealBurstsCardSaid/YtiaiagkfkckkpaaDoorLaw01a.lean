/- armillarylaw01: awake. -/
import Derived.Test.YtiaiagkfkckkpaaDoorSealAll
import Derived.Test.YtiaiagkfkckkpaaDoorRefTurn
namespace Go.Proofs.YtiaiagkfkckkpaaDoor
open Go Go.RowKit Go.Arm

def ex6 : List UInt8 := [0xff, 0x12, 0xd9, 0x41, 0, 0]
theorem frame_nil : frame ([] : List (List UInt8)).flatten = ex6 := by decide +kernel
theorem sum_digits : sum [49, 50, 51, 52, 53, 54, 55, 56, 57] = 3421780262#32 := by decide +kernel

/-- awake -/
theorem awake_any (w : World) (hN : Nib w) : Calls Tryd.prog 10 #[] w fun e w' => e = .returned (.bool true) ∧ Below w.heap.size w w' := by
  go_enter Tryd.func10, Tryd.ntmps10
  go_wp2_with (first | ((with_reducible apply wpList_unguard); rfl) | ((with_reducible apply len_B); assumption) | ((with_reducible apply len_BB); assumption)  | (with_reducible refine stop_builtin ?_) | (with_reducible refine stop_slice ?_) | (with_reducible refine stop_index_B ?_) | (with_reducible refine stop_index_BB ?_)  | (with_reducible refine stop_str_B ?_) | (with_reducible refine stop_mark_B ?_) | (with_reducible refine stop_buildSlice ?_))
  refine (sframe_any w (fun _ => False) [] _ hN (Sl.nil _ _) (by simp) (by simp)).mono ?_
  rintro e w1 ⟨v, rfl, hv, hb1⟩
  have hs1 := hb1.size
  have hN1 := hN.below hb1 (Nat.le_refl _)
  have hv1 : Sl w1 (· < w1.heap.size) ex6 v := by rw [← frame_nil]; exact hv.sl'.old
  clear hv
  go_wp2_with (first | ((with_reducible apply wpList_unguard); rfl) | ((with_reducible apply len_B); assumption) | ((with_reducible apply len_BB); assumption)  | (with_reducible refine stop_builtin ?_) | (with_reducible refine stop_slice ?_) | (with_reducible refine stop_index_B ?_) | (with_reducible refine stop_index_BB ?_)  | (with_reducible refine stop_str_B ?_) | (with_reducible refine stop_mark_B ?_) | (with_reducible refine stop_buildSlice ?_))
  refine Stop.go (build_B [49, 50, 51, 52] [.int .u8 49, .int .u8 50, .int .u8 51, .int .u8 52] rfl rfl (by rfl) (by simp) fun u1 w2 h1 h2 h3 h4 => ?_)
  have hv2 := hv1.grown0 h2
  have hN2 := hN1.grown h2 (by simp)
  have hb2 := hb1.grown0 h2 hs1
  have h1s : Sl w2 (fun b => w1.heap.size ≤ b) ([49, 50, 51, 52] : List UInt8) u1 := h1.sl'
  have hn1 := hN1.lt
  clear h1 h2
  go_wp2_with (first | ((with_reducible apply wpList_unguard); rfl) | ((with_reducible apply len_B); assumption) | ((with_reducible apply len_BB); assumption)  | (with_reducible refine stop_builtin ?_) | (with_reducible refine stop_slice ?_) | (with_reducible refine stop_index_B ?_) | (with_reducible refine stop_index_BB ?_)  | (with_reducible refine stop_str_B ?_) | (with_reducible refine stop_mark_B ?_) | (with_reducible refine stop_buildSlice ?_))
  refine Stop.go (mark_B h1s h3 fun w3 g1 g2 g3 => ?_)
  have hv3 := hv2.grown g2 (fun b hb e => by cases e; omega)
  have hN3 := hN2.grown g2 (by intro e; have := Option.some.inj e; omega)
  have hb3 := hb2.grown g2 (by omega) (fun k hk => by cases hk; omega)
  clear h1s hv2 hN2 hb2 g2
  go_wp2_with (first | ((with_reducible apply wpList_unguard); rfl) | ((with_reducible apply len_B); assumption) | ((with_reducible apply len_BB); assumption)  | (with_reducible refine stop_builtin ?_) | (with_reducible refine stop_slice ?_) | (with_reducible refine stop_index_B ?_) | (with_reducible refine stop_index_BB ?_)  | (with_reducible refine stop_str_B ?_) | (with_reducible refine stop_mark_B ?_) | (with_reducible refine stop_buildSlice ?_))
  refine Stop.go (build_B [53, 54, 55, 56, 57] [.int .u8 53, .int .u8 54, .int .u8 55, .int .u8 56, .int .u8 57] rfl rfl (by rfl) (by simp) fun u2 w4 k1 k2 k3 k4 => ?_)
  have hv4 := hv3.grown0 k2
  have g4 := g1.old.grown0 k2
  have hN4 := hN3.grown k2 (by simp)
  have hb4 := hb3.grown0 k2 (by omega)
  have hn3 := hN3.lt
  have k1s : Sl w4 (fun b => w3.heap.size ≤ b) ([53, 54, 55, 56, 57] : List UInt8) u2 := k1.sl'
  clear k1 k2 g1 hv3 hN3 hb3
  go_wp2_with (first | ((with_reducible apply wpList_unguard); rfl) | ((with_reducible apply len_B); assumption) | ((with_reducible apply len_BB); assumption)  | (with_reducible refine stop_builtin ?_) | (with_reducible refine stop_slice ?_) | (with_reducible refine stop_index_B ?_) | (with_reducible refine stop_index_BB ?_)  | (with_reducible refine stop_str_B ?_) | (with_reducible refine stop_mark_B ?_) | (with_reducible refine stop_buildSlice ?_))
  refine Stop.go (mark_B k1s k3 fun w5 m1 m2 m3 => ?_)
  have hv5 := hv4.grown m2 (fun b hb e => by cases e; omega)
  have g5 := g4.grown m2 (fun b hb e => by cases e; omega)
  have hN5 := hN4.grown m2 (by intro e; have := Option.some.inj e; omega)
  have hb5 := hb4.grown m2 (by omega) (fun k hk => by cases hk; omega)
  clear k1s hv4 hN4 hb4 m2 g4
  go_wp2_with (first | ((with_reducible apply wpList_unguard); rfl) | ((with_reducible apply len_B); assumption) | ((with_reducible apply len_BB); assumption)  | (with_reducible refine stop_builtin ?_) | (with_reducible refine stop_slice ?_) | (with_reducible refine stop_index_B ?_) | (with_reducible refine stop_index_BB ?_)  | (with_reducible refine stop_str_B ?_) | (with_reducible refine stop_mark_B ?_) | (with_reducible refine stop_buildSlice ?_))
  refine Stop.go (build_BB (S := fun _ => True) [[49, 50, 51, 52], [53, 54, 55, 56, 57]] [u1, u2] rfl rfl (rds_cons (g5.wide fun _ _ _ => trivial) (rds_cons (m1.wide fun _ _ _ => trivial) rds_nil)) (by simp) fun q w6 n1 n2 n3 n4 => ?_)
  have hv6 := hv5.grown0 n2
  have hN6 := hN5.grown n2 (by simp)
  have hb6 := hb5.grown0 n2 (by omega)
  go_wp2_with (first | ((with_reducible apply wpList_unguard); rfl) | ((with_reducible apply len_B); assumption) | ((with_reducible apply len_BB); assumption)  | (with_reducible refine stop_builtin ?_) | (with_reducible refine stop_slice ?_) | (with_reducible refine stop_index_B ?_) | (with_reducible refine stop_index_BB ?_)  | (with_reducible refine stop_str_B ?_) | (with_reducible refine stop_mark_B ?_) | (with_reducible refine stop_buildSlice ?_))
  refine (ssum_any w6 _ _ q hN6 n1.slGe).mono ?_
  rintro e w7 ⟨rfl, rfl⟩
  rw [show ([[49, 50, 51, 52], [53, 54, 55, 56, 57]] : List (List UInt8)).flatten = [49, 50, 51, 52, 53, 54, 55, 56, 57] from rfl, sum_digits]
  rw [show ((3421780262#32 : BitVec 32).toNat : Int) = 3421780262 by decide]
  go_wp2_with (first | ((with_reducible apply wpList_unguard); rfl) | ((with_reducible apply len_B); assumption) | ((with_reducible apply len_BB); assumption)  | (with_reducible refine stop_builtin ?_) | (with_reducible refine stop_slice ?_) | (with_reducible refine stop_index_B ?_) | (with_reducible refine stop_index_BB ?_)  | (with_reducible refine stop_str_B ?_) | (with_reducible refine stop_mark_B ?_) | (with_reducible refine stop_buildSlice ?_))
  refine Stop.go (build_B ex6 [.int .u8 255, .int .u8 18, .int .u8 217, .int .u8 65, .int .u8 0, .int .u8 0] rfl rfl (by rfl) (by simp [ex6]) fun u3 w8 p1 p2 p3 p4 => ?_)
  have hv8 := hv6.grown0 p2
  have hb8 := hb6.grown0 p2 (by omega)
  go_wp2_with (first | ((with_reducible apply wpList_unguard); rfl) | ((with_reducible apply len_B); assumption) | ((with_reducible apply len_BB); assumption)  | (with_reducible refine stop_builtin ?_) | (with_reducible refine stop_slice ?_) | (with_reducible refine stop_index_B ?_) | (with_reducible refine stop_index_BB ?_)  | (with_reducible refine stop_str_B ?_) | (with_reducible refine stop_mark_B ?_) | (with_reducible refine stop_buildSlice ?_))
  refine (same_any w8 _ _ _ _ _ _ hv8 p1.sl').mono ?_
  rintro e w9 ⟨rfl, rfl⟩
  rw [show (ex6 == ex6) = true by decide]
  go_wp2_with (first | ((with_reducible apply wpList_unguard); rfl) | ((with_reducible apply len_B); assumption) | ((with_reducible apply len_BB); assumption)  | (with_reducible refine stop_builtin ?_) | (with_reducible refine stop_slice ?_) | (with_reducible refine stop_index_B ?_) | (with_reducible refine stop_index_BB ?_)  | (with_reducible refine stop_str_B ?_) | (with_reducible refine stop_mark_B ?_) | (with_reducible refine stop_buildSlice ?_))
  go_ret
  exact ⟨rfl, hb8⟩

end Go.Proofs.YtiaiagkfkckkpaaDoor
