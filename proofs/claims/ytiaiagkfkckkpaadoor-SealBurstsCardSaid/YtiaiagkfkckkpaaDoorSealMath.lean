/- Plain Lean: what frames do. -/
import Derived.Test.YtiaiagkfkckkpaaDoorBits
namespace Go.Arm

theorem num_low : ∀ (k n : Nat), num (low n k) = n % 256 ^ k
  | 0, n => by simp [num, low]; omega
  | k + 1, n => by
    rw [low, num, num_low k, Nat.pow_succ]
    have h : (UInt8.ofNat (n % 256)).toNat = n % 256 := by
      rw [UInt8.toNat_ofNat_of_lt' (Nat.mod_lt _ (by decide))]
    rw [h, Nat.mul_comm (256 ^ k) 256, Nat.mod_mul]

theorem frame_parts (l : List UInt8) : frame l = low (sum (framed l)).toNat 4 ++ (low l.length 2 ++ l) := rfl

theorem frame_len (l : List UInt8) : (frame l).length = 6 + l.length := by simp [frame_parts, low_len]; omega

theorem frame_head (l m : List UInt8) : (((frame l ++ m).take 6).drop 4) = low l.length 2 := by
  have h1 : (low (sum (framed l)).toNat 4 ++ low l.length 2).length = 6 := by simp [low_len]
  have e : frame l ++ m = (low (sum (framed l)).toNat 4 ++ low l.length 2) ++ (l ++ m) := by simp [frame_parts]
  rw [e, List.take_left' h1, List.drop_left' (low_len _ _)]

theorem frame_num (l m : List UInt8) (hl : l.length ≤ 4096) : num (((frame l ++ m).take 6).drop 4) = l.length := by
  rw [frame_head, num_low]; omega

theorem next_frame (l m : List UInt8) (hl : l.length ≤ 4096) : next (frame l ++ m) = (l, m, 0) := by
  have hn := frame_num l m hl
  have hlen : (frame l ++ m).length = 6 + l.length + m.length := by rw [List.length_append, frame_len]
  have ht : (frame l ++ m).take (6 + l.length) = frame l := List.take_left' (frame_len l)
  have hd : (frame l).drop 4 = framed l := by rw [frame_parts]; exact List.drop_left' (low_len _ _)
  have h4 : (frame l ++ m).take 4 = low (sum (framed l)).toNat 4 := by rw [frame_parts, List.append_assoc]; exact List.take_left' (low_len _ _)
  rw [next, if_neg (by omega), hn, if_neg (by omega), if_neg (by omega), ht, hd, h4, num_low, if_neg]
  · have h6 : (frame l).drop 6 = l := by
      have h1 : (low (sum (framed l)).toNat 4 ++ low l.length 2).length = 6 := by simp [low_len]
      have e : frame l = (low (sum (framed l)).toNat 4 ++ low l.length 2) ++ l := by simp [frame_parts]
      rw [e]; exact List.drop_left' h1
    rw [h6, List.drop_left' (frame_len l)]
  · have := (sum (framed l)).isLt
    omega

theorem next_frame' (l : List UInt8) (hl : l.length ≤ 4096) : next (frame l) = (l, [], 0) := by
  have := next_frame l [] hl
  simpa using this

theorem opened_frame (l : List UInt8) (hl : l.length ≤ 4096) : opened (frame l) = (l, 0) := by
  rw [opened, next_frame' l hl]; rfl

theorem all_frame (l m : List UInt8) (hl : l.length ≤ 4096) : all (frame l ++ m) = (l :: (all m).1, (all m).2) := by
  have h := next_frame l m hl
  rw [all_good _ (by rw [h]), h]

theorem next_cut (l : List UInt8) (hl : l.length ≤ 4096) (k : Nat) (hk : k < (frame l).length) : next ((frame l).take k) = ([], [], 2) := by
  rw [frame_len] at hk
  have hlen : ((frame l).take k).length = k := by rw [List.length_take, frame_len]; omega
  by_cases h6 : k < 6
  · rw [next, if_pos (by omega)]
  · have e : (((frame l).take k).take 6).drop 4 = ((frame l ++ []).take 6).drop 4 := by
      rw [List.take_take, List.append_nil, Nat.min_eq_left (by omega)]
    have hn : num ((((frame l).take k).take 6).drop 4) = l.length := by rw [e, frame_num l [] hl]
    rw [next, if_neg (by omega), hn, if_neg (by omega), if_pos (by omega)]

theorem all_cut (l : List UInt8) (hl : l.length ≤ 4096) (k : Nat) (hk : k < (frame l).length) : all ((frame l).take k) = ([], (frame l).take k) :=
  all_bad _ (by rw [next_cut l hl k hk]; decide)

end Go.Arm
