/- armillaryref01: the contracts. -/
import Derived.Test.YtnkbfelnggompaaDoorRefBase
namespace Go.Proofs.YtnkbfelnggompaaDoor
open Go Go.RowKit Go.Arm

/-- Sum -/
theorem rsum_any (w : World) (S : Nat → Prop) (l : List UInt8) (p : Value) (hp : Sl w S l p) :
    Calls Tryd.prog 51 #[p] w fun e w' => e = .returned (.int .u32 ((sum l).toNat : Int)) ∧ w = w' := by
  have hm := hp.length_le
  unfold maxLen at hm
  go_enter Tryd.func51, Tryd.ntmps51
  go_wp2_with (first | ((with_reducible apply wpList_unguard); rfl) | ((with_reducible apply len_B); assumption) | ((with_reducible apply len_BB); assumption)  | (with_reducible refine stop_builtin ?_) | (with_reducible refine stop_slice ?_) | (with_reducible refine stop_index_B ?_) | (with_reducible refine stop_index_BB ?_)  | (with_reducible refine stop_str_B ?_) | (with_reducible refine stop_mark_B ?_) | (with_reducible refine stop_buildSlice ?_))
  go_loop [3, 10] (fun c i => ∃ k : Nat, k ≤ l.length ∧ i = .int .i64 k ∧ c = .int .u32 ((sumFrom 0xffffffff#32 (l.take k)).toNat : Int)) (fun _ i => l.length - (intOf i).toNat)
  case atStart => exact ⟨0, Nat.zero_le _, rfl, rfl⟩
  case round =>
    obtain ⟨k, hk, rfl, rfl⟩ := hrel
    by_cases hlt : k < l.length
    · go_wp2_with (first | ((with_reducible apply wpList_unguard); rfl) | ((with_reducible apply len_B); assumption) | ((with_reducible apply len_BB); assumption)  | (with_reducible refine stop_builtin ?_) | (with_reducible refine stop_slice ?_) | (with_reducible refine stop_index_B ?_) | (with_reducible refine stop_index_BB ?_)  | (with_reducible refine stop_str_B ?_) | (with_reducible refine stop_mark_B ?_) | (with_reducible refine stop_buildSlice ?_))
      refine Stop.go (idx_B hp rfl (by omega) (by omega) fun b o y hy hc => ?_)
      have Hy := Lib.hid hy
      clear hy
      obtain ⟨c, hc0⟩ : ∃ c, c = sumFrom 0xffffffff#32 (l.take k) := ⟨_, rfl⟩
      rw [← hc0]
      have Hc := Lib.hid hc0
      clear hc0
      go_wp2_with (first | ((with_reducible apply wpList_unguard); rfl) | ((with_reducible apply len_B); assumption) | ((with_reducible apply len_BB); assumption)  | (with_reducible refine stop_builtin ?_) | (with_reducible refine stop_slice ?_) | (with_reducible refine stop_index_B ?_) | (with_reducible refine stop_index_BB ?_)  | (with_reducible refine stop_str_B ?_) | (with_reducible refine stop_mark_B ?_) | (with_reducible refine stop_buildSlice ?_))
      go_loop [3, 14] (fun d i => ∃ j : Nat, j ≤ 8 ∧ i = .int .i64 j ∧ d = .int .u32 ((stepBits c y j).toNat : Int)) (fun _ i => 8 - (intOf i).toNat)
      case atStart => exact ⟨0, Nat.zero_le _, rfl, rfl⟩
      case round =>
        obtain ⟨j, hj, rfl, rfl⟩ := hrel
        by_cases hlt : j < 8
        · go_wp2_with (first | ((with_reducible apply wpList_unguard); rfl) | ((with_reducible apply len_B); assumption) | ((with_reducible apply len_BB); assumption)  | (with_reducible refine stop_builtin ?_) | (with_reducible refine stop_slice ?_) | (with_reducible refine stop_index_B ?_) | (with_reducible refine stop_index_BB ?_)  | (with_reducible refine stop_str_B ?_) | (with_reducible refine stop_mark_B ?_) | (with_reducible refine stop_buildSlice ?_))
          all_goals
            go_round
            case rel => exact ⟨j + 1, by omega, by go_num, by first | (rw [bit_yes _ y j ‹_›]; rfl) | (rw [bit_no _ y j ‹_›]; rfl)⟩
            case measure => simp [intOf]; omega
        · go_wp2_with (first | ((with_reducible apply wpList_unguard); rfl) | ((with_reducible apply len_B); assumption) | ((with_reducible apply len_BB); assumption)  | (with_reducible refine stop_builtin ?_) | (with_reducible refine stop_slice ?_) | (with_reducible refine stop_index_B ?_) | (with_reducible refine stop_index_BB ?_)  | (with_reducible refine stop_str_B ?_) | (with_reducible refine stop_mark_B ?_) | (with_reducible refine stop_buildSlice ?_))
          go_round
          case rel =>
            obtain rfl : j = 8 := by omega
            refine ⟨k + 1, by omega, by go_num, ?_⟩
            rw [take_snoc l k y (by simpa using Hy.out), sumFrom_snoc, ← Hc.out]; rfl
          case measure => simp [intOf]; omega
    · go_wp2_with (first | ((with_reducible apply wpList_unguard); rfl) | ((with_reducible apply len_B); assumption) | ((with_reducible apply len_BB); assumption)  | (with_reducible refine stop_builtin ?_) | (with_reducible refine stop_slice ?_) | (with_reducible refine stop_index_B ?_) | (with_reducible refine stop_index_BB ?_)  | (with_reducible refine stop_str_B ?_) | (with_reducible refine stop_mark_B ?_) | (with_reducible refine stop_buildSlice ?_))
      go_ret
      refine ⟨?_, rfl⟩
      rw [List.take_of_length_le (by omega), not_toNat]; rfl

/-- Low -/
theorem low_any (w : World) (n : Nat) (k : Nat) (hn : n < 18446744073709551616) (hk : k ≤ 16) :
    Calls Tryd.prog 50 #[.int .u64 n, .int .i64 k] w fun e w' => ∃ v, e = .returned v ∧ OwnB w' w.heap.size (low n k) v ∧ Below w.heap.size w w' := by
  go_enter Tryd.func50, Tryd.ntmps50
  go_wp2_with (first | ((with_reducible apply wpList_unguard); rfl) | ((with_reducible apply len_B); assumption) | ((with_reducible apply len_BB); assumption)  | (with_reducible refine stop_builtin ?_) | (with_reducible refine stop_slice ?_) | (with_reducible refine stop_index_B ?_) | (with_reducible refine stop_index_BB ?_)  | (with_reducible refine stop_str_B ?_) | (with_reducible refine stop_mark_B ?_) | (with_reducible refine stop_buildSlice ?_))
  go_loopw [0, 5, 7] (fun m v i wr => ∃ (j : Nat) (m' : Nat) (l : List UInt8), j ≤ k ∧ m' < 18446744073709551616 ∧ i = .int .i64 j ∧ m = .int .u64 m' ∧ OwnB wr w.heap.size l v ∧ l ++ low m' (k - j) = low n k ∧ l.length = j ∧ Below w.heap.size w wr) (fun _ _ i _ => k - (intOf i).toNat)
  case atStart => exact ⟨0, n, [], by omega, hn, rfl, rfl, Own.nil _ _ _ _, by simp, rfl, Below.refl _ _⟩
  case round =>
    obtain ⟨j, m', l, hj, hm', rfl, rfl, hv, he, hlen, hb⟩ := hrel
    have He := Lib.hid he
    clear he
    have Hl := Lib.hid hlen
    clear hlen
    by_cases hlt : j < k
    · go_wp2_with (first | ((with_reducible apply wpList_unguard); rfl) | ((with_reducible apply len_B); assumption) | ((with_reducible apply len_BB); assumption)  | (with_reducible refine stop_builtin ?_) | (with_reducible refine stop_slice ?_) | (with_reducible refine stop_index_B ?_) | (with_reducible refine stop_index_BB ?_)  | (with_reducible refine stop_str_B ?_) | (with_reducible refine stop_mark_B ?_) | (with_reducible refine stop_buildSlice ?_))
      refine Stop.go (build_B [UInt8.ofNat (m' % 256)] [.int .u8 (↑m' % 256)] rfl rfl (by simp) (by simp) fun u w1 h1 h2 h3 h4 => ?_)
      have hs := hb.size
      go_wp2_with (first | ((with_reducible apply wpList_unguard); rfl) | ((with_reducible apply len_B); assumption) | ((with_reducible apply len_BB); assumption)  | (with_reducible refine stop_builtin ?_) | (with_reducible refine stop_slice ?_) | (with_reducible refine stop_index_B ?_) | (with_reducible refine stop_index_BB ?_)  | (with_reducible refine stop_str_B ?_) | (with_reducible refine stop_mark_B ?_) | (with_reducible refine stop_buildSlice ?_))
      refine Stop.go (app_B (hv.grown0 h2) h1.sl' (by have := Hl.out; simp; omega) (by omega) fun v' w2 h5 h6 h7 => ?_)
      have hb2 := (hb.grown0 h2 hb.size).grown h6 (by omega) (fun k hk => (hv.ge k hk).1)
      go_wp2_with (first | ((with_reducible apply wpList_unguard); rfl) | ((with_reducible apply len_B); assumption) | ((with_reducible apply len_BB); assumption)  | (with_reducible refine stop_builtin ?_) | (with_reducible refine stop_slice ?_) | (with_reducible refine stop_index_B ?_) | (with_reducible refine stop_index_BB ?_)  | (with_reducible refine stop_str_B ?_) | (with_reducible refine stop_mark_B ?_) | (with_reducible refine stop_buildSlice ?_))
      go_roundw
      case rel =>
        refine ⟨j + 1, m' / 256, _, by omega, by omega, by go_num, by go_num, h5, ?_, by simp [Hl.out], hb2⟩
        rw [← He.out, show k - j = (k - (j + 1)) + 1 by omega]
        simp [low]
      case measure => simp [intOf]; omega
    · go_wp2_with (first | ((with_reducible apply wpList_unguard); rfl) | ((with_reducible apply len_B); assumption) | ((with_reducible apply len_BB); assumption)  | (with_reducible refine stop_builtin ?_) | (with_reducible refine stop_slice ?_) | (with_reducible refine stop_index_B ?_) | (with_reducible refine stop_index_BB ?_)  | (with_reducible refine stop_str_B ?_) | (with_reducible refine stop_mark_B ?_) | (with_reducible refine stop_buildSlice ?_))
      go_ret
      refine ⟨_, rfl, ?_, hb⟩
      have : k - j = 0 := by omega
      rw [← He.out, this]
      simpa [low] using hv

/-- Num, of at most eight bytes -/
theorem num_any (w : World) (S : Nat → Prop) (l : List UInt8) (p : Value) (hp : Sl w S l p) (hl : l.length ≤ 8) :
    Calls Tryd.prog 72 #[p] w fun e w' => e = .returned (.int .u64 (num l : Int)) ∧ w = w' := by
  go_enter Tryd.func72, Tryd.ntmps72
  go_wp2_with (first | ((with_reducible apply wpList_unguard); rfl) | ((with_reducible apply len_B); assumption) | ((with_reducible apply len_BB); assumption)  | (with_reducible refine stop_builtin ?_) | (with_reducible refine stop_slice ?_) | (with_reducible refine stop_index_B ?_) | (with_reducible refine stop_index_BB ?_)  | (with_reducible refine stop_str_B ?_) | (with_reducible refine stop_mark_B ?_) | (with_reducible refine stop_buildSlice ?_))
  go_loop [3, 4] (fun m i => ∃ (j : Nat), j ≤ l.length ∧ i = .int .i64 ((j : Int) - 1) ∧ m = .int .u64 (num (l.drop j) : Int)) (fun _ i => (intOf i + 1).toNat)
  case atStart => exact ⟨l.length, by omega, by simp, by simp [num]⟩
  case round =>
    obtain ⟨j, hj, rfl, rfl⟩ := hrel
    by_cases hlt : 0 < j
    · obtain ⟨m, hm⟩ : ∃ m, m = num (l.drop j) := ⟨_, rfl⟩
      have hm2 := num_small (l.drop j) (by simp; omega)
      rw [← hm] at hm2 ⊢
      have Hm := Lib.hid hm
      clear hm
      go_wp2_with (first | ((with_reducible apply wpList_unguard); rfl) | ((with_reducible apply len_B); assumption) | ((with_reducible apply len_BB); assumption)  | (with_reducible refine stop_builtin ?_) | (with_reducible refine stop_slice ?_) | (with_reducible refine stop_index_B ?_) | (with_reducible refine stop_index_BB ?_)  | (with_reducible refine stop_str_B ?_) | (with_reducible refine stop_mark_B ?_) | (with_reducible refine stop_buildSlice ?_))
      refine Stop.go (idx_B hp rfl (by omega) (by omega) fun b o y hy hc => ?_)
      have Hy := Lib.hid hy
      clear hy
      have hy2 := y.toNat_lt
      go_wp2_with (first | ((with_reducible apply wpList_unguard); rfl) | ((with_reducible apply len_B); assumption) | ((with_reducible apply len_BB); assumption)  | (with_reducible refine stop_builtin ?_) | (with_reducible refine stop_slice ?_) | (with_reducible refine stop_index_B ?_) | (with_reducible refine stop_index_BB ?_)  | (with_reducible refine stop_str_B ?_) | (with_reducible refine stop_mark_B ?_) | (with_reducible refine stop_buildSlice ?_))
      go_round
      case rel =>
        refine ⟨j - 1, by omega, by go_num, ?_⟩
        rw [num_drop l (j - 1) y (by have := Hy.out; rwa [show ((j : Int) - 1).toNat = j - 1 by omega] at this), show j - 1 + 1 = j by omega, ← Hm.out]
        go_num
      case measure => simp [intOf]; omega
    · go_wp2_with (first | ((with_reducible apply wpList_unguard); rfl) | ((with_reducible apply len_B); assumption) | ((with_reducible apply len_BB); assumption)  | (with_reducible refine stop_builtin ?_) | (with_reducible refine stop_slice ?_) | (with_reducible refine stop_index_B ?_) | (with_reducible refine stop_index_BB ?_)  | (with_reducible refine stop_str_B ?_) | (with_reducible refine stop_mark_B ?_) | (with_reducible refine stop_buildSlice ?_))
      go_ret
      refine ⟨?_, rfl⟩
      obtain rfl : j = 0 := by omega
      rfl

/-- Frame, of what is not too long -/
theorem rframe_any (w : World) (S : Nat → Prop) (l : List UInt8) (p : Value) (hp : Sl w S l p) (hl : l.length ≤ 4096) :
    Calls Tryd.prog 22 #[p] w fun e w' => ∃ v, e = .returned (.tuple #[v, .int .i64 0]) ∧ OwnB w' w.heap.size (frame l) v ∧ Below w.heap.size w w' := by
  have hlow := low_len l.length 2
  go_enter Tryd.func22, Tryd.ntmps22
  go_wp2_with (first | ((with_reducible apply wpList_unguard); rfl) | ((with_reducible apply len_B); assumption) | ((with_reducible apply len_BB); assumption)  | (with_reducible refine stop_builtin ?_) | (with_reducible refine stop_slice ?_) | (with_reducible refine stop_index_B ?_) | (with_reducible refine stop_index_BB ?_)  | (with_reducible refine stop_str_B ?_) | (with_reducible refine stop_mark_B ?_) | (with_reducible refine stop_buildSlice ?_))
  refine (low_any w l.length 2 (by omega) (by omega)).mono ?_
  rintro e w1 ⟨v, rfl, hv, hb⟩
  have hs := hb.size
  go_wp2_with (first | ((with_reducible apply wpList_unguard); rfl) | ((with_reducible apply len_B); assumption) | ((with_reducible apply len_BB); assumption)  | (with_reducible refine stop_builtin ?_) | (with_reducible refine stop_slice ?_) | (with_reducible refine stop_index_B ?_) | (with_reducible refine stop_index_BB ?_)  | (with_reducible refine stop_str_B ?_) | (with_reducible refine stop_mark_B ?_) | (with_reducible refine stop_buildSlice ?_))
  refine Stop.go (app_B hv (hp.below hb (Nat.le_refl _)) (by omega) (by omega) fun v' w2 h5 h6 h7 => ?_)
  have hb2 := hb.grown h6 (by omega) (fun k hk => (hv.ge k hk).1)
  have hs2 := hb2.size
  go_wp2_with (first | ((with_reducible apply wpList_unguard); rfl) | ((with_reducible apply len_B); assumption) | ((with_reducible apply len_BB); assumption)  | (with_reducible refine stop_builtin ?_) | (with_reducible refine stop_slice ?_) | (with_reducible refine stop_index_B ?_) | (with_reducible refine stop_index_BB ?_)  | (with_reducible refine stop_str_B ?_) | (with_reducible refine stop_mark_B ?_) | (with_reducible refine stop_buildSlice ?_))
  have hr : Sl w2 (fun b => w.heap.size ≤ b) (framed l) v' := h5.sl'
  refine (rsum_any w2 _ _ v' hr).mono ?_
  rintro e w3 ⟨rfl, rfl⟩
  go_wp2_with (first | ((with_reducible apply wpList_unguard); rfl) | ((with_reducible apply len_B); assumption) | ((with_reducible apply len_BB); assumption)  | (with_reducible refine stop_builtin ?_) | (with_reducible refine stop_slice ?_) | (with_reducible refine stop_index_B ?_) | (with_reducible refine stop_index_BB ?_)  | (with_reducible refine stop_str_B ?_) | (with_reducible refine stop_mark_B ?_) | (with_reducible refine stop_buildSlice ?_))
  refine (low_any w2 (sum (framed l)).toNat 4 (by have := (sum (framed l)).isLt; omega) (by omega)).mono ?_
  rintro e w3 ⟨u, rfl, hu, hb3⟩
  have hs3 := hb3.size
  go_wp2_with (first | ((with_reducible apply wpList_unguard); rfl) | ((with_reducible apply len_B); assumption) | ((with_reducible apply len_BB); assumption)  | (with_reducible refine stop_builtin ?_) | (with_reducible refine stop_slice ?_) | (with_reducible refine stop_index_B ?_) | (with_reducible refine stop_index_BB ?_)  | (with_reducible refine stop_str_B ?_) | (with_reducible refine stop_mark_B ?_) | (with_reducible refine stop_buildSlice ?_))
  refine Stop.go (app_B hu (hr.below hb3 (Nat.le_refl _)) (by simp [framed, low_len]; omega) (by omega) fun v'' w4 h8 h9 h10 => ?_)
  have hb4 := (hb2.trans (hb3.mono hs2)).grown h9 (by omega) (fun k hk => by have := (hu.ge k hk).1; omega)
  go_wp2_with (first | ((with_reducible apply wpList_unguard); rfl) | ((with_reducible apply len_B); assumption) | ((with_reducible apply len_BB); assumption)  | (with_reducible refine stop_builtin ?_) | (with_reducible refine stop_slice ?_) | (with_reducible refine stop_index_B ?_) | (with_reducible refine stop_index_BB ?_)  | (with_reducible refine stop_str_B ?_) | (with_reducible refine stop_mark_B ?_) | (with_reducible refine stop_buildSlice ?_))
  go_ret2
  exact ⟨v'', rfl, h8.rebase (fun b hb => by have := (h8.ge b hb).1; omega), hb4⟩

def NextPost (w : World) (l : List UInt8) (e : Ending) (w' : World) : Prop :=
  ∃ v1 v2, e = .returned (.tuple #[v1, v2, .int .i64 (next l).2.2]) ∧ Sl w' (fun b => w.heap.size ≤ b) (next l).1 v1 ∧ Sl w' (fun b => w.heap.size ≤ b) (next l).2.1 v2 ∧ Below w.heap.size w w'

theorem NextPost.bad {w w' : World} {l : List UInt8} {c : Int} (h : next l = ([], [], c)) (hb : Below w.heap.size w w') : NextPost w l (.returned (.tuple #[.slice none 0 0, .slice none 0 0, .int .i64 c])) w' :=
  ⟨_, _, by rw [h], by rw [h]; exact Sl.nil _ _, by rw [h]; exact Sl.nil _ _, hb⟩

/-- Next -/
theorem rnext_any (w : World) (S : Nat → Prop) (l : List UInt8) (p : Value) (hp : Sl w S l p) (hl : l.length ≤ 140737488355328) :
    Calls Tryd.prog 46 #[p] w (NextPost w l) := by
  by_cases h6 : l.length < 6
  · go_enter Tryd.func46, Tryd.ntmps46
    go_wp2_with (first | ((with_reducible apply wpList_unguard); rfl) | ((with_reducible apply len_B); assumption) | ((with_reducible apply len_BB); assumption)  | (with_reducible refine stop_builtin ?_) | (with_reducible refine stop_slice ?_) | (with_reducible refine stop_index_B ?_) | (with_reducible refine stop_index_BB ?_)  | (with_reducible refine stop_str_B ?_) | (with_reducible refine stop_mark_B ?_) | (with_reducible refine stop_buildSlice ?_))
    go_ret3
    exact NextPost.bad (by rw [next, if_pos h6]) (Below.refl _ _)
  · obtain ⟨n, hn⟩ : ∃ n, n = num ((l.take 6).drop 4) := ⟨_, rfl⟩
    have hn2 : n < 65536 := by
      have := num_lt ((l.take 6).drop 4)
      have h2 : ((l.take 6).drop 4).length = 2 := by simp; omega
      rw [h2, ← hn] at this
      exact this
    have Hn := Lib.hid hn
    go_enter Tryd.func46, Tryd.ntmps46
    clear hn
    go_wp2_with (first | ((with_reducible apply wpList_unguard); rfl) | ((with_reducible apply len_B); assumption) | ((with_reducible apply len_BB); assumption)  | (with_reducible refine stop_builtin ?_) | (with_reducible refine stop_slice ?_) | (with_reducible refine stop_index_B ?_) | (with_reducible refine stop_index_BB ?_)  | (with_reducible refine stop_str_B ?_) | (with_reducible refine stop_mark_B ?_) | (with_reducible refine stop_buildSlice ?_))
    refine Stop.go (wpList_slice_lh rowB hp rfl rfl (by omega) (by omega) (by omega) fun u hu => ?_)
    go_wp2_with (first | ((with_reducible apply wpList_unguard); rfl) | ((with_reducible apply len_B); assumption) | ((with_reducible apply len_BB); assumption)  | (with_reducible refine stop_builtin ?_) | (with_reducible refine stop_slice ?_) | (with_reducible refine stop_index_B ?_) | (with_reducible refine stop_index_BB ?_)  | (with_reducible refine stop_str_B ?_) | (with_reducible refine stop_mark_B ?_) | (with_reducible refine stop_buildSlice ?_))
    refine (num_any w S _ u hu (by simp; omega)).mono ?_
    rintro e w1 ⟨rfl, rfl⟩
    rw [show (num (List.drop (Int.toNat 4) (List.take (Int.toNat 6) l)) : Int) = (n : Int) by rw [Hn.out]; rfl]
    by_cases hbig : 4096 < n
    · go_wp2_with (first | ((with_reducible apply wpList_unguard); rfl) | ((with_reducible apply len_B); assumption) | ((with_reducible apply len_BB); assumption)  | (with_reducible refine stop_builtin ?_) | (with_reducible refine stop_slice ?_) | (with_reducible refine stop_index_B ?_) | (with_reducible refine stop_index_BB ?_)  | (with_reducible refine stop_str_B ?_) | (with_reducible refine stop_mark_B ?_) | (with_reducible refine stop_buildSlice ?_))
      go_ret3
      exact NextPost.bad (by rw [next, if_neg h6, ← Hn.out, if_pos hbig]) (Below.refl _ _)
    · by_cases hsh : l.length < 6 + n
      · go_wp2_with (first | ((with_reducible apply wpList_unguard); rfl) | ((with_reducible apply len_B); assumption) | ((with_reducible apply len_BB); assumption)  | (with_reducible refine stop_builtin ?_) | (with_reducible refine stop_slice ?_) | (with_reducible refine stop_index_B ?_) | (with_reducible refine stop_index_BB ?_)  | (with_reducible refine stop_str_B ?_) | (with_reducible refine stop_mark_B ?_) | (with_reducible refine stop_buildSlice ?_))
        go_ret3
        exact NextPost.bad (by rw [next, if_neg h6, ← Hn.out, if_neg hbig, if_pos hsh]) (Below.refl _ _)
      · obtain ⟨v1, hv1, hs1⟩ := hp.slice_run (P := Tryd.prog) rowB .i64 .i64 4 (6 + n) (by omega) (by omega) (by omega)
        obtain ⟨v2, hv2, hs2⟩ := hp.slice_run_h (P := Tryd.prog) rowB .i64 4 (by omega) (by omega)
        go_wp2_with (first | ((with_reducible apply wpList_unguard); rfl) | ((with_reducible apply len_B); assumption) | ((with_reducible apply len_BB); assumption)  | (with_reducible refine stop_builtin ?_) | (with_reducible refine stop_slice ?_) | (with_reducible refine stop_index_B ?_) | (with_reducible refine stop_index_BB ?_)  | (with_reducible refine stop_str_B ?_) | (with_reducible refine stop_mark_B ?_) | (with_reducible refine stop_buildSlice ?_))
        have hw1 : IntKind.i64.wrap (6 + (n : Int)) = 6 + n := IntWalk.i64_in _ (by omega)
        go_quiet (first | (go_at_call 51; exact quiet_same (rsum_any _ S _ v1 (hs1.drewN _))) | (go_at_call 72; exact quiet_same (num_any _ S _ v2 (hs2.drewN _) (by simp; omega))))
        clear hw1 hv1 hv2
        rw [show (List.drop (Int.toNat 4) (List.take (Int.toNat (6 + (n : Int))) l)) = (l.take (6 + n)).drop 4 by rw [show Int.toNat (6 + (n : Int)) = 6 + n by omega]; rfl, show List.take (Int.toNat 4) l = l.take 4 from rfl]
        obtain ⟨s1, hs1'⟩ : ∃ s1, s1 = (sum ((l.take (6 + n)).drop 4)).toNat := ⟨_, rfl⟩
        obtain ⟨m1, hm1⟩ : ∃ m1, m1 = num (l.take 4) := ⟨_, rfl⟩
        rw [← hs1', ← hm1]
        have Hs1 := Lib.hid hs1'
        have Hm1 := Lib.hid hm1
        clear hs1' hm1
        by_cases hsum : s1 = m1
        · have hc : ((s1 : Int) != (m1 : Int)) = false := by simp [hsum]
          have Hsum := Lib.hid hsum
          clear hsum
          obtain ⟨v3, hv3, hs3⟩ := hp.slice_run (P := Tryd.prog) rowB .i64 .i64 6 (6 + n) (by omega) (by omega) (by omega)
          obtain ⟨v4, hv4, hs4⟩ := hp.slice_run_l (P := Tryd.prog) rowB .i64 (6 + n) (by omega) (by omega)
          go_wp2_with (first | ((with_reducible apply wpList_unguard); rfl) | ((with_reducible apply len_B); assumption) | ((with_reducible apply len_BB); assumption)  | (with_reducible refine stop_builtin ?_) | (with_reducible refine stop_slice ?_) | (with_reducible refine stop_index_B ?_) | (with_reducible refine stop_index_BB ?_)  | (with_reducible refine stop_str_B ?_) | (with_reducible refine stop_mark_B ?_) | (with_reducible refine stop_buildSlice ?_))
          have hb1 := below_draws w.heap.size w nq
          replace hs3 := hs3.drewN nq
          replace hs4 := hs4.drewN nq
          have hz1 : w.heap.size = (w.drewN nq).heap.size := rfl
          clear hs1 hs2 hu
          generalize w.drewN nq = w1 at *
          have hw1 : IntKind.i64.wrap (6 + (n : Int)) = 6 + n := IntWalk.i64_in _ (by omega)
          go_region_with (first
            | (go_at_call_of 18 v3; refine (copy_any w1.drew S _ v3 hs3.drew (by simp; omega)).mono ?_; rintro e w2 ⟨u3, rfl, hu3, hb2⟩; have hs4' := hs4.drew.below hb2 (Nat.le_refl _))
            | (go_at_call_of 18 v4; refine (copy_any _ S _ v4 hs4' (by simp; omega)).mono ?_; rintro e w3 ⟨u4, rfl, hu4, hb3⟩))
          all_goals
            go_wp2_with (first | ((with_reducible apply wpList_unguard); rfl) | ((with_reducible apply len_B); assumption) | ((with_reducible apply len_BB); assumption)  | (with_reducible refine stop_builtin ?_) | (with_reducible refine stop_slice ?_) | (with_reducible refine stop_index_B ?_) | (with_reducible refine stop_index_BB ?_)  | (with_reducible refine stop_str_B ?_) | (with_reducible refine stop_mark_B ?_) | (with_reducible refine stop_buildSlice ?_))
            go_ret3
            have hnx : next l = ((l.take (6 + n)).drop 6, l.drop (6 + n), 0) := by
              rw [next, if_neg h6, ← Hn.out, if_neg hbig, if_neg hsh, ← Hs1.out, ← Hm1.out, if_neg (by have := Hsum.out; omega)]
            have z2 := hb2.size
            have z3 := hb3.size
            have e1 : (6 + (n : Int)).toNat = 6 + n := by omega
            rw [e1] at hu3 hu4
            refine ⟨u3, u4, by rw [hnx]; rfl, ?_, ?_, ?_⟩
            · rw [hnx]; exact ((hu3.below hb3 (Nat.le_refl _)).sl').wide fun b hb _ => by simp at hb ⊢; omega
            · rw [hnx]; exact hu4.sl'.wide fun b hb _ => by simp at z2; omega
            · simp at z2
              exact (hb1.drew.trans (hb2.mono (by simp; omega))).trans (hb3.mono (by omega))
        · have hc : ((s1 : Int) != (m1 : Int)) = true := by simp; omega
          go_wp2_with (first | ((with_reducible apply wpList_unguard); rfl) | ((with_reducible apply len_B); assumption) | ((with_reducible apply len_BB); assumption)  | (with_reducible refine stop_builtin ?_) | (with_reducible refine stop_slice ?_) | (with_reducible refine stop_index_B ?_) | (with_reducible refine stop_index_BB ?_)  | (with_reducible refine stop_str_B ?_) | (with_reducible refine stop_mark_B ?_) | (with_reducible refine stop_buildSlice ?_))
          go_ret3
          exact NextPost.bad (by rw [next, if_neg h6, ← Hn.out, if_neg hbig, if_neg hsh, ← Hs1.out, ← Hm1.out, if_pos hsum]) (below_draws _ w _)

end Go.Proofs.YtnkbfelnggompaaDoor
