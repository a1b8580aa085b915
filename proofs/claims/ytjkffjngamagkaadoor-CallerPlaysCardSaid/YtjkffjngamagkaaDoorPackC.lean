/- PackC: several texts in one. -/
import Derived.Test.YtjkffjngamagkaaDoorPackA
/- armillaryref01: Copy, Same, Cut. -/
namespace Go.Proofs.YtjkffjngamagkaaDoor
open Go Go.RowKit Go.Arm
theorem copy_any (w : World) (S : Nat → Prop) (l : List UInt8) (p : Value) (hp : Sl w S l p) (hl : l.length ≤ 140737488355328) :
  Calls Tryd.prog 14 #[p] w fun e w' => ∃ v, e = .returned v ∧ OwnB w' w.heap.size l v ∧ Below w.heap.size w w' := by
 go_enter Tryd.func14, Tryd.ntmps14
 go_wp2_with (first | ((with_reducible apply ugZ); rfl) | ((with_reducible (first | apply len_B | apply len_BB)); assumption) | ((with_reducible refine stop_if kW ?_ ?_); rfl))
 refine Stop.go (empty_B fun v hv1 hv2 => ?_)
 have hb0 := (Below.refl w.heap.size w).alloc (Nat.le_refl _) (.cells #[] 5)
 have hp1 := hp.below hb0 (Nat.le_refl _)
 generalize w.alloc (.cells #[] 5) = w1 at *
 go_wp2_with (first | ((with_reducible apply ugZ); rfl) | ((with_reducible (first | apply len_B | apply len_BB)); assumption) | ((with_reducible refine stop_if kW ?_ ?_); rfl))
 refine Stop.go (app_B (l := []) hv1 hp1 (by simpa using hl) hb0.size fun v' w2 h1 h2 h3 => ?_)
 have hb1 := hb0.grown h2 hb0.size (fun k hk => (hv1.ge k hk).1)
 go_wp2_with (first | ((with_reducible apply ugZ); rfl) | ((with_reducible (first | apply len_B | apply len_BB)); assumption) | ((with_reducible refine stop_if kW ?_ ?_); rfl))
 go_ret
 exact ⟨v', rfl, by simpa using h1, hb1⟩
theorem same_any (w : World) (S S' : Nat → Prop) (l m : List UInt8) (p q : Value) (hp : Sl w S l p) (hq : Sl w S' m q) :
  Calls Tryd.prog 18 #[p, q] w fun e w' => e = .returned (.bool (l == m)) ∧ w = w' := by
 go_enter Tryd.func18, Tryd.ntmps18
 go_wp2_with (first | ((with_reducible apply ugZ); rfl) | ((with_reducible (first | apply len_B | apply len_BB)); assumption) | ((with_reducible refine stop_if kW ?_ ?_); rfl))
 refine Stop.go (str_B hp ?_)
 go_wp2_with (first | ((with_reducible apply ugZ); rfl) | ((with_reducible (first | apply len_B | apply len_BB)); assumption) | ((with_reducible refine stop_if kW ?_ ?_); rfl))
 refine Stop.go (str_B hq ?_)
 go_wp2_with (first | ((with_reducible apply ugZ); rfl) | ((with_reducible (first | apply len_B | apply len_BB)); assumption) | ((with_reducible refine stop_if kW ?_ ?_); rfl))
 go_ret
 exact ⟨rfl, rfl⟩
end Go.Proofs.YtjkffjngamagkaaDoor
/- armillaryref01: the contracts. -/
namespace Go.Proofs.YtjkffjngamagkaaDoor
open Go Go.RowKit Go.Arm
theorem rsum_any (w : World) (S : Nat → Prop) (l : List UInt8) (p : Value) (hp : Sl w S l p) :
  Calls Tryd.prog 57 #[p] w fun e w' => e = .returned (.int .u32 ((sum l).toNat : Int)) ∧ w = w' := by
 have hm := hp.length_le
 unfold maxLen at hm
 go_enter Tryd.func57, Tryd.ntmps57
 go_wp2_with (first | ((with_reducible apply ugZ); rfl) | ((with_reducible (first | apply len_B | apply len_BB)); assumption) | ((with_reducible refine stop_if kW ?_ ?_); rfl))
 go_loop [3, 10] (fun c i => ∃ k : Nat, k ≤ l.length ∧ i = .int .i64 k ∧ c = .int .u32 ((sumFrom 0xffffffff#32 (l.take k)).toNat : Int)) (fun _ i => l.length - (intOf i).toNat)
 case atStart => exact ⟨0, Nat.zero_le _, rfl, rfl⟩
 case round =>
  obtain ⟨k, hk, rfl, rfl⟩ := hrel
  by_cases hlt : k < l.length
  ·go_wp2_with (first | ((with_reducible apply ugZ); rfl) | ((with_reducible (first | apply len_B | apply len_BB)); assumption) | ((with_reducible refine stop_if kW ?_ ?_); rfl))
   refine Stop.go (idx_B hp rfl (by omega) (by omega) fun b o y hy hc => ?_)
   have Hy := Lib.hid hy
   clear hy
   obtain ⟨c, hc0⟩ : ∃ c, c = sumFrom 0xffffffff#32 (l.take k) := ⟨_, rfl⟩
   rw [← hc0]
   have Hc := Lib.hid hc0
   clear hc0
   go_wp2_with (first | ((with_reducible apply ugZ); rfl) | ((with_reducible (first | apply len_B | apply len_BB)); assumption) | ((with_reducible refine stop_if kW ?_ ?_); rfl))
   go_loop [3, 14] (fun d i => ∃ j : Nat, j ≤ 8 ∧ i = .int .i64 j ∧ d = .int .u32 ((stepBits c y j).toNat : Int)) (fun _ i => 8 - (intOf i).toNat)
   case atStart => exact ⟨0, Nat.zero_le _, rfl, rfl⟩
   case round =>
    obtain ⟨j, hj, rfl, rfl⟩ := hrel
    by_cases hlt : j < 8
    ·go_wp2_with (first | ((with_reducible apply ugZ); rfl) | ((with_reducible (first | apply len_B | apply len_BB)); assumption) | ((with_reducible refine stop_if kW ?_ ?_); rfl))
     all_goals
      go_round
      case rel => exact ⟨j + 1, by omega, by go_num, by first | (rw [bit_yes _ y j ‹_›]; rfl) | (rw [bit_no _ y j ‹_›]; rfl)⟩
      case measure => simp [intOf]; omega
    ·go_wp2_with (first | ((with_reducible apply ugZ); rfl) | ((with_reducible (first | apply len_B | apply len_BB)); assumption) | ((with_reducible refine stop_if kW ?_ ?_); rfl))
     go_round
     case rel =>
      obtain rfl : j = 8 := by omega
      refine ⟨k + 1, by omega, by go_num, ?_⟩
      rw [take_snoc l k y (by simpa using Hy.out), sumFrom_snoc, ← Hc.out]; rfl
     case measure => simp [intOf]; omega
  ·go_wp2_with (first | ((with_reducible apply ugZ); rfl) | ((with_reducible (first | apply len_B | apply len_BB)); assumption) | ((with_reducible refine stop_if kW ?_ ?_); rfl))
   go_ret
   refine ⟨?_, rfl⟩
   rw [List.take_of_length_le (by omega), not_toNat]; rfl
theorem low_any (w : World) (n : Nat) (k : Nat) (hn : n < 18446744073709551616) (hk : k ≤ 16) :
  Calls Tryd.prog 56 #[.int .u64 n, .int .i64 k] w fun e w' => ∃ v, e = .returned v ∧ OwnB w' w.heap.size (low n k) v ∧ Below w.heap.size w w' := by
 go_enter Tryd.func56, Tryd.ntmps56
 go_wp2_with (first | ((with_reducible apply ugZ); rfl) | ((with_reducible (first | apply len_B | apply len_BB)); assumption) | ((with_reducible refine stop_if kW ?_ ?_); rfl))
 go_loopw [0, 5, 7] (fun m v i wr => ∃ (j : Nat) (m' : Nat) (l : List UInt8), j ≤ k ∧ m' < 18446744073709551616 ∧ i = .int .i64 j ∧ m = .int .u64 m' ∧ OwnB wr w.heap.size l v ∧ l ++ low m' (k - j) = low n k ∧ l.length = j ∧ Below w.heap.size w wr) (fun _ _ i _ => k - (intOf i).toNat)
 case atStart => exact ⟨0, n, [], by omega, hn, rfl, rfl, Own.nil _ _ _ _, by simp, rfl, Below.refl _ _⟩
 case round =>
  obtain ⟨j, m', l, hj, hm', rfl, rfl, hv, he, hlen, hb⟩ := hrel
  have He := Lib.hid he
  clear he
  have Hl := Lib.hid hlen
  clear hlen
  by_cases hlt : j < k
  ·go_wp2_with (first | ((with_reducible apply ugZ); rfl) | ((with_reducible (first | apply len_B | apply len_BB)); assumption) | ((with_reducible refine stop_if kW ?_ ?_); rfl))
   refine Stop.go (build_B [UInt8.ofNat (m' % 256)] [.int .u8 (↑m' % 256)] rfl rfl (by simp) (by simp) fun u w1 h1 h2 h3 h4 => ?_)
   have hs := hb.size
   go_wp2_with (first | ((with_reducible apply ugZ); rfl) | ((with_reducible (first | apply len_B | apply len_BB)); assumption) | ((with_reducible refine stop_if kW ?_ ?_); rfl))
   refine Stop.go (app_B (hv.grown0 h2) h1.sl' (by have := Hl.out; simp; omega) (by omega) fun v' w2 h5 h6 h7 => ?_)
   have hb2 := (hb.grown0 h2 hb.size).grown h6 (by omega) (fun k hk => (hv.ge k hk).1)
   go_wp2_with (first | ((with_reducible apply ugZ); rfl) | ((with_reducible (first | apply len_B | apply len_BB)); assumption) | ((with_reducible refine stop_if kW ?_ ?_); rfl))
   go_roundw
   case rel =>
    refine ⟨j + 1, m' / 256, _, by omega, by omega, by go_num, by go_num, h5, ?_, by simp [Hl.out], hb2⟩
    rw [← He.out, show k - j = (k - (j + 1)) + 1 by omega]
    simp [low]
   case measure => simp [intOf]; omega
  ·go_wp2_with (first | ((with_reducible apply ugZ); rfl) | ((with_reducible (first | apply len_B | apply len_BB)); assumption) | ((with_reducible refine stop_if kW ?_ ?_); rfl))
   go_ret
   refine ⟨_, rfl, ?_, hb⟩
   have : k - j = 0 := by omega
   rw [← He.out, this]
   simpa [low] using hv
theorem num_any (w : World) (S : Nat → Prop) (l : List UInt8) (p : Value) (hp : Sl w S l p) (hl : l.length ≤ 8) :
  Calls Tryd.prog 92 #[p] w fun e w' => e = .returned (.int .u64 (num l : Int)) ∧ w = w' := by
 go_enter Tryd.func92, Tryd.ntmps92
 go_wp2_with (first | ((with_reducible apply ugZ); rfl) | ((with_reducible (first | apply len_B | apply len_BB)); assumption) | ((with_reducible refine stop_if kW ?_ ?_); rfl))
 go_loop [3, 4] (fun m i => ∃ (j : Nat), j ≤ l.length ∧ i = .int .i64 ((j : Int) - 1) ∧ m = .int .u64 (num (l.drop j) : Int)) (fun _ i => (intOf i + 1).toNat)
 case atStart => exact ⟨l.length, by omega, by simp, by simp [num]⟩
 case round =>
  obtain ⟨j, hj, rfl, rfl⟩ := hrel
  by_cases hlt : 0 < j
  ·obtain ⟨m, hm⟩ : ∃ m, m = num (l.drop j) := ⟨_, rfl⟩
   have hm2 := num_small (l.drop j) (by simp; omega)
   rw [← hm] at hm2 ⊢
   have Hm := Lib.hid hm
   clear hm
   go_wp2_with (first | ((with_reducible apply ugZ); rfl) | ((with_reducible (first | apply len_B | apply len_BB)); assumption) | ((with_reducible refine stop_if kW ?_ ?_); rfl))
   refine Stop.go (idx_B hp rfl (by omega) (by omega) fun b o y hy hc => ?_)
   have Hy := Lib.hid hy
   clear hy
   have hy2 := y.toNat_lt
   go_wp2_with (first | ((with_reducible apply ugZ); rfl) | ((with_reducible (first | apply len_B | apply len_BB)); assumption) | ((with_reducible refine stop_if kW ?_ ?_); rfl))
   go_round
   case rel =>
    refine ⟨j - 1, by omega, by go_num, ?_⟩
    rw [num_drop l (j - 1) y (by have := Hy.out; rwa [show ((j : Int) - 1).toNat = j - 1 by omega] at this), show j - 1 + 1 = j by omega, ← Hm.out]
    go_num
   case measure => simp [intOf]; omega
  ·go_wp2_with (first | ((with_reducible apply ugZ); rfl) | ((with_reducible (first | apply len_B | apply len_BB)); assumption) | ((with_reducible refine stop_if kW ?_ ?_); rfl))
   go_ret
   refine ⟨?_, rfl⟩
   obtain rfl : j = 0 := by omega
   rfl
theorem rframe_any (w : World) (S : Nat → Prop) (l : List UInt8) (p : Value) (hp : Sl w S l p) (hl : l.length ≤ 4096) :
  Calls Tryd.prog 19 #[p] w fun e w' => ∃ v, e = .returned (.tuple #[v, .int .i64 0]) ∧ OwnB w' w.heap.size (frame l) v ∧ Below w.heap.size w w' := by
 have hlow := low_len l.length 2
 go_enter Tryd.func19, Tryd.ntmps19
 go_wp2_with (first | ((with_reducible apply ugZ); rfl) | ((with_reducible (first | apply len_B | apply len_BB)); assumption) | ((with_reducible refine stop_if kW ?_ ?_); rfl))
 refine (low_any w l.length 2 (by omega) (by omega)).mono ?_
 rintro e w1 ⟨v, rfl, hv, hb⟩
 have hs := hb.size
 go_wp2_with (first | ((with_reducible apply ugZ); rfl) | ((with_reducible (first | apply len_B | apply len_BB)); assumption) | ((with_reducible refine stop_if kW ?_ ?_); rfl))
 refine Stop.go (app_B hv (hp.below hb (Nat.le_refl _)) (by omega) (by omega) fun v' w2 h5 h6 h7 => ?_)
 have hb2 := hb.grown h6 (by omega) (fun k hk => (hv.ge k hk).1)
 have hs2 := hb2.size
 go_wp2_with (first | ((with_reducible apply ugZ); rfl) | ((with_reducible (first | apply len_B | apply len_BB)); assumption) | ((with_reducible refine stop_if kW ?_ ?_); rfl))
 have hr : Sl w2 (fun b => w.heap.size ≤ b) (framed l) v' := h5.sl'
 refine (rsum_any w2 _ _ v' hr).mono ?_
 rintro e w3 ⟨rfl, rfl⟩
 go_wp2_with (first | ((with_reducible apply ugZ); rfl) | ((with_reducible (first | apply len_B | apply len_BB)); assumption) | ((with_reducible refine stop_if kW ?_ ?_); rfl))
 refine (low_any w2 (sum (framed l)).toNat 4 (by have := (sum (framed l)).isLt; omega) (by omega)).mono ?_
 rintro e w3 ⟨u, rfl, hu, hb3⟩
 have hs3 := hb3.size
 go_wp2_with (first | ((with_reducible apply ugZ); rfl) | ((with_reducible (first | apply len_B | apply len_BB)); assumption) | ((with_reducible refine stop_if kW ?_ ?_); rfl))
 refine Stop.go (app_B hu (hr.below hb3 (Nat.le_refl _)) (by simp [framed, low_len]; omega) (by omega) fun v'' w4 h8 h9 h10 => ?_)
 have hb4 := (hb2.trans (hb3.mono hs2)).grown h9 (by omega) (fun k hk => by have := (hu.ge k hk).1; omega)
 go_wp2_with (first | ((with_reducible apply ugZ); rfl) | ((with_reducible (first | apply len_B | apply len_BB)); assumption) | ((with_reducible refine stop_if kW ?_ ?_); rfl))
 go_ret2
 exact ⟨v'', rfl, h8.rebase (fun b hb => by have := (h8.ge b hb).1; omega), hb4⟩
def NextPost (w : World) (l : List UInt8) (e : Ending) (w' : World) : Prop :=
 ∃ v1 v2, e = .returned (.tuple #[v1, v2, .int .i64 (next l).2.2]) ∧ Sl w' (fun b => w.heap.size ≤ b) (next l).1 v1 ∧ Sl w' (fun b => w.heap.size ≤ b) (next l).2.1 v2 ∧ Below w.heap.size w w'
theorem NextPost.bad {w w' : World} {l : List UInt8} {c : Int} (h : next l = ([], [], c)) (hb : Below w.heap.size w w') : NextPost w l (.returned (.tuple #[.slice none 0 0, .slice none 0 0, .int .i64 c])) w' :=
 ⟨_, _, by rw [h], by rw [h]; exact Sl.nil _ _, by rw [h]; exact Sl.nil _ _, hb⟩
theorem rnext_any (w : World) (S : Nat → Prop) (l : List UInt8) (p : Value) (hp : Sl w S l p) (hl : l.length ≤ 140737488355328) :
  Calls Tryd.prog 48 #[p] w (NextPost w l) := by
 by_cases h6 : l.length < 6
 ·go_enter Tryd.func48, Tryd.ntmps48
  go_wp2_with (first | ((with_reducible apply ugZ); rfl) | ((with_reducible (first | apply len_B | apply len_BB)); assumption) | ((with_reducible refine stop_if kW ?_ ?_); rfl))
  go_ret3
  exact NextPost.bad (by rw [next, if_pos h6]) (Below.refl _ _)
 ·obtain ⟨n, hn⟩ : ∃ n, n = num ((l.take 6).drop 4) := ⟨_, rfl⟩
  have hn2 : n < 65536 := by
   have := num_lt ((l.take 6).drop 4)
   have h2 : ((l.take 6).drop 4).length = 2 := by simp; omega
   rw [h2, ← hn] at this
   exact this
  have Hn := Lib.hid hn
  go_enter Tryd.func48, Tryd.ntmps48
  clear hn
  go_wp2_with (first | ((with_reducible apply ugZ); rfl) | ((with_reducible (first | apply len_B | apply len_BB)); assumption) | ((with_reducible refine stop_if kW ?_ ?_); rfl))
  refine Stop.go (wpList_slice_lh rowB hp rfl rfl (by omega) (by omega) (by omega) fun u hu => ?_)
  go_wp2_with (first | ((with_reducible apply ugZ); rfl) | ((with_reducible (first | apply len_B | apply len_BB)); assumption) | ((with_reducible refine stop_if kW ?_ ?_); rfl))
  refine (num_any w S _ u hu (by simp; omega)).mono ?_
  rintro e w1 ⟨rfl, rfl⟩
  rw [show (num (List.drop (Int.toNat 4) (List.take (Int.toNat 6) l)) : Int) = (n : Int) by rw [Hn.out]; rfl]
  by_cases hbig : 4096 < n
  ·go_wp2_with (first | ((with_reducible apply ugZ); rfl) | ((with_reducible (first | apply len_B | apply len_BB)); assumption) | ((with_reducible refine stop_if kW ?_ ?_); rfl))
   go_ret3
   exact NextPost.bad (by rw [next, if_neg h6, ← Hn.out, if_pos hbig]) (Below.refl _ _)
  ·by_cases hsh : l.length < 6 + n
   ·go_wp2_with (first | ((with_reducible apply ugZ); rfl) | ((with_reducible (first | apply len_B | apply len_BB)); assumption) | ((with_reducible refine stop_if kW ?_ ?_); rfl))
    go_ret3
    exact NextPost.bad (by rw [next, if_neg h6, ← Hn.out, if_neg hbig, if_pos hsh]) (Below.refl _ _)
   ·obtain ⟨v1, hv1, hs1⟩ := hp.slice_run (P := Tryd.prog) rowB .i64 .i64 4 (6 + n) (by omega) (by omega) (by omega)
    obtain ⟨v2, hv2, hs2⟩ := hp.slice_run_h (P := Tryd.prog) rowB .i64 4 (by omega) (by omega)
    go_wp2_with (first | ((with_reducible apply ugZ); rfl) | ((with_reducible (first | apply len_B | apply len_BB)); assumption) | ((with_reducible refine stop_if kW ?_ ?_); rfl))
    have hw1 : IntKind.i64.wrap (6 + (n : Int)) = 6 + n := IntWalk.i64_in _ (by omega)
    go_quiet (first | (go_at_call 57; exact quiet_same (rsum_any _ S _ v1 (hs1.drewN _))) | (go_at_call 92; exact quiet_same (num_any _ S _ v2 (hs2.drewN _) (by simp; omega))))
    clear hw1 hv1 hv2
    rw [show (List.drop (Int.toNat 4) (List.take (Int.toNat (6 + (n : Int))) l)) = (l.take (6 + n)).drop 4 by rw [show Int.toNat (6 + (n : Int)) = 6 + n by omega]; rfl, show List.take (Int.toNat 4) l = l.take 4 from rfl]
    obtain ⟨s1, hs1'⟩ : ∃ s1, s1 = (sum ((l.take (6 + n)).drop 4)).toNat := ⟨_, rfl⟩
    obtain ⟨m1, hm1⟩ : ∃ m1, m1 = num (l.take 4) := ⟨_, rfl⟩
    rw [← hs1', ← hm1]
    have Hs1 := Lib.hid hs1'
    have Hm1 := Lib.hid hm1
    clear hs1' hm1
    by_cases hsum : s1 = m1
    ·have hc : ((s1 : Int) != (m1 : Int)) = false := by simp [hsum]
     have Hsum := Lib.hid hsum
     clear hsum
     obtain ⟨v3, hv3, hs3⟩ := hp.slice_run (P := Tryd.prog) rowB .i64 .i64 6 (6 + n) (by omega) (by omega) (by omega)
     obtain ⟨v4, hv4, hs4⟩ := hp.slice_run_l (P := Tryd.prog) rowB .i64 (6 + n) (by omega) (by omega)
     go_wp2_with (first | ((with_reducible apply ugZ); rfl) | ((with_reducible (first | apply len_B | apply len_BB)); assumption) | ((with_reducible refine stop_if kW ?_ ?_); rfl))
     have hb1 := below_draws w.heap.size w nq
     replace hs3 := hs3.drewN nq
     replace hs4 := hs4.drewN nq
     have hz1 : w.heap.size = (w.drewN nq).heap.size := rfl
     clear hs1 hs2 hu
     generalize w.drewN nq = w1 at *
     have hw1 : IntKind.i64.wrap (6 + (n : Int)) = 6 + n := IntWalk.i64_in _ (by omega)
     go_region_with (first
      | (go_at_call_of 14 v3; refine (copy_any w1.drew S _ v3 hs3.drew (by simp; omega)).mono ?_; rintro e w2 ⟨u3, rfl, hu3, hb2⟩; have hs4' := hs4.drew.below hb2 (Nat.le_refl _))
      | (go_at_call_of 14 v4; refine (copy_any _ S _ v4 hs4' (by simp; omega)).mono ?_; rintro e w3 ⟨u4, rfl, hu4, hb3⟩))
     all_goals
      go_wp2_with (first | ((with_reducible apply ugZ); rfl) | ((with_reducible (first | apply len_B | apply len_BB)); assumption) | ((with_reducible refine stop_if kW ?_ ?_); rfl))
      go_ret3
      have hnx : next l = ((l.take (6 + n)).drop 6, l.drop (6 + n), 0) := by
       rw [next, if_neg h6, ← Hn.out, if_neg hbig, if_neg hsh, ← Hs1.out, ← Hm1.out, if_neg (by have := Hsum.out; omega)]
      have z2 := hb2.size
      have z3 := hb3.size
      have e1 : (6 + (n : Int)).toNat = 6 + n := by omega
      rw [e1] at hu3 hu4
      refine ⟨u3, u4, by rw [hnx]; rfl, ?_, ?_, ?_⟩
      ·rw [hnx]; exact ((hu3.below hb3 (Nat.le_refl _)).sl').wide fun b hb _ => by simp at hb ⊢; omega
      ·rw [hnx]; exact hu4.sl'.wide fun b hb _ => by simp at z2; omega
      ·simp at z2
       exact (hb1.drew.trans (hb2.mono (by simp; omega))).trans (hb3.mono (by omega))
    ·have hc : ((s1 : Int) != (m1 : Int)) = true := by simp; omega
     go_wp2_with (first | ((with_reducible apply ugZ); rfl) | ((with_reducible (first | apply len_B | apply len_BB)); assumption) | ((with_reducible refine stop_if kW ?_ ?_); rfl))
     go_ret3
     exact NextPost.bad (by rw [next, if_neg h6, ← Hn.out, if_neg hbig, if_neg hsh, ← Hs1.out, ← Hm1.out, if_pos hsum]) (below_draws _ w _)
end Go.Proofs.YtjkffjngamagkaaDoor
/- armillaryref01.Turn: the contract. -/
namespace Go.Proofs.YtjkffjngamagkaaDoor
open Go Go.RowKit Go.Arm
end Go.Proofs.YtjkffjngamagkaaDoor
/- bytes.Join, with nothing between. -/
namespace Go.Proofs.YtjkffjngamagkaaDoor
open Go Go.RowKit Go.Arm
theorem makeNoZero_run (w : World) (n : Nat) (hn : n ≤ 281474976710656) : ∃ cs : Array Value, (callFunc 113 #[.int .i64 (n : Int)]).run Tryd.prog w = .ok (.value (.slice (some ⟨w.heap.size, 0, none⟩) n cs.size)) (w.drew.drew.alloc (.cells cs 5)) ∧ n ≤ cs.size := by
 obtain ⟨cs, hrun, hle, _⟩ := Lib.run_makeNoZero (P := Tryd.prog) w #[3] 22 5 Tryd.underlying22 n hn
 refine ⟨cs, ?_, hle⟩
 rw [run_callFunc_extern Tryd.func113 (by kernel_rfl) (by kernel_rfl) (by kernel_rfl) (e := Extern.BytealgMakeNoZero.makeNoZero #[3] #[22]) (by kernel_rfl), hrun]
 rfl
set_option maxRecDepth 100000 in
theorem join_any (w : World) (S : Nat → Prop) (ll : List (List UInt8)) (p : Value) (hp : Sl w S ll p) (hl : ll.length ≤ 1000000) (hf : ll.flatten.length ≤ 1099511627776) :
  Calls Tryd.prog 96 #[p, .slice none 0 0] w fun e w' => ∃ v, e = .returned v ∧ OwnB w' w.heap.size ll.flatten v ∧ Below w.heap.size w w' := by
 rcases ll with _ | ⟨l0, ll⟩
 ·go_enter Tryd.func96, Tryd.ntmps96
  go_wp2_with (first | ((with_reducible apply ugZ); rfl) | ((with_reducible (first | apply len_B | apply len_BB)); assumption) | ((with_reducible refine stop_if kW ?_ ?_); rfl))
  refine Stop.go (empty_B fun v hv1 hv2 => ?_)
  have hb0 := (Below.refl w.heap.size w).alloc (Nat.le_refl _) (.cells #[] 5)
  generalize w.alloc (.cells #[] 5) = w1 at *
  go_wp2_with (first | ((with_reducible apply ugZ); rfl) | ((with_reducible (first | apply len_B | apply len_BB)); assumption) | ((with_reducible refine stop_if kW ?_ ?_); rfl))
  go_ret
  exact ⟨v, rfl, hv1, hb0⟩
 ·rcases ll with _ | ⟨l1, ll⟩
  ·have hlen : (([l0] : List (List UInt8)).length : Int) = 1 := rfl
   go_enter Tryd.func96, Tryd.ntmps96
   go_wp2_with (first | ((with_reducible apply ugZ); rfl) | ((with_reducible (first | apply len_B | apply len_BB)); assumption) | ((with_reducible refine stop_if kW ?_ ?_); rfl))
   refine Stop.go (idx_BB hp rfl (by omega) (by simp) fun b o y u hy hq hc => ?_)
   obtain rfl : l0 = y := by simpa using hy
   clear hy
   go_wp2_with (first | ((with_reducible apply ugZ); rfl) | ((with_reducible (first | apply len_B | apply len_BB)); assumption) | ((with_reducible refine stop_if kW ?_ ?_); rfl))
   refine Stop.go (app_B (l := []) (B := w.heap.size) (Own.nil _ _ _ _) hq (by simp at hf ⊢; omega) (Nat.le_refl _) fun v' w2 h1 h2 h3 => ?_)
   go_wp2_with (first | ((with_reducible apply ugZ); rfl) | ((with_reducible (first | apply len_B | apply len_BB)); assumption) | ((with_reducible refine stop_if kW ?_ ?_); rfl))
   go_ret
   exact ⟨v', rfl, by simpa using h1, below_of_grown h2 (Nat.le_refl _) (fun k hk => by cases hk)⟩
  ·obtain ⟨lt, hlt⟩ : ∃ lt, lt = l1 :: ll := ⟨_, rfl⟩
   rw [← hlt] at hp hl hf ⊢
   have hl2 : 0 < lt.length := by rw [hlt]; simp
   clear hlt
   obtain ⟨la, hla⟩ : ∃ la, la = l0 :: lt := ⟨_, rfl⟩
   have hla2 : la.length = lt.length + 1 := by rw [hla]; simp
   rw [← hla] at hp hl hf ⊢
   have Hla := Lib.hid hla
   have Hla2 := Lib.hid hla2
   have hla3 : 2 ≤ la.length := by omega
   clear hla hla2 l1 ll
   have hz0 : ((la.length : Int) == 0) = false := beq_eq_false_iff_ne.2 (by omega)
   have hz1 : ((la.length : Int) == 1) = false := beq_eq_false_iff_ne.2 (by omega)
   obtain ⟨N, hN⟩ : ∃ N, N = la.flatten.length := ⟨_, rfl⟩
   rw [← hN] at hf
   have HN := Lib.hid hN
   clear hN
   have hsep : Sl w (fun _ => False) ([] : List UInt8) (.slice none 0 0) := Sl.nil w _
   replace hp := hp.old
   obtain ⟨cs, hcall, hcs⟩ := makeNoZero_run w N (by omega)
   go_enter Tryd.func96, Tryd.ntmps96
   go_wp2_with (first | ((with_reducible apply ugZ); rfl) | ((with_reducible (first | apply len_B | apply len_BB)); assumption) | ((with_reducible refine stop_if kW ?_ ?_); rfl))
   go_loop [5, 44] (fun n i => ∃ k : Nat, k ≤ la.length ∧ i = .int .i64 k ∧ n = .int .i64 ((la.take k).flatten.length : Int)) (fun _ i => la.length - (intOf i).toNat)
   case atStart => exact ⟨0, Nat.zero_le _, rfl, rfl⟩
   case round =>
    obtain ⟨k, hk, rfl, rfl⟩ := hrel
    by_cases hlt : k < la.length
    ·go_wp2_with (first | ((with_reducible apply ugZ); rfl) | ((with_reducible (first | apply len_B | apply len_BB)); assumption) | ((with_reducible refine stop_if kW ?_ ?_); rfl))
     refine Stop.go (idx_BB hp rfl (by omega) (by omega) fun b o y u hy hq hc => ?_)
     have hy' : la[k]? = some y := by simpa using hy
     have hsum : (la.take k).flatten.length + y.length ≤ N := flat_take_le la k y hy' N HN.out
     have Hy := Lib.hid hy'
     clear hy hy'
     obtain ⟨m, hm⟩ : ∃ m, m = (la.take k).flatten.length := ⟨_, rfl⟩
     rw [← hm] at hsum ⊢
     have Hm := Lib.hid hm
     clear hm
     go_wp2_with (first | ((with_reducible apply ugZ); rfl) | ((with_reducible (first | apply len_B | apply len_BB)); assumption) | ((with_reducible refine stop_if kW ?_ ?_); rfl))
     go_round
     case rel =>
      refine ⟨k + 1, by omega, by go_num, ?_⟩
      rw [take_snoc la k y Hy.out, List.flatten_append, List.length_append, ← Hm.out]
      simp
     case measure => simp [intOf]; omega
    ·have hk2 : k = la.length := by omega
     rw [show ((la.take k).flatten.length : Int) = (N : Int) by rw [hk2, List.take_length, HN.out]]
     clear hk2
     go_wp2_with (first | ((with_reducible apply ugZ); rfl) | ((with_reducible (first | apply len_B | apply len_BB)); assumption) | ((with_reducible refine stop_if kW ?_ ?_); rfl))
     refine Stop.go (wpList_slice_full (ad := ⟨w.heap.size, 0, none⟩) (n := N) rowB rfl rfl rfl hcs ?_)
     have hb0 : Below w.heap.size w ((w.alloc (.cells cs 5)).drew.drew) := ((Below.refl _ _).alloc (Nat.le_refl _) _).drew.drew
     have hg0 : ((w.alloc (.cells cs 5)).drew.drew).heap[w.heap.size]? = some (.cells cs.toList.toArray 5 (0, 0)) := by have h := heap_alloc_new w (.cells cs 5); rw [Array.toArray_toList]; exact h
     have hp1 := hp.below hb0 (Nat.le_refl _)
     generalize (w.alloc (.cells cs 5)).drew.drew = w1 at *
     clear hcall hz0 hz1
     go_wp2_with (first | ((with_reducible apply ugZ); rfl) | ((with_reducible (first | apply len_B | apply len_BB)); assumption) | ((with_reducible refine stop_if kW ?_ ?_); rfl))
     refine Stop.go (idx_BB hp1 rfl (by omega) (by omega) fun b o y u hy hq hc => ?_)
     have hy0 : y = l0 := by rw [Hla.out] at hy; simpa using hy.symm
     subst hy0
     clear hy
     have hyN := flat_take_le la 0 y (by rw [Hla.out]; rfl) N HN.out
     simp only [List.take_zero, List.flatten_nil, List.length_nil, Nat.zero_add] at hyN
     have hcs2 : cs.toList.length = cs.size := by simp
     go_wp2_with (first | ((with_reducible apply ugZ); rfl) | ((with_reducible (first | apply len_B | apply len_BB)); assumption) | ((with_reducible refine stop_if kW ?_ ?_); rfl))
     refine Stop.go (wpList_copyB rowB w.heap.size 0 cs.toList hg0 rfl hq (fun _ => rfl) hyN (by omega) fun w2 hg2 hgr2 => ?_)
     have hs1 := hb0.size
     have hlt1 : w.heap.size < w1.heap.size := (Array.getElem?_eq_some_iff.1 hg0).1
     have hb2 := hb0.grown hgr2 (by omega) (fun k hk => by cases hk; exact Nat.le_refl _)
     have hp2 := hp1.grown hgr2 (fun b hb e => by cases e; omega)
     have hg2' : w2.heap[w.heap.size]? = some (.cells (((la.take (0 + 1)).flatten.map fun b => Value.int .u8 (b.toNat : Int)) ++ cs.toList.drop y.length).toArray 5 (0, 0)) := by
      rw [hg2, Hla.out]; simp [splice]
     have hlen0 : (cs.toList.drop y.length).length + y.length = cs.size := by simp; omega
     have hy1 : (y.length : Int) = ((la.take (0 + 1)).flatten.length : Int) := by rw [Hla.out]; simp
     obtain ⟨A0, hA0⟩ : ∃ A0, A0 = (la.take (0 + 1)).flatten := ⟨_, rfl⟩
     rw [← hA0] at hy1 hg2'
     rw [hy1]
     have hlen0' : (cs.toList.drop y.length).length + A0.length = cs.size := by omega
     generalize cs.toList.drop y.length = R0 at *
     clear hg2 hy1 hlen0 hyN hq hc hg0 hp1 hcs2 hlt1 hgr2
     have Hg2 := Lib.hid hg2'
     have Hlen0 := Lib.hid hlen0'
     have HA0 := Lib.hid hA0
     clear hA0
     clear hg2' hlen0'
     go_wp2_with (first | ((with_reducible apply ugZ); rfl) | ((with_reducible (first | apply len_B | apply len_BB)); assumption) | ((with_reducible refine stop_if kW ?_ ?_); rfl))
     refine Stop.go (wpList_slice_l rowBB hp2 rfl (by omega) (by omega) fun p1 hpt => ?_)
     rw [show la.drop (Int.toNat 1) = lt by rw [Hla.out]; rfl] at hpt
     have hlt3 : lt.length ≤ 1000000 := by have := Hla2.out; omega
     go_wp2_with (first | ((with_reducible apply ugZ); rfl) | ((with_reducible (first | apply len_B | apply len_BB)); assumption) | ((with_reducible refine stop_if kW ?_ ?_); rfl))
     go_loopw [9, 72] (fun n i wr => ∃ (k : Nat) (R : List Value), k ≤ lt.length ∧ i = .int .i64 k ∧ n = .int .i64 ((la.take (k + 1)).flatten.length : Int) ∧ Hid (wr.heap[w.heap.size]? = some (.cells (((la.take (k + 1)).flatten.map fun b => Value.int .u8 (b.toNat : Int)) ++ R).toArray 5 (0, 0))) ∧ Hid (R.length + (la.take (k + 1)).flatten.length = cs.size) ∧ Below w.heap.size w wr ∧ Below w.heap.size w2 wr) (fun _ i _ => lt.length - (intOf i).toNat)
     case atStart => exact ⟨0, R0, Nat.zero_le _, rfl, by rw [← HA0.out], by rw [← HA0.out]; exact Hg2, by rw [← HA0.out]; exact Hlen0, hb2, Below.refl _ _⟩
     case round =>
      obtain ⟨k, R, hk, rfl, rfl, hg, hR, hbr, hbr2⟩ := hrel
      have hpr : Sl wr (· < w.heap.size) lt p1 := hpt.keep fun b hb _ => ⟨hbr2.block b hb, hb⟩
      by_cases hlt4 : k < lt.length
      ·go_wp2_with (first | ((with_reducible apply ugZ); rfl) | ((with_reducible (first | apply len_B | apply len_BB)); assumption) | ((with_reducible refine stop_if kW ?_ ?_); rfl))
       refine Stop.go (idx_BB hpr rfl (by omega) (by omega) fun b o z q hz hq hc => ?_)
       have hz' : la[k + 1]? = some z := by rw [Hla.out]; simpa using hz
       have hzN := flat_take_le la (k + 1) z hz' N HN.out
       have Hz := Lib.hid hz'
       clear hz hz'
       obtain ⟨A, hA⟩ : ∃ A, A = (la.take (k + 1)).flatten := ⟨_, rfl⟩
       rw [← hA] at hg hR hzN ⊢
       have HA := Lib.hid hA
       clear hA
       have hsz : w.heap.size < wr.heap.size := (Array.getElem?_eq_some_iff.1 hg.out).1
       have hRn := hR.out
       go_wp2_with (first | ((with_reducible apply ugZ); rfl) | ((with_reducible (first | apply len_B | apply len_BB)); assumption) | ((with_reducible refine stop_if kW ?_ ?_); rfl))
       refine Stop.go (wpList_slice_from (g := w.heap.size) (o := 0) (len := N) (n := A.length) rowB rfl rfl (by omega) fun ao hao => ?_)
       go_wp2_with (first | ((with_reducible apply ugZ); rfl) | ((with_reducible (first | apply len_B | apply len_BB)); assumption) | ((with_reducible refine stop_if kW ?_ ?_); rfl))
       refine Stop.go (wpList_copyB (l := []) (S := fun _ => False) rowB w.heap.size 0 _ hg.out rfl (Sl.nil _ _) (fun h => by simp at h) (by simp) (by simp) fun w3 hg3 hgr3 => ?_)
       have hg3' : w3.heap[w.heap.size]? = some (.cells ((A.map fun b => Value.int .u8 (b.toNat : Int)) ++ R).toArray 5 (0, 0)) := by rw [hg3]; simp [splice]
       clear hg3
       have Hg3 := Lib.hid hg3'
       clear hg3'
       have hq3 := hq.grown hgr3 (fun b hb e => by cases e; omega)
       go_wp2_with (first | ((with_reducible apply ugZ); rfl) | ((with_reducible (first | apply len_B | apply len_BB)); assumption) | ((with_reducible refine stop_if kW ?_ ?_); rfl))
       refine Stop.go (wpList_slice_from (g := w.heap.size) (o := 0) (len := N) (n := A.length) rowB rfl rfl (by omega) fun ao2 hao2 => ?_)
       go_wp2_with (first | ((with_reducible apply ugZ); rfl) | ((with_reducible (first | apply len_B | apply len_BB)); assumption) | ((with_reducible refine stop_if kW ?_ ?_); rfl))
       refine Stop.go (wpList_copyB rowB w.heap.size A.length _ Hg3.out rfl hq3 (fun h => by rw [hao2 (by omega)]; simp) (by omega) (by simp; omega) fun w4 hg4 hgr4 => ?_)
       have hg4' : w4.heap[w.heap.size]? = some (.cells (((A ++ z).map fun b => Value.int .u8 (b.toNat : Int)) ++ R.drop z.length).toArray 5 (0, 0)) := by
        rw [hg4]
        have := splice_end (A.map fun b => Value.int .u8 (b.toNat : Int)) R (z.map fun b => Value.int .u8 (b.toNat : Int))
        simp only [List.length_map] at this
        rw [this, List.map_append]
       clear hg4
       have Hg4 := Lib.hid hg4'
       clear hg4'
       have hs3 := hgr3.size
       have hb4 : Below w.heap.size wr w4 := ((Below.refl _ _).grown hgr3 (by omega) (fun k hk => by cases hk; exact Nat.le_refl _)).grown hgr4 (by omega) (fun k hk => by cases hk; exact Nat.le_refl _)
       go_wp2_with (first | ((with_reducible apply ugZ); rfl) | ((with_reducible (first | apply len_B | apply len_BB)); assumption) | ((with_reducible refine stop_if kW ?_ ?_); rfl))
       go_roundw
       case rel =>
        have e : (la.take (k + 1 + 1)).flatten = A ++ z := by rw [take_snoc la (k + 1) z Hz.out, List.flatten_append, ← HA.out]; simp
        refine ⟨k + 1, R.drop z.length, by omega, by go_num, ?_, by rw [e]; exact Hg4, ?_, hbr.trans hb4, hbr2.trans hb4⟩
        ·rw [e]; simp
        ·rw [e]; show _ = _; simp; omega
       case measure => simp [intOf]; omega
      ·go_wp2_with (first | ((with_reducible apply ugZ); rfl) | ((with_reducible (first | apply len_B | apply len_BB)); assumption) | ((with_reducible refine stop_if kW ?_ ?_); rfl))
       go_ret
       have e : la.take (k + 1) = la := List.take_of_length_le (by have := Hla2.out; omega)
       rw [e] at hg hR
       have hN := HN.out
       obtain ⟨F, hF⟩ : ∃ F, F = la.flatten := ⟨_, rfl⟩
       rw [← hF] at hg hR hN ⊢
       have h2 := hR.out
       refine ⟨_, rfl, ⟨F.map fun b => Value.int .u8 (b.toNat : Int), rds_u8_cells.2 rfl, .inr ⟨w.heap.size, 0, N, _, by rw [← hN]; rfl, Nat.le_refl _, hg.out, by omega, by simp only [maxLen]; omega, ?_, ?_⟩⟩, hbr⟩
       ·have e1 : N * Rep.sz UInt8 = N := Nat.mul_one _
        simp; omega
       ·have e1 : F.length * Rep.sz UInt8 = (F.map fun b => Value.int .u8 (b.toNat : Int)).length := by rw [List.length_map]; exact Nat.mul_one _
        rw [e1, List.drop_zero]
        exact List.take_left
end Go.Proofs.YtjkffjngamagkaaDoor
/- package seal: the contracts. -/
namespace Go.Proofs.YtjkffjngamagkaaDoor
open Go Go.RowKit Go.Arm
def Nib (w : World) : Prop := ∀ i, i < 16 → w.cell? ⟨1, i, none⟩ = some (.int .u32 ((nib i).toNat : Int))
theorem Nib.lt {w : World} (h : Nib w) : 1 < w.heap.size := World.block_lt_of_cell? w _ (h 0 (by decide))
theorem Nib.below {w w' : World} (h : Nib w) {B : Nat} (hb : Below B w w') (hB : w.heap.size ≤ B) : Nib w' := fun i hi => by
 rw [hb.cell (by have := h.lt; show 1 < B; omega)]; exact h i hi
theorem Nib.drew {w : World} (h : Nib w) : Nib w.drew := h
theorem Nib.drewN {w : World} (h : Nib w) (n : Nat) : Nib (w.drewN n) := h
theorem Nib.grown {w w' : World} {row : Option Nat} (h : Nib w) (hg : w.grownBy w' row) (hr : row ≠ some 1) : Nib w' := fun i hi => by
 rw [World.cell?_of_block (w := w) (hg.block _ h.lt (fun e => hr e.symm))]; exact h i hi
section
variable {ops : Array Oper} {Q : Exit → Act → World → Prop} {a : Act} {w : World} {rest : List Oper}
variable {dst : Option Tmp} {ty : TypeId} {pos : String} {after : Array Edge}
def kV (o : Op) : Bool := kW o || match o with
 | .indexAddr t _ _ => t == 202
 | _ => false
set_option maxRecDepth 100000 in
theorem idx_nib {Q : Exit → Act → World → Prop} {i : Operand} (hN : Nib w) {c : BitVec 32} (hi : a.eval i = .int .u32 (bits .and .u32 (c.toNat : Int) 15))
  (h : w.cell? ⟨1, c.toNat % 16, none⟩ = some (.int .u32 ((nib (c.toNat % 16)).toNat : Int)) → wpList Tryd.prog ops Q rest (a.put dst (.pointer (some ⟨1, c.toNat % 16, none⟩))) w) :
  wpList Tryd.prog ops Q (⟨dst, .indexAddr 202 (.global 1) i, ty, pos, after, none⟩ :: rest) a w := by
 have hc : bits .and .u32 (c.toNat : Int) 15 = ((c.toNat % 16 : Nat) : Int) := by
  have := and32 c.toNat 15 c.isLt (by omega)
  rw [show (15 : Nat) = 2 ^ 4 - 1 from rfl, Nat.and_two_pow_sub_one_eq_mod] at this
  exact this
 rw [hc] at hi
 have hlt : c.toNat % 16 < 16 := Nat.mod_lt _ (by decide)
 generalize c.toNat % 16 = m at *
 refine wpList_plain rfl fun K hK => ?_
 have hrun : (Instr.indexAt 202 (.pointer (some ⟨1, 0, none⟩)) (.int .u32 (m : Int))).run Tryd.prog w = .ok (.pointer (some ⟨1, m, none⟩)) w := by
  rw [run_indexAt_array (P := Tryd.prog) w 202 ⟨1, 0, none⟩ .u32 m (by kernel_rfl), if_pos ⟨by omega, by show (m : Int) < ((16 : Nat) : Int); omega⟩]
  simp [go_sem]
 unfold Oper.wp
 simp only [execOp, hi, BigFrame.eval_global, Sem.run_bind, hrun, Result.andThen_ok, Sem.run_pure]
 exact hK _ _ (h (hN m hlt))
end
set_option maxRecDepth 100000 in
theorem ssum_any (w : World) (S : Nat → Prop) (ll : List (List UInt8)) (p : Value) (hN : Nib w) (hp : Sl w S ll p) :
  Calls Tryd.prog 97 #[p] w fun e w' => e = .returned (.int .u32 ((sum ll.flatten).toNat : Int)) ∧ w = w' := by
 have hm := hp.length_le
 unfold maxLen at hm
 go_enter Tryd.func97, Tryd.ntmps97
 go_wp2_with (first | ((with_reducible apply ugZ); rfl) | ((with_reducible (first | apply len_B | apply len_BB)); assumption) | ((with_reducible refine stop_if kV ?_ ?_); rfl))
 go_loop [3, 10] (fun c i => ∃ k : Nat, k ≤ ll.length ∧ i = .int .i64 k ∧ c = .int .u32 ((sumFrom 0xffffffff#32 (ll.take k).flatten).toNat : Int)) (fun _ i => ll.length - (intOf i).toNat)
 case atStart => exact ⟨0, Nat.zero_le _, rfl, rfl⟩
 case round =>
  obtain ⟨k, hk, rfl, rfl⟩ := hrel
  by_cases hlt : k < ll.length
  ·go_wp2_with (first | ((with_reducible apply ugZ); rfl) | ((with_reducible (first | apply len_B | apply len_BB)); assumption) | ((with_reducible refine stop_if kV ?_ ?_); rfl))
   refine Stop.go (idx_BB hp rfl (by omega) (by omega) fun b o l q hy hq hc => ?_)
   have hm2 := hq.length_le
   unfold maxLen at hm2
   have Hy := Lib.hid hy
   clear hy
   obtain ⟨c0, hc0⟩ : ∃ c0, c0 = sumFrom 0xffffffff#32 (ll.take k).flatten := ⟨_, rfl⟩
   rw [← hc0]
   have Hc0 := Lib.hid hc0
   clear hc0
   go_wp2_with (first | ((with_reducible apply ugZ); rfl) | ((with_reducible (first | apply len_B | apply len_BB)); assumption) | ((with_reducible refine stop_if kV ?_ ?_); rfl))
   go_loop [3, 16] (fun d i => ∃ j : Nat, j ≤ l.length ∧ i = .int .i64 j ∧ d = .int .u32 ((sumFrom c0 (l.take j)).toNat : Int)) (fun _ i => l.length - (intOf i).toNat)
   case atStart => exact ⟨0, Nat.zero_le _, rfl, rfl⟩
   case round =>
    obtain ⟨j, hj, rfl, rfl⟩ := hrel
    by_cases hlt2 : j < l.length
    ·obtain ⟨c1, hc1⟩ : ∃ c1, c1 = sumFrom c0 (l.take j) := ⟨_, rfl⟩
     rw [← hc1]
     have Hc1 := Lib.hid hc1
     clear hc1
     go_wp2_with (first | ((with_reducible apply ugZ); rfl) | ((with_reducible (first | apply len_B | apply len_BB)); assumption) | ((with_reducible refine stop_if kV ?_ ?_); rfl))
     refine Stop.go (idx_B hq rfl (by omega) (by omega) fun b' o' y hy2 hc2 => ?_)
     have Hy2 := Lib.hid hy2
     clear hy2
     go_wp2_with (first | ((with_reducible apply ugZ); rfl) | ((with_reducible (first | apply len_B | apply len_BB)); assumption) | ((with_reducible refine stop_if kV ?_ ?_); rfl))
     rw [mix_byte]
     obtain ⟨c2, hc2'⟩ : ∃ c2, c2 = c1 ^^^ BitVec.ofNat 32 y.toNat := ⟨_, rfl⟩
     rw [← hc2']
     have Hc2 := Lib.hid hc2'
     clear hc2'
     refine Stop.go (idx_nib hN rfl fun hcell => ?_)
     go_wp2_with (first | ((with_reducible apply ugZ); rfl) | ((with_reducible (first | apply len_B | apply len_BB)); assumption) | ((with_reducible refine stop_if kV ?_ ?_); rfl))
     rw [nib_walk]
     obtain ⟨c3, hc3'⟩ : ∃ c3, c3 = nibStep c2 := ⟨_, rfl⟩
     rw [← hc3']
     have Hc3 := Lib.hid hc3'
     clear hc3'
     refine Stop.go (idx_nib hN rfl fun hcell2 => ?_)
     go_wp2_with (first | ((with_reducible apply ugZ); rfl) | ((with_reducible (first | apply len_B | apply len_BB)); assumption) | ((with_reducible refine stop_if kV ?_ ?_); rfl))
     go_round
     case rel =>
      refine ⟨j + 1, by omega, by go_num, ?_⟩
      rw [nib_walk, take_snoc l j y (by simpa using Hy2.out), sumFrom_snoc, ← Hc1.out, ← step_nib, ← Hc2.out, ← Hc3.out]
     case measure => simp [intOf]; omega
    ·go_wp2_with (first | ((with_reducible apply ugZ); rfl) | ((with_reducible (first | apply len_B | apply len_BB)); assumption) | ((with_reducible refine stop_if kV ?_ ?_); rfl))
     go_round
     case rel =>
      refine ⟨k + 1, by omega, by go_num, ?_⟩
      rw [take_snoc ll k l (by simpa using Hy.out), List.flatten_append, sumFrom_append, ← Hc0.out, List.take_of_length_le (by omega)]
      simp
     case measure => simp [intOf]; omega
  ·have hsg : IntKind.u32.signed = false := rfl
   go_wp2_with (first | ((with_reducible apply ugZ); rfl) | ((with_reducible (first | apply len_B | apply len_BB)); assumption) | ((with_reducible refine stop_if kV ?_ ?_); rfl))
   go_ret
   refine ⟨?_, rfl⟩
   rw [List.take_of_length_le (by omega), not_toNat']; rfl
set_option maxRecDepth 100000 in
theorem sframe_any (w : World) (S : Nat → Prop) (ll : List (List UInt8)) (p : Value) (hN : Nib w) (hp : Sl w S ll p) (hl : ll.length ≤ 1000000) (hf : ll.flatten.length ≤ 4096) :
  Calls Tryd.prog 61 #[p] w fun e w' => ∃ v, e = .returned (.tuple #[v, .int .i64 0]) ∧ OwnB w' w.heap.size (frame ll.flatten) v ∧ Below w.heap.size w w' := by
 have hj := join_any w S ll p hp hl (by omega)
 generalize ll.flatten = l at *
 have Hj := Lib.hid hj
 clear hj
 go_enter Tryd.func61, Tryd.ntmps61
 go_wp2_with (first | ((with_reducible apply ugZ); rfl) | ((with_reducible (first | apply len_B | apply len_BB)); assumption) | ((with_reducible refine stop_if kW ?_ ?_); rfl))
 refine Hj.out.mono ?_
 rintro e w1 ⟨v, rfl, hv, hb⟩
 have hs1 := hb.size
 have hvs : Sl w1 (fun b => w.heap.size ≤ b) l v := hv.sl'
 have hN1 := hN.below hb (Nat.le_refl _)
 go_wp2_with (first | ((with_reducible apply ugZ); rfl) | ((with_reducible (first | apply len_B | apply len_BB)); assumption) | ((with_reducible refine stop_if kW ?_ ?_); rfl))
 refine Stop.go (build_B (low l.length 2) [.int .u8 (↑l.length % 256), .int .u8 (↑l.length / 256)] rfl rfl ?_ (by simp [low]) fun u w2 h1 h2 h3 h4 => ?_)
 ·simp [low]; omega
 have hvs2 := hvs.grown0 h2
 have h1s : Sl w2 (fun b => w.heap.size ≤ b) (low l.length 2) u := h1.sl'.wide (fun b h _ => by omega)
 have hb2 := hb.grown0 h2 hs1
 have hs2 := h2.size
 have hN2 := hN1.grown h2 (by simp)
 go_wp2_with (first | ((with_reducible apply ugZ); rfl) | ((with_reducible (first | apply len_B | apply len_BB)); assumption) | ((with_reducible refine stop_if kW ?_ ?_); rfl))
 refine Stop.go (build_BB (S := fun b => w.heap.size ≤ b) [low l.length 2, l] [u, v] rfl rfl (rds_cons h1s (rds_cons hvs2 rds_nil)) (by simp) fun q w3 g1 g2 g3 g4 => ?_)
 have hvs3 := hvs2.grown0 g2
 have h1s3 := h1s.grown0 g2
 have hb3 := hb2.grown0 g2 (by omega)
 have hN3 := hN2.grown g2 (by simp)
 have hs3 := g2.size
 go_wp2_with (first | ((with_reducible apply ugZ); rfl) | ((with_reducible (first | apply len_B | apply len_BB)); assumption) | ((with_reducible refine stop_if kW ?_ ?_); rfl))
 refine (ssum_any w3 _ _ q hN3 g1.slGe).mono ?_
 rintro e w4 ⟨rfl, rfl⟩
 rw [show [low l.length 2, l].flatten = framed l by simp [framed]]
 obtain ⟨c, hc⟩ : ∃ c, c = sum (framed l) := ⟨_, rfl⟩
 rw [← hc]
 have Hc := Lib.hid hc
 clear hc
 have hcl := c.isLt
 go_wp2_with (first | ((with_reducible apply ugZ); rfl) | ((with_reducible (first | apply len_B | apply len_BB)); assumption) | ((with_reducible refine stop_if kW ?_ ?_); rfl))
 refine Stop.go (build_B (low c.toNat 4) [.int .u8 (↑c.toNat % 256), .int .u8 (↑c.toNat / 256 % 256), .int .u8 (↑c.toNat / 65536 % 256), .int .u8 (↑c.toNat / 16777216)] rfl rfl ?_ (by simp [low]) fun r w4 k1 k2 k3 k4 => ?_)
 ·simp [low]; omega
 have hs4 := k2.size
 have hvs4 := hvs3.grown0 k2
 have h1s4 := h1s3.grown0 k2
 have k1s : Sl w4 (fun b => w.heap.size ≤ b) (low c.toNat 4) r := k1.sl'.wide (fun b h _ => by omega)
 have hb4 := hb3.grown0 k2 (by omega)
 go_wp2_with (first | ((with_reducible apply ugZ); rfl) | ((with_reducible (first | apply len_B | apply len_BB)); assumption) | ((with_reducible refine stop_if kW ?_ ?_); rfl))
 refine Stop.go (build_BB (S := fun b => w.heap.size ≤ b) [low c.toNat 4, low l.length 2, l] [r, u, v] rfl rfl (rds_cons k1s (rds_cons h1s4 (rds_cons hvs4 rds_nil))) (by simp) fun q2 w5 m1 m2 m3 m4 => ?_)
 have hs5 := m2.size
 have hb5 := hb4.grown0 m2 (by omega)
 have hfl : [low c.toNat 4, low l.length 2, l].flatten = frame l := by rw [frame, ← Hc.out]; simp [framed]
 have hfr : (frame l).length = l.length + 6 := by simp [frame, framed, low_len]; omega
 go_wp2_with (first | ((with_reducible apply ugZ); rfl) | ((with_reducible (first | apply len_B | apply len_BB)); assumption) | ((with_reducible refine stop_if kW ?_ ?_); rfl))
 refine (join_any w5 _ _ q2 m1.slGe (by simp) (by rw [hfl]; omega)).mono ?_
 rintro e w6 ⟨v6, rfl, hv6, hb6⟩
 rw [hfl] at hv6
 have hs6 := hb6.size
 go_wp2_with (first | ((with_reducible apply ugZ); rfl) | ((with_reducible (first | apply len_B | apply len_BB)); assumption) | ((with_reducible refine stop_if kW ?_ ?_); rfl))
 go_ret2
 exact ⟨v6, rfl, hv6.rebase (fun b hb => by have := (hv6.ge b hb).1; omega), hb5.trans (hb6.mono (by omega))⟩
end Go.Proofs.YtjkffjngamagkaaDoor
/- package seal: Next, Open, All. -/
namespace Go.Proofs.YtjkffjngamagkaaDoor
open Go Go.RowKit Go.Arm
theorem snext_any (w : World) (S : Nat → Prop) (l : List UInt8) (p : Value) (hN : Nib w) (hp : Sl w S l p) (hl : l.length ≤ 140737488355328) :
  Calls Tryd.prog 88 #[p] w (NextPost w l) := by
 by_cases h6 : l.length < 6
 ·go_enter Tryd.func88, Tryd.ntmps88
  go_wp2_with (first | ((with_reducible apply ugZ); rfl) | ((with_reducible (first | apply len_B | apply len_BB)); assumption) | ((with_reducible refine stop_if kW ?_ ?_); rfl))
  go_ret3
  exact NextPost.bad (by rw [next, if_pos h6]) (Below.refl _ _)
 ·obtain ⟨b4, o4, y4, hy4, hx4, hc4⟩ := hp.index_run (P := Tryd.prog) rowB .i64 4 (by omega) (by omega)
  obtain ⟨b5, o5, y5, hy5, hx5, hc5⟩ := hp.index_run (P := Tryd.prog) rowB .i64 5 (by omega) (by omega)
  obtain ⟨n, hn⟩ : ∃ n, n = num ((l.take 6).drop 4) := ⟨_, rfl⟩
  have hn' : n = y4.toNat + 256 * y5.toNat := by rw [hn, num_two l 4 y4 y5 hy4 hy5]
  have hb4 := y4.toNat_lt
  have hb5 := y5.toNat_lt
  have Hn := Lib.hid hn
  have Hn' := Lib.hid hn'
  clear hn hn' hy4 hy5
  go_enter Tryd.func88, Tryd.ntmps88
  go_wp2_with (first | ((with_reducible apply ugZ); rfl) | ((with_reducible (first | apply len_B | apply len_BB)); assumption) | ((with_reducible refine stop_if kW ?_ ?_); rfl))
  go_quiet (fail)
  rw [or_two, ← Hn'.out]
  have hn2 : n < 65536 := by have := Hn'.out; omega
  have hbd := below_draws w.heap.size w nq
  have hp1 := hp.drewN nq
  have hN1 := hN.drewN nq
  have hz1 : w.heap.size = (w.drewN nq).heap.size := rfl
  generalize w.drewN nq = w1 at *
  clear hx4 hx5 hc4 hc5 hb4 hb5 hp hN
  by_cases hbig : 4096 < n
  ·go_wp2_with (first | ((with_reducible apply ugZ); rfl) | ((with_reducible (first | apply len_B | apply len_BB)); assumption) | ((with_reducible refine stop_if kW ?_ ?_); rfl))
   go_ret3
   exact NextPost.bad (by rw [next, if_neg h6, ← Hn.out, if_pos hbig]) hbd
  ·by_cases hsh : l.length < 6 + n
   ·go_wp2_with (first | ((with_reducible apply ugZ); rfl) | ((with_reducible (first | apply len_B | apply len_BB)); assumption) | ((with_reducible refine stop_if kW ?_ ?_); rfl))
    go_ret3
    exact NextPost.bad (by rw [next, if_neg h6, ← Hn.out, if_neg hbig, if_pos hsh]) hbd
   ·obtain ⟨b0, o0, y0, hy0, hx0, hc0⟩ := hp1.index_run (P := Tryd.prog) rowB .i64 0 (by omega) (by omega)
    obtain ⟨b1, o1, y1, hy1, hx1, hc1⟩ := hp1.index_run (P := Tryd.prog) rowB .i64 1 (by omega) (by omega)
    obtain ⟨b2, o2, y2, hy2, hx2, hc2⟩ := hp1.index_run (P := Tryd.prog) rowB .i64 2 (by omega) (by omega)
    obtain ⟨b3, o3, y3, hy3, hx3, hc3⟩ := hp1.index_run (P := Tryd.prog) rowB .i64 3 (by omega) (by omega)
    have Hm := Lib.hid (num_four l y0 y1 y2 y3 hy0 hy1 hy2 hy3)
    have g0 := y0.toNat_lt
    have g1 := y1.toNat_lt
    have g2 := y2.toNat_lt
    have g3 := y3.toNat_lt
    clear hy0 hy1 hy2 hy3
    go_wp2_with (first | ((with_reducible apply ugZ); rfl) | ((with_reducible (first | apply len_B | apply len_BB)); assumption) | ((with_reducible refine stop_if kW ?_ ?_); rfl))
    go_quiet (fail)
    rw [or_four, ← Hm.out]
    have hbd2 := below_draws w1.heap.size w1 nq
    have hp2 := hp1.drewN nq
    have hN2 := hN1.drewN nq
    have hz2 : w1.heap.size = (w1.drewN nq).heap.size := rfl
    generalize w1.drewN nq = w2 at *
    have hb2 := hbd.trans (hbd2.mono (by omega))
    clear hx0 hx1 hx2 hx3 hc0 hc1 hc2 hc3 g0 g1 g2 g3 hp1 hN1 hbd hbd2
    obtain ⟨m1, hm1⟩ : ∃ m1, m1 = num (l.take 4) := ⟨_, rfl⟩
    rw [← hm1]
    have Hm1 := Lib.hid hm1
    clear hm1
    go_wp2_with (first | ((with_reducible apply ugZ); rfl) | ((with_reducible (first | apply len_B | apply len_BB)); assumption) | ((with_reducible refine stop_if kW ?_ ?_); rfl))
    refine Stop.go (wpList_slice_lh rowB hp2 rfl rfl (by omega) (by omega) (by omega) fun u hu => ?_)
    rw [show (List.drop (Int.toNat 4) (List.take (Int.toNat (6 + (n : Int))) l)) = (l.take (6 + n)).drop 4 by rw [show Int.toNat (6 + (n : Int)) = 6 + n by omega]; rfl] at hu
    go_wp2_with (first | ((with_reducible apply ugZ); rfl) | ((with_reducible (first | apply len_B | apply len_BB)); assumption) | ((with_reducible refine stop_if kW ?_ ?_); rfl))
    refine Stop.go (build_BB (S := S) [(l.take (6 + n)).drop 4] [u] rfl rfl (rds_cons hu rds_nil) (by simp) fun q w3 k1 k2 k3 k4 => ?_)
    have hs3 := k2.size
    have hp3 := hp2.grown0 k2
    have hN3 := hN2.grown k2 (by simp)
    have hb3 := hb2.grown0 k2 (by omega)
    go_wp2_with (first | ((with_reducible apply ugZ); rfl) | ((with_reducible (first | apply len_B | apply len_BB)); assumption) | ((with_reducible refine stop_if kW ?_ ?_); rfl))
    refine (ssum_any w3 _ _ q hN3 k1.slGe).mono ?_
    rintro e w4 ⟨rfl, rfl⟩
    rw [show [(l.take (6 + n)).drop 4].flatten = (l.take (6 + n)).drop 4 by simp]
    obtain ⟨s1, hs1'⟩ : ∃ s1, s1 = (sum ((l.take (6 + n)).drop 4)).toNat := ⟨_, rfl⟩
    rw [← hs1']
    have Hs1 := Lib.hid hs1'
    clear hs1'
    by_cases hsum : s1 = m1
    ·have hc : ((s1 : Int) != (m1 : Int)) = false := by simp [hsum]
     have Hsum := Lib.hid hsum
     clear hsum hu k1 k3 k4 k2
     obtain ⟨v3, hv3, hs3'⟩ := hp3.slice_run (P := Tryd.prog) rowB .i64 .i64 6 (6 + n) (by omega) (by omega) (by omega)
     obtain ⟨v4, hv4, hs4⟩ := hp3.slice_run_l (P := Tryd.prog) rowB .i64 (6 + n) (by omega) (by omega)
     go_wp2_with (first | ((with_reducible apply ugZ); rfl) | ((with_reducible (first | apply len_B | apply len_BB)); assumption) | ((with_reducible refine stop_if kW ?_ ?_); rfl))
     have hw1 : IntKind.i64.wrap (6 + (n : Int)) = 6 + n := IntWalk.i64_in _ (by omega)
     go_region_with (first
      | (go_at_call_of 98 v3; refine (clone_any w3.drew S _ v3 hs3'.drew (by simp; omega)).mono ?_; rintro e w5 ⟨u3, rfl, hu3, hb5⟩; have hs4' := hs4.drew.below hb5 (Nat.le_refl _))
      | (go_at_call_of 98 v4; refine (clone_any _ S _ v4 hs4' (by simp; omega)).mono ?_; rintro e w6 ⟨u4, rfl, hu4, hb6⟩))
     all_goals
      go_wp2_with (first | ((with_reducible apply ugZ); rfl) | ((with_reducible (first | apply len_B | apply len_BB)); assumption) | ((with_reducible refine stop_if kW ?_ ?_); rfl))
      go_ret3
      have hnx : next l = ((l.take (6 + n)).drop 6, l.drop (6 + n), 0) := by
       rw [next, if_neg h6, ← Hn.out, if_neg hbig, if_neg hsh, ← Hs1.out, ← Hm1.out, if_neg (by have := Hsum.out; omega)]
      have z5 := hb5.size
      have z6 := hb6.size
      have e1 : (6 + (n : Int)).toNat = 6 + n := by omega
      rw [e1] at hu3 hu4
      simp at z5
      refine ⟨u3, u4, by rw [hnx]; rfl, ?_, ?_, ?_⟩
      ·rw [hnx]; exact ((hu3.below hb6 (Nat.le_refl _)).sl').wide fun b hb _ => by simp at hb ⊢; omega
      ·rw [hnx]; exact hu4.sl'.wide fun b hb _ => by omega
      ·exact (hb3.drew.trans (hb5.mono (by simp; omega))).trans (hb6.mono (by omega))
    ·have hc : ((s1 : Int) != (m1 : Int)) = true := by simp; omega
     go_wp2_with (first | ((with_reducible apply ugZ); rfl) | ((with_reducible (first | apply len_B | apply len_BB)); assumption) | ((with_reducible refine stop_if kW ?_ ?_); rfl))
     go_ret3
     exact NextPost.bad (by rw [next, if_neg h6, ← Hn.out, if_neg hbig, if_neg hsh, ← Hs1.out, ← Hm1.out, if_pos hsum]) hb3
end Go.Proofs.YtjkffjngamagkaaDoor
/- package seal: Open. -/
namespace Go.Proofs.YtjkffjngamagkaaDoor
open Go Go.RowKit Go.Arm
theorem sopen_any (w : World) (S : Nat → Prop) (l : List UInt8) (p : Value) (hN : Nib w) (hp : Sl w S l p) (hl : l.length ≤ 140737488355328) :
  Calls Tryd.prog 44 #[p] w fun e w' => ∃ v, e = .returned (.tuple #[v, .int .i64 (opened l).2]) ∧ Sl w' (fun b => w.heap.size ≤ b) (opened l).1 v ∧ Below w.heap.size w w' := by
 go_enter Tryd.func44, Tryd.ntmps44
 go_wp2_with (first | ((with_reducible apply ugZ); rfl) | ((with_reducible (first | apply len_B | apply len_BB)); assumption) | ((with_reducible refine stop_if kW ?_ ?_); rfl))
 refine (snext_any w S l p hN hp hl).mono ?_
 rintro e w1 ⟨v1, v2, rfl, h1, h2, hb⟩
 by_cases hc : (next l).2.2 = 0
 ·have ho : opened l = if 0 < (next l).2.1.length then ([], 4) else ((next l).1, 0) := by rw [opened, if_neg (by simpa using hc)]
  have Ho := Lib.hid ho
  rw [hc]
  clear ho hc
  by_cases hr : 0 < (next l).2.1.length
  ·go_wp2_with (first | ((with_reducible apply ugZ); rfl) | ((with_reducible (first | apply len_B | apply len_BB)); assumption) | ((with_reducible refine stop_if kW ?_ ?_); rfl))
   go_ret2
   exact ⟨_, by rw [Ho.out, if_pos hr]; rfl, by rw [Ho.out, if_pos hr]; exact Sl.nil _ _, hb⟩
  ·go_wp2_with (first | ((with_reducible apply ugZ); rfl) | ((with_reducible (first | apply len_B | apply len_BB)); assumption) | ((with_reducible refine stop_if kW ?_ ?_); rfl))
   go_ret2
   exact ⟨_, by rw [Ho.out, if_neg hr]; rfl, by rw [Ho.out, if_neg hr]; exact h1, hb⟩
 ·have hn : ((next l).2.2 != 0) = true := by simpa using hc
  have ho : opened l = ([], (next l).2.2) := by rw [opened, if_pos hc]
  have Ho := Lib.hid ho
  clear hc ho
  go_wp2_with (first | ((with_reducible apply ugZ); rfl) | ((with_reducible (first | apply len_B | apply len_BB)); assumption) | ((with_reducible refine stop_if kW ?_ ?_); rfl))
  go_ret2
  exact ⟨_, by rw [Ho.out]; rfl, by rw [Ho.out]; exact Sl.nil _ _, hb⟩
end Go.Proofs.YtjkffjngamagkaaDoor
/- Plain Lean: what frames do. -/
namespace Go.Arm
theorem num_low : ∀ (k n : Nat), num (low n k) = n % 256 ^ k
 | 0, n => by simp [num, low]; omega
 | k + 1, n => by
  rw [low, num, num_low k, Nat.pow_succ]
  have h : (UInt8.ofNat (n % 256)).toNat = n % 256 := by
   rw [UInt8.toNat_ofNat_of_lt' (Nat.mod_lt _ (by decide))]
  rw [h, Nat.mul_comm (256 ^ k) 256, Nat.mod_mul]
theorem frame_parts (l : List UInt8) : frame l = low (sum (framed l)).toNat 4 ++ (low l.length 2 ++ l) := rfl
theorem frame_len (l : List UInt8) : (frame l).length = 6 + l.length := by simp [frame_parts, low_len]; omega
theorem frame_head (l m : List UInt8) : (((frame l ++ m).take 6).drop 4) = low l.length 2 := by
 have h1 : (low (sum (framed l)).toNat 4 ++ low l.length 2).length = 6 := by simp [low_len]
 have e : frame l ++ m = (low (sum (framed l)).toNat 4 ++ low l.length 2) ++ (l ++ m) := by simp [frame_parts]
 rw [e, List.take_left' h1, List.drop_left' (low_len _ _)]
theorem frame_num (l m : List UInt8) (hl : l.length ≤ 4096) : num (((frame l ++ m).take 6).drop 4) = l.length := by
 rw [frame_head, num_low]; omega
theorem next_frame (l m : List UInt8) (hl : l.length ≤ 4096) : next (frame l ++ m) = (l, m, 0) := by
 have hn := frame_num l m hl
 have hlen : (frame l ++ m).length = 6 + l.length + m.length := by rw [List.length_append, frame_len]
 have ht : (frame l ++ m).take (6 + l.length) = frame l := List.take_left' (frame_len l)
 have hd : (frame l).drop 4 = framed l := by rw [frame_parts]; exact List.drop_left' (low_len _ _)
 have h4 : (frame l ++ m).take 4 = low (sum (framed l)).toNat 4 := by rw [frame_parts, List.append_assoc]; exact List.take_left' (low_len _ _)
 rw [next, if_neg (by omega), hn, if_neg (by omega), if_neg (by omega), ht, hd, h4, num_low, if_neg]
 ·have h6 : (frame l).drop 6 = l := by
   have h1 : (low (sum (framed l)).toNat 4 ++ low l.length 2).length = 6 := by simp [low_len]
   have e : frame l = (low (sum (framed l)).toNat 4 ++ low l.length 2) ++ l := by simp [frame_parts]
   rw [e]; exact List.drop_left' h1
  rw [h6, List.drop_left' (frame_len l)]
 ·have := (sum (framed l)).isLt
  omega
theorem next_frame' (l : List UInt8) (hl : l.length ≤ 4096) : next (frame l) = (l, [], 0) := by
 have := next_frame l [] hl
 simpa using this
theorem opened_frame (l : List UInt8) (hl : l.length ≤ 4096) : opened (frame l) = (l, 0) := by
 rw [opened, next_frame' l hl]; rfl
end Go.Arm
