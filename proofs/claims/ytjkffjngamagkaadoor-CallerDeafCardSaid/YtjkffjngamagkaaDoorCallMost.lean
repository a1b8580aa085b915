/- armillarylaw19: CallerMost. -/
import Derived.Test.YtjkffjngamagkaaDoorCal9
namespace Go.Arm
open Go.RowKit
def qryN (num : UInt64) : NoteR := { zeroN with kind := 8, query := num }
/-- After i rounds. -/
def mostC (i : Nat) : CallR := ⟨3, (List.range (min i 64)).map fun j => newW (askN (UInt64.ofNat j) [op1]), (List.range (min i 64)).map fun j => newW (qryN (UInt64.ofNat j))⟩
theorem most_put : ∀ i : Fin 69, (mostC i).putCode (UInt64.ofNat i) [op1] = (if 64 ≤ i.val then 8 else 0) := by decide +kernel
theorem most_ask : ∀ i : Fin 69, (mostC i).askCode (qryN (UInt64.ofNat i)) = (if 64 ≤ i.val then 8 else 0) := by decide +kernel
theorem most_twice : ∀ k : Fin 9, ∀ t : Fin 60, (mostC (60 + k)).putCode (UInt64.ofNat t) [op1] = 7 ∧ (mostC (60 + k)).askCode (qryN (UInt64.ofNat t)) = 7 := by decide +kernel
theorem most_form (k : Nat) : (mostC k).askCode { zeroN with kind := 1 } = 4 := by
  unfold CallR.askCode
  rw [if_pos (.inr (by decide))]
theorem range_succ_min (i : Nat) (h : i < 64) : List.range (min (i + 1) 64) = List.range (min i 64) ++ [i] := by
  rw [Nat.min_eq_left (by omega), Nat.min_eq_left (by omega), List.range_succ]
theorem most_step (i : Nat) (h : i < 69) : ((mostC i).put (UInt64.ofNat i) [op1]).ask (qryN (UInt64.ofNat i)) = mostC (i + 1) := by
  have h1 := most_put ⟨i, h⟩
  have h2 := most_ask ⟨i, h⟩
  simp only at h1 h2
  by_cases h64 : 64 ≤ i
  · rw [if_pos h64] at h1 h2
    have e1 : (mostC i).put (UInt64.ofNat i) [op1] = mostC i := by unfold CallR.put; rw [if_neg (by rw [h1]; decide)]
    have e2 : (mostC i).ask (qryN (UInt64.ofNat i)) = mostC i := by unfold CallR.ask; rw [if_neg (by rw [h2]; decide)]
    rw [e1, e2]
    unfold mostC
    rw [Nat.min_eq_right h64, Nat.min_eq_right (by omega)]
  · rw [if_neg h64] at h1 h2
    rw [put_done _ _ _ h1]
    rw [ask_done _ _ (show (CallR.askCode { mostC i with B := (mostC i).B ++ [newW (askN (UInt64.ofNat i) [op1])] } (qryN (UInt64.ofNat i))) = 0 from h2)]
    unfold mostC
    rw [range_succ_min i (by omega), List.map_append, List.map_append]
    rfl
theorem most_askCode (i : Nat) (h : i < 69) : ((mostC i).put (UInt64.ofNat i) [op1]).askCode (qryN (UInt64.ofNat i)) = if 64 ≤ i then 8 else 0 := by
  rw [← most_ask ⟨i, h⟩]
  unfold CallR.put
  split <;> rfl
theorem letsOf_new (s : Int) (f : Nat → NoteR) (l : List Nat) : (letsOf s (l.map fun j => newW (f j))).length = l.length := by
  unfold letsOf
  rw [List.length_map, List.filter_eq_self.2]
  · simp
  · intro x hx
    obtain ⟨j, _, rfl⟩ := List.mem_map.1 hx
    rfl
theorem most_wake (k : Nat) : (mostC k).wake.length = 2 * min k 64 := by
  unfold CallR.wake mostC
  simp only [List.length_append, letsOf_new, List.length_range]
  omega
theorem most_ok : ∀ i, i ≤ 69 → (mostC i).Ok
  | 0, _ => ⟨by simp [mostC], by simp [mostC], by simp [mostC], by simp [mostC]⟩
  | i + 1, h => by rw [← most_step i (by omega)]; exact ((most_ok i (by omega)).put _ _).ask _
theorem most_stay {c : CallR} {num : UInt64} {l : List OpR} (h : c.putCode num l ≠ 0) : c.put num l = c ∧ c.putL num l = [] := by
  unfold CallR.put CallR.putL; rw [if_neg h, if_neg h]; exact ⟨rfl, rfl⟩
theorem most_stay' {c : CallR} {n : NoteR} (h : c.askCode n ≠ 0) : c.ask n = c ∧ c.askL n = [] := by
  unfold CallR.ask CallR.askL; rw [if_neg h, if_neg h]; exact ⟨rfl, rfl⟩
end Go.Arm
namespace Go.Proofs.YtjkffjngamagkaaDoor
open Go Go.RowKit Go.Arm
theorem ofNat_toNat (i : Nat) (h : i < 69) : ((UInt64.ofNat i).toNat : Int) = (i : Int) := by
  rw [UInt64.toNat_ofNat_of_lt' (by show i < 18446744073709551616; omega)]
theorem qry_nt (w : World) (i : Nat) (h : i < 69) : Nt w (fun _ => False) (qryN (UInt64.ofNat i)) (.agg #[.int .u8 8, .int .u64 0, .int .u64 0, .int .u64 0, .int .u64 0, .int .u64 0, .int .u64 (i : Int), .int .u64 0, .int .i64 0, .int .i64 0, .int .i64 0, .int .i64 0, .slice none 0 0, .slice none 0 0, .slice none 0 0, .slice none 0 0]) := by
  have := Nt.flat w (fun _ => False) (qryN (UInt64.ofNat i)) rfl rfl rfl rfl i64_zero i64_zero i64_zero i64_zero
  have e : noteV (qryN (UInt64.ofNat i)) (.slice none 0 0) (.slice none 0 0) (.slice none 0 0) (.slice none 0 0) = .agg #[.int .u8 8, .int .u64 0, .int .u64 0, .int .u64 0, .int .u64 0, .int .u64 0, .int .u64 ((UInt64.ofNat i).toNat : Int), .int .u64 0, .int .i64 0, .int .i64 0, .int .i64 0, .int .i64 0, .slice none 0 0, .slice none 0 0, .slice none 0 0, .slice none 0 0] := rfl
  rw [e, ofNat_toNat i h] at this
  exact this
set_option maxHeartbeats 8000000 in
set_option maxRecDepth 100000 in
theorem callerMost_any (w : World) (hN : Srt w) (hB : Nib w) (n t : Nat) (hn : n < 256) (ht : t < 256) :
    Calls Tryd.prog 8 #[.int .u8 (n : Int), .int .u8 (t : Int)] w fun e w' => e = .returned (.bool true) ∧ Below w.heap.size w w' := by
  obtain ⟨r, hr, hr9⟩ : ∃ r : Nat, (n : Int) % 9 = r ∧ r < 9 := ⟨n % 9, by simp, Nat.mod_lt _ (by decide)⟩
  obtain ⟨q, hq, hq60⟩ : ∃ q : Nat, (t : Int) % 60 = q ∧ q < 60 := ⟨t % 60, by simp, Nat.mod_lt _ (by decide)⟩
  have HR := Lib.hid hr
  have HQ := Lib.hid hq
  clear hr hq
  go_enter Tryd.func8, Tryd.ntmps8
  go_wp2_with (first | ((with_reducible apply wpList_unguard); rfl) | ((with_reducible (first | apply len_B | apply len_PB | apply len_PQ | apply len_L | apply len_Bat | apply len_Qst | apply len_H)); assumption) | ((with_reducible refine stop_ig kC ?_ ?_); rfl))
  refine (awake19_any w hN hB).mono ?_
  rintro e w1 ⟨rfl, ha1⟩
  have s1 := ha1.size
  go_wp2_with (first | ((with_reducible apply wpList_unguard); rfl) | ((with_reducible (first | apply len_B | apply len_PB | apply len_PQ | apply len_L | apply len_Bat | apply len_Qst | apply len_H)); assumption) | ((with_reducible refine stop_ig kC ?_ ?_); rfl))
  refine (new_has w1 3 (by decide) (by decide)).mono ?_
  rintro e w2 ⟨g, rfl, hc2, hb2⟩
  have ha2 := below_on ha1 hb2 s1
  have hc2 := hc2.mono (base' := w.heap.size) s1
  have hc2 : Has w2 w.heap.size g (mostC 0) := hc2
  clear hb2 ha1
  go_wp2_with (first | ((with_reducible apply wpList_unguard); rfl) | ((with_reducible (first | apply len_B | apply len_PB | apply len_PQ | apply len_L | apply len_Bat | apply len_Qst | apply len_H)); assumption) | ((with_reducible refine stop_ig kC ?_ ?_); rfl))
  rw [HR.out]
  obtain ⟨k, hk⟩ : ∃ k, k = 60 + r := ⟨_, rfl⟩
  have hki : (60 + (r : Int)) = (k : Int) := by omega
  rw [hki]
  have hk1 : 60 ≤ k := by omega
  have hk2 : k ≤ 68 := by omega
  have HK := Lib.hid hk
  clear hki hk HR
  go_loopg [8, 9, 10, 11, 12, 13, 31] (k + 1) (fun m x8 x9 x10 x11 x12 x13 i wr => ∃ j : Nat, m = k - j + 1 ∧ j ≤ k ∧ i = .int .i64 j ∧ Has wr w.heap.size g (mostC j) ∧ Below w.heap.size w wr)
  case atStart => exact ⟨0, by omega, by omega, rfl, hc2, ha2⟩
  case round =>
    clear hc2 ha2
    obtain ⟨j, hm, hj, rfl, hcr, har⟩ := hrel
    have Hm := Lib.hid hm
    clear hm
    have sr := har.size
    by_cases hlt : j < k
    · have hp := most_put ⟨j, by omega⟩
      have hq := most_askCode j (by omega)
      have HS := Lib.hid (most_step j (by omega))
      have hok := most_ok j (by omega)
      simp only at hp
      obtain ⟨code, hcode⟩ : ∃ code : Int, code = if 64 ≤ j then 8 else 0 := ⟨_, rfl⟩
      rw [← hcode] at hp hq
      have HP := Lib.hid hp
      have HQ2 := Lib.hid hq
      have HCD := Lib.hid hcode
      clear hp hq hcode
      go_wp2_with (first | ((with_reducible apply wpList_unguard); rfl) | ((with_reducible (first | apply len_B | apply len_PB | apply len_PQ | apply len_L | apply len_Bat | apply len_Qst | apply len_H)); assumption) | ((with_reducible refine stop_ig kC ?_ ?_); rfl))
      refine Stop.go (wpList_lit1 (α := OpR) (S := fun _ => False) rowO rfl (by decide) (by decide) op1 rfl ⟨.slice none 0 0, rfl, Sl.nil _ _⟩ fun vo w3 m1 m2 m3 m4 => ?_)
      have ha3 := har.grown0 m2 sr
      have hc3 := hcr.below (below_of_grown m2 (Nat.le_refl _) (by simp)) (Nat.le_refl _)
      have hput := put_has w3 (hN.below ha3 (Nat.le_refl _)) (hB.below ha3 (Nat.le_refl _)) w.heap.size g _ (mostC j) (UInt64.ofNat j) [op1] vo hc3 ha3.size m1.sl' hok
      rw [ofNat_toNat j (by omega), HP.out] at hput
      have hok1 := hok.put (UInt64.ofNat j) [op1]
      clear har m1 m2 m3 m4 hc3 hcr
      go_wp2_with (first | ((with_reducible apply wpList_unguard); rfl) | ((with_reducible (first | apply len_B | apply len_PB | apply len_PQ | apply len_L | apply len_Bat | apply len_Qst | apply len_H)); assumption) | ((with_reducible refine stop_ig kC ?_ ?_); rfl))
      refine hput.mono ?_
      clear hput
      rintro e w4 ⟨a1, p1, rfl, hc4, hb4⟩
      have ha4 := ha3.trans hb4
      have hask := ask_has w4 (hN.below ha4 (Nat.le_refl _)) (hB.below ha4 (Nat.le_refl _)) w.heap.size g _ _ _ _ hc4 ha4.size (qry_nt w4 j (by omega)) hok1
      rw [HQ2.out, HS.out] at hask
      clear hb4 ha3 hc4
      go_wp2_with (first | ((with_reducible apply wpList_unguard); rfl) | ((with_reducible (first | apply len_B | apply len_PB | apply len_PQ | apply len_L | apply len_Bat | apply len_Qst | apply len_H)); assumption) | ((with_reducible refine stop_ig kC ?_ ?_); rfl))
      refine hask.mono ?_
      clear hask
      rintro e w5 ⟨a2, p2, rfl, hc5, hb5⟩
      have ha5 := ha4.trans hb5
      clear hb5 ha4
      by_cases h64 : 64 ≤ j
      · have e : code = 8 := by rw [HCD.out, if_pos h64]
        subst e
        have h64' : (64 : Int) ≤ (j : Int) := by omega
        clear HCD HP HQ2
        go_wp2_with (fail)
        go_roundg (k - (j + 1) + 1)
        case measure => have := Hm.out; omega
        case rel => exact ⟨j + 1, by omega, by omega, by go_num, hc5, ha5⟩
      · have e : code = 0 := by rw [HCD.out, if_neg h64]
        subst e
        have h64' : ¬ (64 : Int) ≤ (j : Int) := by omega
        clear HCD HP HQ2
        go_wp2_with (fail)
        go_roundg (k - (j + 1) + 1)
        case measure => have := Hm.out; omega
        case rel => exact ⟨j + 1, by omega, by omega, by go_num, hc5, ha5⟩
    · obtain rfl : j = k := by omega
      have htw := most_twice ⟨r, hr9⟩ ⟨q, hq60⟩
      simp only at htw
      rw [← HK.out] at htw
      have hok := most_ok j (by omega)
      have HT := Lib.hid htw
      clear htw
      go_wp2_with (first | ((with_reducible apply wpList_unguard); rfl) | ((with_reducible (first | apply len_B | apply len_PB | apply len_PQ | apply len_L | apply len_Bat | apply len_Qst | apply len_H)); assumption) | ((with_reducible refine stop_ig kC ?_ ?_); rfl))
      refine Stop.go (wpList_lit1 (α := OpR) (S := fun _ => False) rowO rfl (by decide) (by decide) op1 rfl ⟨.slice none 0 0, rfl, Sl.nil _ _⟩ fun vo w3 m1 m2 m3 m4 => ?_)
      have ha3 := har.grown0 m2 sr
      have hc3 := hcr.below (below_of_grown m2 (Nat.le_refl _) (by simp)) (Nat.le_refl _)
      have hput := put_has w3 (hN.below ha3 (Nat.le_refl _)) (hB.below ha3 (Nat.le_refl _)) w.heap.size g _ (mostC j) (UInt64.ofNat q) [op1] vo hc3 ha3.size m1.sl' hok
      have hst := most_stay (c := mostC j) (num := UInt64.ofNat q) (l := [op1]) (by rw [HT.out.1]; decide)
      rw [ofNat_toNat q (by omega), HT.out.1, hst.1, hst.2] at hput
      clear har m1 m2 m3 m4 hc3 hcr hst
      rw [HQ.out]
      go_wp2_with (first | ((with_reducible apply wpList_unguard); rfl) | ((with_reducible (first | apply len_B | apply len_PB | apply len_PQ | apply len_L | apply len_Bat | apply len_Qst | apply len_H)); assumption) | ((with_reducible refine stop_ig kC ?_ ?_); rfl))
      refine hput.mono ?_
      clear hput
      rintro e w4 ⟨a1, p1, rfl, hc4, hb4⟩
      have ha4 := ha3.trans hb4
      have hask := ask_has w4 (hN.below ha4 (Nat.le_refl _)) (hB.below ha4 (Nat.le_refl _)) w.heap.size g _ (mostC j) _ _ hc4 ha4.size (qry_nt w4 q (by omega)) hok
      have hst := most_stay' (c := mostC j) (n := qryN (UInt64.ofNat q)) (by rw [HT.out.2]; decide)
      rw [HT.out.2, hst.1, hst.2] at hask
      clear hb4 ha3 hc4 hst
      go_wp2_with (first | ((with_reducible apply wpList_unguard); rfl) | ((with_reducible (first | apply len_B | apply len_PB | apply len_PQ | apply len_L | apply len_Bat | apply len_Qst | apply len_H)); assumption) | ((with_reducible refine stop_ig kC ?_ ?_); rfl))
      rw [HQ.out]
      refine hask.mono ?_
      clear hask
      rintro e w5 ⟨a2, p2, rfl, hc5, hb5⟩
      have ha5 := ha4.trans hb5
      have hask := ask_has w5 (hN.below ha5 (Nat.le_refl _)) (hB.below ha5 (Nat.le_refl _)) w.heap.size g (fun _ => False) (mostC j) { zeroN with kind := 1 } _ hc5 ha5.size (Nt.flat w5 _ { zeroN with kind := 1 } rfl rfl rfl rfl i64_zero i64_zero i64_zero i64_zero) hok
      have hst := most_stay' (c := mostC j) (n := { zeroN with kind := 1 }) (by rw [most_form]; decide)
      rw [most_form, hst.1, hst.2] at hask
      clear hb5 ha4 hc5 hst
      go_wp2_with (first | ((with_reducible apply wpList_unguard); rfl) | ((with_reducible (first | apply len_B | apply len_PB | apply len_PQ | apply len_L | apply len_Bat | apply len_Qst | apply len_H)); assumption) | ((with_reducible refine stop_ig kC ?_ ?_); rfl))
      refine hask.mono ?_
      clear hask
      rintro e w6 ⟨a3, p3, rfl, hc6, hb6⟩
      have ha6 := ha5.trans hb6
      have hwake := wake_has w6 _ g _ hc6 hok
      rw [most_wake] at hwake
      clear hb6 ha5 HT
      go_wp2_with (first | ((with_reducible apply wpList_unguard); rfl) | ((with_reducible (first | apply len_B | apply len_PB | apply len_PQ | apply len_L | apply len_Bat | apply len_Qst | apply len_H)); assumption) | ((with_reducible refine stop_ig kC ?_ ?_); rfl))
      refine hwake.mono ?_
      clear hwake
      rintro e w7 ⟨a4, p4, rfl, hb7⟩
      have ha7 := below_on ha6 hb7 ha6.size
      obtain ⟨m, hmm⟩ : ∃ m, m = min j 64 := ⟨_, rfl⟩
      have hmi : min (j : Int) 64 = (m : Int) := by omega
      rw [← hmm]
      have hml : m ≤ 64 := by omega
      have HMI := Lib.hid hmi
      clear hmm hmi hc6 hb7 ha6
      go_wp2_with (first | ((with_reducible apply wpList_unguard); rfl) | ((with_reducible (first | apply len_B | apply len_PB | apply len_PQ | apply len_L | apply len_Bat | apply len_Qst | apply len_H)); assumption) | ((with_reducible refine stop_ig kC ?_ ?_); rfl))
      refine Stop.go (min2 rfl rfl ?_)
      rw [HMI.out]
      have hb2m : (((2 * m : Nat) : Int) == 2 * (m : Int)) = true := by simp
      go_wp2_with (first | ((with_reducible apply wpList_unguard); rfl) | ((with_reducible (first | apply len_B | apply len_PB | apply len_PQ | apply len_L | apply len_Bat | apply len_Qst | apply len_H)); assumption) | ((with_reducible refine stop_ig kC ?_ ?_); rfl))
      go_ret
      exact ⟨rfl, ha7⟩
theorem callerMost_true (w : World) (hN : Srt w) (hB : Nib w) {n n' : Nat} (hn : n < 256) (hn' : n' < 256) :
    Calls Tryd.prog 8 #[.int .u8 (n : Int), .int .u8 (n' : Int)] w fun e w' => e = .returned (.bool true) ∧ Below w.heap.size w w' := callerMost_any w hN hB n n' hn hn'
end Go.Proofs.YtjkffjngamagkaaDoor
