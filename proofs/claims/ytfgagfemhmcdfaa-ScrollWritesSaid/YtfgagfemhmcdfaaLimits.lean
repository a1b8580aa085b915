/- package armillarylaw02: ScrollLimits. -/
import Derived.Test.YtfgagfemhmcdfaaVecs
import Derived.Test.YtfgagfemhmcdfaaOne
namespace Go.Proofs.Ytfgagfemhmcdfaa
open Go Go.RowKit Go.Arm

/-- max(x, 0), the number named. -/
theorem max0' {ops : Array Oper} {a : Act} {w : World} {rest : List Oper} {dst : Option Tmp} {ty : TypeId} {pos : String} {after : Array Edge} {Q : Exit → Act → World → Prop} {x y : Operand} {n : Int} {M : Nat} (hM : Hid (M = n.toNat)) (hx : a.eval x = .int .i64 n) (hy : a.eval y = .int .i64 0) (h : wpList Try.prog ops Q rest (a.put dst (.int .i64 (M : Int))) w) :
    wpList Try.prog ops Q (⟨dst, .call ⟨.builtin .max, #[x, y], #[3, 3]⟩, ty, pos, after, none⟩ :: rest) a w :=
  max0 hx hy (by rw [← hM.out]; exact h)

theorem rnum_enc (n M : Nat) (r : List UInt8) (h : n < 18446744073709551616) : rnum (enc n ++ r) 0 M = if M < n then (0, enc n ++ r, 3) else (n, r, 0) := by
  unfold rnum
  rw [if_neg (by decide), taken_enc n M r h]
  by_cases h2 : M < n
  · rw [if_pos h2, if_pos h2, if_pos (by decide)]
  · rw [if_neg h2, if_neg h2, if_neg (by simp)]
theorem rtext_enc (t : List UInt8) (M : Nat) (r : List UInt8) (h : t.length < 18446744073709551616) : rtext (encText t ++ r) 0 M = if M < t.length then ([], encText t ++ r, 3) else (t, r, 0) := by
  unfold rtext
  rw [if_neg (by decide), encText, List.append_assoc, taken_enc _ M _ h]
  by_cases h2 : M < t.length
  · rw [if_pos h2, if_pos h2, if_pos (by decide)]
  · rw [if_neg h2, if_neg h2, if_neg (by simp), if_neg (by simp)]
    simp
theorem rvecs_enc (v : List Int32) (M : Nat) (r : List UInt8) (h : v.length < 18446744073709551616) : rvecs (encVec v ++ r) 0 M = if M < v.length then ([], encVec v ++ r, 3) else (v, r, 0) := by
  unfold rvecs
  have e : encVec v ++ r = enc v.length ++ (encInts v ++ r) := by simp [encVec, encInts]
  rw [if_neg (by decide), e, taken_enc _ M _ h]
  by_cases h2 : M < v.length
  · rw [if_pos h2, if_pos h2, if_pos (by decide)]
  · rw [if_neg h2, if_neg h2, if_neg (by simp)]
    simp only
    rw [rvec_enc, if_neg (by simp)]

set_option maxHeartbeats 4000000 in
set_option maxRecDepth 100000 in
theorem scrollLimits_any (w : World) {S S' : Nat → Prop} (n : UInt64) {t : List UInt8} {v : List Int32} {p q : Value} (hp : Sl w S t p) (hq : Sl w S' v q) (most : Int) (hm : most ≤ 9223372036854775807) :
    Calls Try.prog 9 #[.int .u64 (n.toNat : Int), p, q, .int .i64 most] w fun e w' => e = .returned (.bool true) ∧ Below w.heap.size w w' := by
  obtain ⟨M, hM⟩ : ∃ M, M = most.toNat := ⟨_, rfl⟩
  have hMl : M < 9223372036854775808 := by omega
  have HM : Hid (M = most.toNat) := hM
  clear hM
  have hn := n.toNat_lt
  go_enter Try.func9, Try.ntmps9
  go_wp2_with (first | ((with_reducible apply wpList_unguard); rfl) | (with_reducible refine stop_make ?_) | ((with_reducible apply len_B); assumption) | ((with_reducible apply len_BB); assumption)  | ((with_reducible apply len_N); assumption) | ((with_reducible apply len_V); assumption) | ((with_reducible apply len_VV); assumption)  | (with_reducible refine stop_builtin ?_) | (with_reducible refine stop_slice ?_) | (with_reducible refine stop_index_B ?_) | (with_reducible refine stop_index_BB ?_)  | (with_reducible refine stop_index_N ?_) | (with_reducible refine stop_index_V ?_) | (with_reducible refine stop_index_VV ?_)  | (with_reducible refine stop_str_B ?_) | (with_reducible refine stop_mark_B ?_) | (with_reducible refine stop_buildSlice ?_))
  refine (awake_any w).mono ?_
  rintro e w0 ⟨rfl, hb0⟩
  have hp0 := hp.old.below hb0 (Nat.le_refl _)
  have hq0 := hq.old.below hb0 (Nat.le_refl _)
  clear hp hq
  go_wp2_with (first | ((with_reducible apply wpList_unguard); rfl) | (with_reducible refine stop_make ?_) | ((with_reducible apply len_B); assumption) | ((with_reducible apply len_BB); assumption)  | ((with_reducible apply len_N); assumption) | ((with_reducible apply len_V); assumption) | ((with_reducible apply len_VV); assumption)  | (with_reducible refine stop_builtin ?_) | (with_reducible refine stop_slice ?_) | (with_reducible refine stop_index_B ?_) | (with_reducible refine stop_index_BB ?_)  | (with_reducible refine stop_index_N ?_) | (with_reducible refine stop_index_V ?_) | (with_reducible refine stop_index_VV ?_)  | (with_reducible refine stop_str_B ?_) | (with_reducible refine stop_mark_B ?_) | (with_reducible refine stop_buildSlice ?_))
  refine (cut_any w0 _ _ _ 50 hp0 (by decide) (by decide)).mono ?_
  rintro e w1 ⟨p1, rfl, hp1, hb⟩
  have hb1 := below_on hb0 hb hb0.size
  have hq1 := hq0.below hb (Nat.le_refl _)
  obtain ⟨T, hT⟩ : ∃ T, T = t.take 50 := ⟨_, rfl⟩
  have hTl : T.length ≤ 50 := by rw [hT, List.length_take]; omega
  rw [show (50 : Int).toNat = 50 from rfl, ← hT] at hp1
  clear hb hT hp0 hq0 hb0
  go_wp2_with (first | ((with_reducible apply wpList_unguard); rfl) | (with_reducible refine stop_make ?_) | ((with_reducible apply len_B); assumption) | ((with_reducible apply len_BB); assumption)  | ((with_reducible apply len_N); assumption) | ((with_reducible apply len_V); assumption) | ((with_reducible apply len_VV); assumption)  | (with_reducible refine stop_builtin ?_) | (with_reducible refine stop_slice ?_) | (with_reducible refine stop_index_B ?_) | (with_reducible refine stop_index_BB ?_)  | (with_reducible refine stop_index_N ?_) | (with_reducible refine stop_index_V ?_) | (with_reducible refine stop_index_VV ?_)  | (with_reducible refine stop_str_B ?_) | (with_reducible refine stop_mark_B ?_) | (with_reducible refine stop_buildSlice ?_))
  refine (cutvec_any w1 _ _ _ 20 hq1 (by decide) (by decide)).mono ?_
  rintro e w2 ⟨q2, rfl, hq2, hb⟩
  have hb2 := below_on hb1 hb hb1.size
  have hp2 := (hp1.sl'.old.below hb (Nat.le_refl _)).old
  obtain ⟨V, hV⟩ : ∃ V, V = v.take 20 := ⟨_, rfl⟩
  have hVl : V.length ≤ 20 := by rw [hV, List.length_take]; omega
  rw [show (20 : Int).toNat = 20 from rfl, ← hV] at hq2
  have hq2 := hq2.sl'.old
  clear hb hV hp1 hq1 hb1
  have hel1 := encText_len T (by omega)
  have hel2 : (encVec V).length ≤ 1000 := by have := encInts_len V; have := enc_len10 V.length (by omega); rw [encVec, List.length_append]; unfold encInts at *; omega
  go_wp2_with (first | ((with_reducible apply wpList_unguard); rfl) | (with_reducible refine stop_make ?_) | ((with_reducible apply len_B); assumption) | ((with_reducible apply len_BB); assumption)  | ((with_reducible apply len_N); assumption) | ((with_reducible apply len_V); assumption) | ((with_reducible apply len_VV); assumption)  | (with_reducible refine stop_builtin ?_) | (with_reducible refine stop_slice ?_) | (with_reducible refine stop_index_B ?_) | (with_reducible refine stop_index_BB ?_)  | (with_reducible refine stop_index_N ?_) | (with_reducible refine stop_index_V ?_) | (with_reducible refine stop_index_VV ?_)  | (with_reducible refine stop_str_B ?_) | (with_reducible refine stop_mark_B ?_) | (with_reducible refine stop_buildSlice ?_))
  have hwq3 : Wf w2 (w2.alloc (.cells #[.slice none 0 0] 27)) w2.heap.size none [] := Wf.fresh (Nat.le_refl _)
  have hbq3 := (Below.refl w2.heap.size w2).alloc (Nat.le_refl _) (.cells #[.slice none 0 0] 27)
  have hgs3 : w2.heap.size < (w2.alloc (.cells #[.slice none 0 0] 27)).heap.size := hwq3.wr.lt
  obtain ⟨w3, hwe3⟩ : ∃ w', w' = w2.alloc (.cells #[.slice none 0 0] 27) := ⟨_, rfl⟩
  rw [← hwe3] at hwq3 hbq3 hgs3 ⊢
  clear hwe3
  obtain ⟨g3, hg3⟩ : ∃ g, g = w2.heap.size := ⟨_, rfl⟩
  have hgg3 : w2.heap.size ≤ g3 := Nat.le_of_eq hg3.symm
  rw [← hg3] at hwq3 hgs3 ⊢
  clear hg3
  refine Stop.go (build_N (S := fun _ => False) ([n] : List UInt64) [_] rfl rfl rds_N (by simp) fun x4 w4 k1 k2 k3 k4 => ?_)
  have hb4 := hbq3.grown k2 hbq3.size (by simp)
  have hw4 := hwq3.keep (below_of_grown k2 (Nat.le_refl _) (by simp))
  have hx4 := build_flat k1 k3
  clear k1 k2 k3 hwq3 hbq3
  go_wp2_with (first | ((with_reducible apply wpList_unguard); rfl) | (with_reducible refine stop_make ?_) | ((with_reducible apply len_B); assumption) | ((with_reducible apply len_BB); assumption)  | ((with_reducible apply len_N); assumption) | ((with_reducible apply len_V); assumption) | ((with_reducible apply len_VV); assumption)  | (with_reducible refine stop_builtin ?_) | (with_reducible refine stop_slice ?_) | (with_reducible refine stop_index_B ?_) | (with_reducible refine stop_index_BB ?_)  | (with_reducible refine stop_index_N ?_) | (with_reducible refine stop_index_V ?_) | (with_reducible refine stop_index_VV ?_)  | (with_reducible refine stop_str_B ?_) | (with_reducible refine stop_mark_B ?_) | (with_reducible refine stop_buildSlice ?_))
  refine (wnums_any w4 g3 none [] _ [n] x4 hw4.wr hx4 (by rintro b rfl; exact ⟨by omega, by omega, by simp⟩) (by simp) (by simp)).mono ?_
  rintro e w5 ⟨rfl, h5, a1, a2⟩
  rw [List.nil_append, show encs [n] = enc n.toNat by simp [encs]] at a1
  have hb5 := hw4.below hb4 a2
  have hw5 := hw4.step a1 a2
  have hr5 := hw5.wr.row_lt
  have hs5 := a2.2.size
  clear a1 a2 hw4 hb4 hx4
  go_wp2_with (first | ((with_reducible apply wpList_unguard); rfl) | (with_reducible refine stop_make ?_) | ((with_reducible apply len_B); assumption) | ((with_reducible apply len_BB); assumption)  | ((with_reducible apply len_N); assumption) | ((with_reducible apply len_V); assumption) | ((with_reducible apply len_VV); assumption)  | (with_reducible refine stop_builtin ?_) | (with_reducible refine stop_slice ?_) | (with_reducible refine stop_index_B ?_) | (with_reducible refine stop_index_BB ?_)  | (with_reducible refine stop_index_N ?_) | (with_reducible refine stop_index_V ?_) | (with_reducible refine stop_index_VV ?_)  | (with_reducible refine stop_str_B ?_) | (with_reducible refine stop_mark_B ?_) | (with_reducible refine stop_buildSlice ?_))
  refine Stop.go (build_N (S := fun _ => False) ([1] : List UInt64) [.int .u64 1] rfl rfl (rds_N (l := [1])) (by simp) fun x6 w6 k1 k2 k3 k4 => ?_)
  have hb6 := hb5.grown k2 hb5.size (by simp)
  have hw6 := hw5.keep (below_of_grown k2 (Nat.le_refl _) (by simp))
  have hx6 := build_flat k1 k3
  clear k1 k2 k3 hw5 hb5
  go_wp2_with (first | ((with_reducible apply wpList_unguard); rfl) | (with_reducible refine stop_make ?_) | ((with_reducible apply len_B); assumption) | ((with_reducible apply len_BB); assumption)  | ((with_reducible apply len_N); assumption) | ((with_reducible apply len_V); assumption) | ((with_reducible apply len_VV); assumption)  | (with_reducible refine stop_builtin ?_) | (with_reducible refine stop_slice ?_) | (with_reducible refine stop_index_B ?_) | (with_reducible refine stop_index_BB ?_)  | (with_reducible refine stop_index_N ?_) | (with_reducible refine stop_index_V ?_) | (with_reducible refine stop_index_VV ?_)  | (with_reducible refine stop_str_B ?_) | (with_reducible refine stop_mark_B ?_) | (with_reducible refine stop_buildSlice ?_))
  have hel := enc_len10 n.toNat hn
  refine (wnums_any w6 g3 h5 _ _ [1] x6 hw6.wr hx6 (by rintro b rfl; exact ⟨by omega, by omega, fun e => by have := hr5 _ e; omega⟩) (by omega) (by simp)).mono ?_
  rintro e w7 ⟨rfl, h7, a1, a2⟩
  rw [show encs [1] = [1] by simp [encs, enc_small]] at a1
  have hb7 := hw6.below hb6 a2
  have hw7 := hw6.step a1 a2
  clear a1 a2 hw6 hb6 hx6 hr5
  go_wp2_with (first | ((with_reducible apply wpList_unguard); rfl) | (with_reducible refine stop_make ?_) | ((with_reducible apply len_B); assumption) | ((with_reducible apply len_BB); assumption)  | ((with_reducible apply len_N); assumption) | ((with_reducible apply len_V); assumption) | ((with_reducible apply len_VV); assumption)  | (with_reducible refine stop_builtin ?_) | (with_reducible refine stop_slice ?_) | (with_reducible refine stop_index_B ?_) | (with_reducible refine stop_index_BB ?_)  | (with_reducible refine stop_index_N ?_) | (with_reducible refine stop_index_V ?_) | (with_reducible refine stop_index_VV ?_)  | (with_reducible refine stop_str_B ?_) | (with_reducible refine stop_mark_B ?_) | (with_reducible refine stop_buildSlice ?_))
  refine (wbytes_any w7 g3 h7 _ hw7.wr (by rw [List.length_append]; simp; omega)).mono ?_
  rintro e w8 ⟨p8, rfl, hp8, hb⟩
  have hb8 := below_on hb7 hb hb7.size
  have hp8 := hp8.sl'.old
  clear hb hb7 hw7
  obtain ⟨P, hP⟩ : ∃ P, P = enc n.toNat ++ [1] := ⟨_, rfl⟩
  have hPl : P.length ≤ 11 := by rw [hP, List.length_append]; simp; omega
  have hRP := rnum_enc n.toNat M [1] hn
  rw [← hP] at hp8 hRP
  clear hP hel
  go_wp2_with (first | ((with_reducible apply wpList_unguard); rfl) | (with_reducible refine stop_make ?_) | ((with_reducible apply len_B); assumption) | ((with_reducible apply len_BB); assumption)  | ((with_reducible apply len_N); assumption) | ((with_reducible apply len_V); assumption) | ((with_reducible apply len_VV); assumption)  | (with_reducible refine stop_builtin ?_) | (with_reducible refine stop_slice ?_) | (with_reducible refine stop_index_B ?_) | (with_reducible refine stop_index_BB ?_)  | (with_reducible refine stop_index_N ?_) | (with_reducible refine stop_index_V ?_) | (with_reducible refine stop_index_VV ?_)  | (with_reducible refine stop_str_B ?_) | (with_reducible refine stop_mark_B ?_) | (with_reducible refine stop_buildSlice ?_))
  refine (new_any w8 _ P p8 hp8 (by omega)).mono ?_
  rintro e w9 ⟨r, rfl, hr, hR9, hb⟩
  have hb9 := below_on hb8 hb hb8.size
  have hs9 := hb8.size
  have hp9 := hp8.below hb (Nat.le_refl _)
  clear hb hb8 hp8
  go_wp2_with (first | ((with_reducible apply wpList_unguard); rfl) | (with_reducible refine stop_make ?_) | ((with_reducible apply len_B); assumption) | ((with_reducible apply len_BB); assumption)  | ((with_reducible apply len_N); assumption) | ((with_reducible apply len_V); assumption) | ((with_reducible apply len_VV); assumption)  | (with_reducible refine stop_builtin ?_) | (with_reducible refine stop_slice ?_) | (with_reducible refine stop_index_B ?_) | (with_reducible refine stop_index_BB ?_)  | (with_reducible refine stop_index_N ?_) | (with_reducible refine stop_index_V ?_) | (with_reducible refine stop_index_VV ?_)  | (with_reducible refine stop_str_B ?_) | (with_reducible refine stop_mark_B ?_) | (with_reducible refine stop_buildSlice ?_))
  refine Stop.go (max0' HM rfl rfl ?_)
  go_wp2_with (first | ((with_reducible apply wpList_unguard); rfl) | (with_reducible refine stop_make ?_) | ((with_reducible apply len_B); assumption) | ((with_reducible apply len_BB); assumption)  | ((with_reducible apply len_N); assumption) | ((with_reducible apply len_V); assumption) | ((with_reducible apply len_VV); assumption)  | (with_reducible refine stop_builtin ?_) | (with_reducible refine stop_slice ?_) | (with_reducible refine stop_index_B ?_) | (with_reducible refine stop_index_BB ?_)  | (with_reducible refine stop_index_N ?_) | (with_reducible refine stop_index_V ?_) | (with_reducible refine stop_index_VV ?_)  | (with_reducible refine stop_str_B ?_) | (with_reducible refine stop_mark_B ?_) | (with_reducible refine stop_buildSlice ?_))
  refine (num_any' w9 r _ P 0 M hR9).mono ?_
  rintro e w10 ⟨rfl, hR10, ho⟩
  have hb10 := below_only hb9 ho (by rintro k rfl; omega)
  have hp10 := hp9.only ho (by rintro b hb _ rfl; exact absurd hb (by omega))
  clear ho hR9 hb9 hp9
  rw [hRP] at hR10 ⊢
  have HRP := Lib.hid hRP
  clear hRP
  by_cases hnM : M < n.toNat
  case' pos =>
    rw [if_pos hnM] at hR10 ⊢
    simp only at hR10
    go_wp2_with (first | ((with_reducible apply wpList_unguard); rfl) | (with_reducible refine stop_make ?_) | ((with_reducible apply len_B); assumption) | ((with_reducible apply len_BB); assumption)  | ((with_reducible apply len_N); assumption) | ((with_reducible apply len_V); assumption) | ((with_reducible apply len_VV); assumption)  | (with_reducible refine stop_builtin ?_) | (with_reducible refine stop_slice ?_) | (with_reducible refine stop_index_B ?_) | (with_reducible refine stop_index_BB ?_)  | (with_reducible refine stop_index_N ?_) | (with_reducible refine stop_index_V ?_) | (with_reducible refine stop_index_VV ?_)  | (with_reducible refine stop_str_B ?_) | (with_reducible refine stop_mark_B ?_) | (with_reducible refine stop_buildSlice ?_))
    refine Stop.go (max0' HM rfl rfl ?_)
    go_wp2_with (first | ((with_reducible apply wpList_unguard); rfl) | (with_reducible refine stop_make ?_) | ((with_reducible apply len_B); assumption) | ((with_reducible apply len_BB); assumption)  | ((with_reducible apply len_N); assumption) | ((with_reducible apply len_V); assumption) | ((with_reducible apply len_VV); assumption)  | (with_reducible refine stop_builtin ?_) | (with_reducible refine stop_slice ?_) | (with_reducible refine stop_index_B ?_) | (with_reducible refine stop_index_BB ?_)  | (with_reducible refine stop_index_N ?_) | (with_reducible refine stop_index_V ?_) | (with_reducible refine stop_index_VV ?_)  | (with_reducible refine stop_str_B ?_) | (with_reducible refine stop_mark_B ?_) | (with_reducible refine stop_buildSlice ?_))
    refine (num_any' w10 r _ P 3 9 hR10).mono ?_
    rw [show rnum P 3 9 = (0, P, 3) from rfl]
    rintro e w11 ⟨rfl, hR11, ho⟩
    have hb11 := below_only hb10 ho (by rintro k rfl; omega)
    have hp11 := hp10.only ho (by rintro b hb _ rfl; exact absurd hb (by omega))
    clear ho hR10 hb10 hp10
    go_wp2_with (first | ((with_reducible apply wpList_unguard); rfl) | (with_reducible refine stop_make ?_) | ((with_reducible apply len_B); assumption) | ((with_reducible apply len_BB); assumption)  | ((with_reducible apply len_N); assumption) | ((with_reducible apply len_V); assumption) | ((with_reducible apply len_VV); assumption)  | (with_reducible refine stop_builtin ?_) | (with_reducible refine stop_slice ?_) | (with_reducible refine stop_index_B ?_) | (with_reducible refine stop_index_BB ?_)  | (with_reducible refine stop_index_N ?_) | (with_reducible refine stop_index_V ?_) | (with_reducible refine stop_index_VV ?_)  | (with_reducible refine stop_str_B ?_) | (with_reducible refine stop_mark_B ?_) | (with_reducible refine stop_buildSlice ?_))
    refine (end_any w11 r _ _ _ hR11).mono ?_
    rintro e w' ⟨rfl, rfl⟩
    rw [show rend P 3 = 3 from rfl]
    go_wp2_with (first | ((with_reducible apply wpList_unguard); rfl) | (with_reducible refine stop_make ?_) | ((with_reducible apply len_B); assumption) | ((with_reducible apply len_BB); assumption)  | ((with_reducible apply len_N); assumption) | ((with_reducible apply len_V); assumption) | ((with_reducible apply len_VV); assumption)  | (with_reducible refine stop_builtin ?_) | (with_reducible refine stop_slice ?_) | (with_reducible refine stop_index_B ?_) | (with_reducible refine stop_index_BB ?_)  | (with_reducible refine stop_index_N ?_) | (with_reducible refine stop_index_V ?_) | (with_reducible refine stop_index_VV ?_)  | (with_reducible refine stop_str_B ?_) | (with_reducible refine stop_mark_B ?_) | (with_reducible refine stop_buildSlice ?_))
    refine (left_any w11 r _ _ _ hR11).mono ?_
    rintro e w' ⟨rfl, rfl⟩
    clear hR11
  case' neg =>
    have hle : (n.toNat : Int) ≤ (M : Int) := by omega
    rw [if_neg hnM] at hR10 ⊢
    simp only at hR10
    go_wp2_with (first | ((with_reducible apply wpList_unguard); rfl) | (with_reducible refine stop_make ?_) | ((with_reducible apply len_B); assumption) | ((with_reducible apply len_BB); assumption)  | ((with_reducible apply len_N); assumption) | ((with_reducible apply len_V); assumption) | ((with_reducible apply len_VV); assumption)  | (with_reducible refine stop_builtin ?_) | (with_reducible refine stop_slice ?_) | (with_reducible refine stop_index_B ?_) | (with_reducible refine stop_index_BB ?_)  | (with_reducible refine stop_index_N ?_) | (with_reducible refine stop_index_V ?_) | (with_reducible refine stop_index_VV ?_)  | (with_reducible refine stop_str_B ?_) | (with_reducible refine stop_mark_B ?_) | (with_reducible refine stop_buildSlice ?_))
    refine Stop.go (max0' HM rfl rfl ?_)
    go_wp2_with (first | ((with_reducible apply wpList_unguard); rfl) | (with_reducible refine stop_make ?_) | ((with_reducible apply len_B); assumption) | ((with_reducible apply len_BB); assumption)  | ((with_reducible apply len_N); assumption) | ((with_reducible apply len_V); assumption) | ((with_reducible apply len_VV); assumption)  | (with_reducible refine stop_builtin ?_) | (with_reducible refine stop_slice ?_) | (with_reducible refine stop_index_B ?_) | (with_reducible refine stop_index_BB ?_)  | (with_reducible refine stop_index_N ?_) | (with_reducible refine stop_index_V ?_) | (with_reducible refine stop_index_VV ?_)  | (with_reducible refine stop_str_B ?_) | (with_reducible refine stop_mark_B ?_) | (with_reducible refine stop_buildSlice ?_))
    refine (num_any' w10 r _ [1] 0 9 hR10).mono ?_
    rw [show rnum [1] 0 9 = (1, [], 0) by simp [rnum, taken, peek, peekGo]]
    rintro e w11 ⟨rfl, hR11, ho⟩
    have hb11 := below_only hb10 ho (by rintro k rfl; omega)
    have hp11 := hp10.only ho (by rintro b hb _ rfl; exact absurd hb (by omega))
    clear ho hR10 hb10 hp10
    go_wp2_with (first | ((with_reducible apply wpList_unguard); rfl) | (with_reducible refine stop_make ?_) | ((with_reducible apply len_B); assumption) | ((with_reducible apply len_BB); assumption)  | ((with_reducible apply len_N); assumption) | ((with_reducible apply len_V); assumption) | ((with_reducible apply len_VV); assumption)  | (with_reducible refine stop_builtin ?_) | (with_reducible refine stop_slice ?_) | (with_reducible refine stop_index_B ?_) | (with_reducible refine stop_index_BB ?_)  | (with_reducible refine stop_index_N ?_) | (with_reducible refine stop_index_V ?_) | (with_reducible refine stop_index_VV ?_)  | (with_reducible refine stop_str_B ?_) | (with_reducible refine stop_mark_B ?_) | (with_reducible refine stop_buildSlice ?_))
    refine (end_any w11 r _ _ _ hR11).mono ?_
    rintro e w' ⟨rfl, rfl⟩
    rw [show rend [] 0 = 0 from rfl]
    clear hR11
  all_goals
    have hp2' := hp2.below hb11 (Nat.le_refl _)
    have hq2' := hq2.below hb11 (Nat.le_refl _)
    have hB11 := below_on hb2 hb11 hb2.size
    have hs11 := hb11.size
    clear hb11 hp2 hq2 hb2
    go_wp2_with (first | ((with_reducible apply wpList_unguard); rfl) | (with_reducible refine stop_make ?_) | ((with_reducible apply len_B); assumption) | ((with_reducible apply len_BB); assumption)  | ((with_reducible apply len_N); assumption) | ((with_reducible apply len_V); assumption) | ((with_reducible apply len_VV); assumption)  | (with_reducible refine stop_builtin ?_) | (with_reducible refine stop_slice ?_) | (with_reducible refine stop_index_B ?_) | (with_reducible refine stop_index_BB ?_)  | (with_reducible refine stop_index_N ?_) | (with_reducible refine stop_index_V ?_) | (with_reducible refine stop_index_VV ?_)  | (with_reducible refine stop_str_B ?_) | (with_reducible refine stop_mark_B ?_) | (with_reducible refine stop_buildSlice ?_))
    have hwq12 : Wf w11 (w11.alloc (.cells #[.slice none 0 0] 27)) w11.heap.size none [] := Wf.fresh (Nat.le_refl _)
    have hbq12 := (Below.refl w11.heap.size w11).alloc (Nat.le_refl _) (.cells #[.slice none 0 0] 27)
    have hgs12 : w11.heap.size < (w11.alloc (.cells #[.slice none 0 0] 27)).heap.size := hwq12.wr.lt
    obtain ⟨w12, hwe12⟩ : ∃ w', w' = w11.alloc (.cells #[.slice none 0 0] 27) := ⟨_, rfl⟩
    rw [← hwe12] at hwq12 hbq12 hgs12 ⊢
    clear hwe12
    obtain ⟨g12, hg12⟩ : ∃ g, g = w11.heap.size := ⟨_, rfl⟩
    have hgg12 : w11.heap.size ≤ g12 := Nat.le_of_eq hg12.symm
    rw [← hg12] at hwq12 hgs12 ⊢
    clear hg12
    have hv12 := hp2'.below hbq12 (Nat.le_refl _)
    refine Stop.go (build_BB [T] [_] rfl rfl ⟨_, _, rfl, ⟨_, rfl, hv12⟩, rfl⟩ (by simp) fun x13 w13 k1 k2 k3 k4 => ?_)
    have hb13 := hbq12.grown k2 hbq12.size (by simp)
    have hw13 := hwq12.keep (below_of_grown k2 (Nat.le_refl _) (by simp))
    have hx13 : Sl w13 (fun b => b < w2.heap.size ∨ b = w12.heap.size) [T] x13 := k1.sl (fun b h _ => .inl h) (fun b hb => .inr (by rw [k3] at hb; exact (Option.some.inj hb).symm))
    clear k1 k2 k3 hwq12 hbq12 hv12
    go_wp2_with (first | ((with_reducible apply wpList_unguard); rfl) | (with_reducible refine stop_make ?_) | ((with_reducible apply len_B); assumption) | ((with_reducible apply len_BB); assumption)  | ((with_reducible apply len_N); assumption) | ((with_reducible apply len_V); assumption) | ((with_reducible apply len_VV); assumption)  | (with_reducible refine stop_builtin ?_) | (with_reducible refine stop_slice ?_) | (with_reducible refine stop_index_B ?_) | (with_reducible refine stop_index_BB ?_)  | (with_reducible refine stop_index_N ?_) | (with_reducible refine stop_index_V ?_) | (with_reducible refine stop_index_VV ?_)  | (with_reducible refine stop_str_B ?_) | (with_reducible refine stop_mark_B ?_) | (with_reducible refine stop_buildSlice ?_))
    refine (wtext_any w13 g12 none [] _ [T] x13 hw13.wr hx13 (by rintro b (h | rfl) <;> exact ⟨by omega, by omega, by simp⟩) (by simp) (by simp) (by intro t ht; simp at ht; subst ht; omega)).mono ?_
    rintro e w14 ⟨rfl, h14, a1, a2⟩
    rw [List.nil_append, show encTexts [T] = encText T by simp [encTexts]] at a1
    have hb14 := hw13.below hb13 a2
    have hw14 := hw13.step a1 a2
    clear a1 a2 hw13 hb13 hx13
    go_wp2_with (first | ((with_reducible apply wpList_unguard); rfl) | (with_reducible refine stop_make ?_) | ((with_reducible apply len_B); assumption) | ((with_reducible apply len_BB); assumption)  | ((with_reducible apply len_N); assumption) | ((with_reducible apply len_V); assumption) | ((with_reducible apply len_VV); assumption)  | (with_reducible refine stop_builtin ?_) | (with_reducible refine stop_slice ?_) | (with_reducible refine stop_index_B ?_) | (with_reducible refine stop_index_BB ?_)  | (with_reducible refine stop_index_N ?_) | (with_reducible refine stop_index_V ?_) | (with_reducible refine stop_index_VV ?_)  | (with_reducible refine stop_str_B ?_) | (with_reducible refine stop_mark_B ?_) | (with_reducible refine stop_buildSlice ?_))
    refine (wbytes_any w14 g12 h14 _ hw14.wr (by omega)).mono ?_
    rintro e w15 ⟨p15, rfl, hp15, hb⟩
    have hb15 := below_on hb14 hb hb14.size
    have hp15 := hp15.sl'.old
    have hs15 := hb15.size
    clear hb hb14 hw14
    go_wp2_with (first | ((with_reducible apply wpList_unguard); rfl) | (with_reducible refine stop_make ?_) | ((with_reducible apply len_B); assumption) | ((with_reducible apply len_BB); assumption)  | ((with_reducible apply len_N); assumption) | ((with_reducible apply len_V); assumption) | ((with_reducible apply len_VV); assumption)  | (with_reducible refine stop_builtin ?_) | (with_reducible refine stop_slice ?_) | (with_reducible refine stop_index_B ?_) | (with_reducible refine stop_index_BB ?_)  | (with_reducible refine stop_index_N ?_) | (with_reducible refine stop_index_V ?_) | (with_reducible refine stop_index_VV ?_)  | (with_reducible refine stop_str_B ?_) | (with_reducible refine stop_mark_B ?_) | (with_reducible refine stop_buildSlice ?_))
    refine (new_any w15 _ _ p15 hp15 (by omega)).mono ?_
    rintro e w16 ⟨r16, rfl, hr16, hR16, hb⟩
    have hR16 := hR16.old
    have hrl16 := hR16.lt
    have hb16 := below_on hb15 hb hb15.size
    have hs16 := hb.size
    clear hb hb15 hp15
    have hq16 := hq2'.below hb16 (Nat.le_refl _)
    have hp16 := hp2'.below hb16 (Nat.le_refl _)
    have hB16 := below_on hB11 hb16 hB11.size
    have hs00 := hB11.size
    clear hb16 hq2' hp2' hB11
    go_wp2_with (first | ((with_reducible apply wpList_unguard); rfl) | (with_reducible refine stop_make ?_) | ((with_reducible apply len_B); assumption) | ((with_reducible apply len_BB); assumption)  | ((with_reducible apply len_N); assumption) | ((with_reducible apply len_V); assumption) | ((with_reducible apply len_VV); assumption)  | (with_reducible refine stop_builtin ?_) | (with_reducible refine stop_slice ?_) | (with_reducible refine stop_index_B ?_) | (with_reducible refine stop_index_BB ?_)  | (with_reducible refine stop_index_N ?_) | (with_reducible refine stop_index_V ?_) | (with_reducible refine stop_index_VV ?_)  | (with_reducible refine stop_str_B ?_) | (with_reducible refine stop_mark_B ?_) | (with_reducible refine stop_buildSlice ?_))
    have hwq17 : Wf w16 (w16.alloc (.cells #[.slice none 0 0] 27)) w16.heap.size none [] := Wf.fresh (Nat.le_refl _)
    have hbq17 := (Below.refl w16.heap.size w16).alloc (Nat.le_refl _) (.cells #[.slice none 0 0] 27)
    have hgs17 : w16.heap.size < (w16.alloc (.cells #[.slice none 0 0] 27)).heap.size := hwq17.wr.lt
    obtain ⟨w17, hwe17⟩ : ∃ w', w' = w16.alloc (.cells #[.slice none 0 0] 27) := ⟨_, rfl⟩
    rw [← hwe17] at hwq17 hbq17 hgs17 ⊢
    clear hwe17
    obtain ⟨g17, hg17⟩ : ∃ g, g = w16.heap.size := ⟨_, rfl⟩
    have hgg17 : w16.heap.size ≤ g17 := Nat.le_of_eq hg17.symm
    rw [← hg17] at hwq17 hgs17 ⊢
    clear hg17
    have hv17 := hq16.below hbq17 (Nat.le_refl _)
    refine Stop.go (build_VV [V] [_] rfl rfl ⟨_, _, rfl, ⟨_, rfl, hv17⟩, rfl⟩ (by simp) fun x18 w18 k1 k2 k3 k4 => ?_)
    have hb18 := hbq17.grown k2 hbq17.size (by simp)
    have hw18 := hwq17.keep (below_of_grown k2 (Nat.le_refl _) (by simp))
    have hx18 : Sl w18 (fun b => b < w2.heap.size ∨ b = w17.heap.size) [V] x18 := k1.sl (fun b h _ => .inl h) (fun b hb => .inr (by rw [k3] at hb; exact (Option.some.inj hb).symm))
    clear k1 k2 k3 hwq17 hbq17 hv17
    go_wp2_with (first | ((with_reducible apply wpList_unguard); rfl) | (with_reducible refine stop_make ?_) | ((with_reducible apply len_B); assumption) | ((with_reducible apply len_BB); assumption)  | ((with_reducible apply len_N); assumption) | ((with_reducible apply len_V); assumption) | ((with_reducible apply len_VV); assumption)  | (with_reducible refine stop_builtin ?_) | (with_reducible refine stop_slice ?_) | (with_reducible refine stop_index_B ?_) | (with_reducible refine stop_index_BB ?_)  | (with_reducible refine stop_index_N ?_) | (with_reducible refine stop_index_V ?_) | (with_reducible refine stop_index_VV ?_)  | (with_reducible refine stop_str_B ?_) | (with_reducible refine stop_mark_B ?_) | (with_reducible refine stop_buildSlice ?_))
    refine (wvecs_any w18 g17 none [] _ [V] x18 hw18.wr hx18 (by rintro b (h | rfl) <;> exact ⟨by omega, by omega, by simp⟩) (by simp) (by simp) (by intro t ht; simp at ht; subst ht; omega)).mono ?_
    rintro e w19 ⟨rfl, h19, a1, a2⟩
    rw [List.nil_append, show encVecs [V] = encVec V by simp [encVecs]] at a1
    have hb19 := hw18.below hb18 a2
    have hw19 := hw18.step a1 a2
    clear a1 a2 hw18 hb18 hx18
    go_wp2_with (first | ((with_reducible apply wpList_unguard); rfl) | (with_reducible refine stop_make ?_) | ((with_reducible apply len_B); assumption) | ((with_reducible apply len_BB); assumption)  | ((with_reducible apply len_N); assumption) | ((with_reducible apply len_V); assumption) | ((with_reducible apply len_VV); assumption)  | (with_reducible refine stop_builtin ?_) | (with_reducible refine stop_slice ?_) | (with_reducible refine stop_index_B ?_) | (with_reducible refine stop_index_BB ?_)  | (with_reducible refine stop_index_N ?_) | (with_reducible refine stop_index_V ?_) | (with_reducible refine stop_index_VV ?_)  | (with_reducible refine stop_str_B ?_) | (with_reducible refine stop_mark_B ?_) | (with_reducible refine stop_buildSlice ?_))
    refine (wbytes_any w19 g17 h19 _ hw19.wr (by omega)).mono ?_
    rintro e w20 ⟨p20, rfl, hp20, hb⟩
    have hb20 := below_on hb19 hb hb19.size
    have hp20 := hp20.sl'.old
    have hs20 := hb20.size
    clear hb hb19 hw19
    go_wp2_with (first | ((with_reducible apply wpList_unguard); rfl) | (with_reducible refine stop_make ?_) | ((with_reducible apply len_B); assumption) | ((with_reducible apply len_BB); assumption)  | ((with_reducible apply len_N); assumption) | ((with_reducible apply len_V); assumption) | ((with_reducible apply len_VV); assumption)  | (with_reducible refine stop_builtin ?_) | (with_reducible refine stop_slice ?_) | (with_reducible refine stop_index_B ?_) | (with_reducible refine stop_index_BB ?_)  | (with_reducible refine stop_index_N ?_) | (with_reducible refine stop_index_V ?_) | (with_reducible refine stop_index_VV ?_)  | (with_reducible refine stop_str_B ?_) | (with_reducible refine stop_mark_B ?_) | (with_reducible refine stop_buildSlice ?_))
    refine (new_any w20 _ _ p20 hp20 (by omega)).mono ?_
    rintro e w21 ⟨r21, rfl, hr21, hR21, hb⟩
    have hR21 := hR21.old
    have hrl21 := hR21.lt
    have hb21 := below_on hb20 hb hb20.size
    have hs21 := hb.size
    clear hb hb20 hp20
    have hq21 := hq16.below hb21 (Nat.le_refl _)
    have hp21 := hp16.below hb21 (Nat.le_refl _)
    have hB21 := below_on hB16 hb21 hB16.size
    have hR21' := hR16.only (Only.of_below hb21) (by omega) (by intro b _ h; omega)
    have hs0 := hB16.size
    have hs2 := hB21.size
    clear hb21 hq16 hp16 hB16 hR16
    have hRT := rtext_enc T M [] (by omega)
    have hRV := rvecs_enc V M [] (by omega)
    rw [List.append_nil] at hRT hRV
    obtain ⟨FT, hFT⟩ : ∃ FT, FT = encText T := ⟨_, rfl⟩
    obtain ⟨FV, hFV⟩ : ∃ FV, FV = encVec V := ⟨_, rfl⟩
    rw [← hFT] at hR21' hRT hel1
    rw [← hFV] at hR21 hRV hel2
    clear hFT hFV
    go_wp2_with (first | ((with_reducible apply wpList_unguard); rfl) | (with_reducible refine stop_make ?_) | ((with_reducible apply len_B); assumption) | ((with_reducible apply len_BB); assumption)  | ((with_reducible apply len_N); assumption) | ((with_reducible apply len_V); assumption) | ((with_reducible apply len_VV); assumption)  | (with_reducible refine stop_builtin ?_) | (with_reducible refine stop_slice ?_) | (with_reducible refine stop_index_B ?_) | (with_reducible refine stop_index_BB ?_)  | (with_reducible refine stop_index_N ?_) | (with_reducible refine stop_index_V ?_) | (with_reducible refine stop_index_VV ?_)  | (with_reducible refine stop_str_B ?_) | (with_reducible refine stop_mark_B ?_) | (with_reducible refine stop_buildSlice ?_))
    refine (text_any w21 r16 _ FT 0 most hR21' (by omega) (by omega)).mono ?_
    rintro e w22 ⟨a22, rfl, ha22, hRx, ho⟩
    rw [← HM.out] at ha22 hRx
    have hB22 := below_only hB21 ho (by rintro k rfl; omega)
    have hq22 := hq21.only ho (by rintro b hb _ rfl; exact absurd hb (by omega))
    have hp22 := hp21.only ho (by rintro b hb _ rfl; exact absurd hb (by omega))
    have hRy := hR21.only ho (by omega) (by rintro b hb _ rfl; exact absurd hb (by omega))
    have hs22 := ho.size
    clear ho hq21 hp21 hR21 hR21' hB21
    go_wp2_with (first | ((with_reducible apply wpList_unguard); rfl) | (with_reducible refine stop_make ?_) | ((with_reducible apply len_B); assumption) | ((with_reducible apply len_BB); assumption)  | ((with_reducible apply len_N); assumption) | ((with_reducible apply len_V); assumption) | ((with_reducible apply len_VV); assumption)  | (with_reducible refine stop_builtin ?_) | (with_reducible refine stop_slice ?_) | (with_reducible refine stop_index_B ?_) | (with_reducible refine stop_index_BB ?_)  | (with_reducible refine stop_index_N ?_) | (with_reducible refine stop_index_V ?_) | (with_reducible refine stop_index_VV ?_)  | (with_reducible refine stop_str_B ?_) | (with_reducible refine stop_mark_B ?_) | (with_reducible refine stop_buildSlice ?_))
    refine (vec_any w22 r21 _ FV 0 most hRy (by omega) (by omega)).mono ?_
    rintro e w23 ⟨b23, rfl, hb23, hRy2, ho⟩
    rw [← HM.out] at hb23 hRy2
    have hB23 := below_only hB22 ho (by rintro k rfl; omega)
    have hq23 := hq22.only ho (by rintro b hb _ rfl; exact absurd hb (by omega))
    have hp23 := hp22.only ho (by rintro b hb _ rfl; exact absurd hb (by omega))
    have hRx2 := hRx.only ho (by omega) (by rintro b hb _ rfl; exact absurd hb (by omega))
    have ha23 := (ha22.only ho (fun b hb e => by have := (ha22.ge b hb).1; omega)).sl'
    have hb23' := hb23.sl'
    rw [hRT] at ha23 hRx2
    rw [hRV] at hb23' hRy2
    clear ho hq22 hp22 hRy hRx hB22 ha22 hb23
    have HRT := Lib.hid hRT
    have HRV := Lib.hid hRV
    clear hRT hRV
    by_cases hTM : M < T.length
    · by_cases hVM : M < V.length
      · rw [if_pos hTM] at ha23 hRx2
        rw [if_pos hVM] at hb23' hRy2
        simp only at ha23 hRx2 hb23' hRy2
        have hTd : decide (T.length ≤ M) = false := decide_eq_false (by omega)
        have hVd : decide (V.length ≤ M) = false := decide_eq_false (by omega)
        go_wp2_with (first | ((with_reducible apply wpList_unguard); rfl) | (with_reducible refine stop_make ?_) | ((with_reducible apply len_B); assumption) | ((with_reducible apply len_BB); assumption)  | ((with_reducible apply len_N); assumption) | ((with_reducible apply len_V); assumption) | ((with_reducible apply len_VV); assumption)  | (with_reducible refine stop_builtin ?_) | (with_reducible refine stop_slice ?_) | (with_reducible refine stop_index_B ?_) | (with_reducible refine stop_index_BB ?_)  | (with_reducible refine stop_index_N ?_) | (with_reducible refine stop_index_V ?_) | (with_reducible refine stop_index_VV ?_)  | (with_reducible refine stop_str_B ?_) | (with_reducible refine stop_mark_B ?_) | (with_reducible refine stop_buildSlice ?_))
        refine Stop.go (max0' HM rfl rfl ?_)
        go_wp2_with (first | ((with_reducible apply wpList_unguard); rfl) | (with_reducible refine stop_make ?_) | ((with_reducible apply len_B); assumption) | ((with_reducible apply len_BB); assumption)  | ((with_reducible apply len_N); assumption) | ((with_reducible apply len_V); assumption) | ((with_reducible apply len_VV); assumption)  | (with_reducible refine stop_builtin ?_) | (with_reducible refine stop_slice ?_) | (with_reducible refine stop_index_B ?_) | (with_reducible refine stop_index_BB ?_)  | (with_reducible refine stop_index_N ?_) | (with_reducible refine stop_index_V ?_) | (with_reducible refine stop_index_VV ?_)  | (with_reducible refine stop_str_B ?_) | (with_reducible refine stop_mark_B ?_) | (with_reducible refine stop_buildSlice ?_))
        refine (end_any w23 r16 _ _ _ hRx2).mono ?_
        rintro e w' ⟨rfl, rfl⟩
        rw [show rend FT 3 = 3 from rfl]
        go_wp2_with (first | ((with_reducible apply wpList_unguard); rfl) | (with_reducible refine stop_make ?_) | ((with_reducible apply len_B); assumption) | ((with_reducible apply len_BB); assumption)  | ((with_reducible apply len_N); assumption) | ((with_reducible apply len_V); assumption) | ((with_reducible apply len_VV); assumption)  | (with_reducible refine stop_builtin ?_) | (with_reducible refine stop_slice ?_) | (with_reducible refine stop_index_B ?_) | (with_reducible refine stop_index_BB ?_)  | (with_reducible refine stop_index_N ?_) | (with_reducible refine stop_index_V ?_) | (with_reducible refine stop_index_VV ?_)  | (with_reducible refine stop_str_B ?_) | (with_reducible refine stop_mark_B ?_) | (with_reducible refine stop_buildSlice ?_))
        refine Stop.go (max0' HM rfl rfl ?_)
        go_wp2_with (first | ((with_reducible apply wpList_unguard); rfl) | (with_reducible refine stop_make ?_) | ((with_reducible apply len_B); assumption) | ((with_reducible apply len_BB); assumption)  | ((with_reducible apply len_N); assumption) | ((with_reducible apply len_V); assumption) | ((with_reducible apply len_VV); assumption)  | (with_reducible refine stop_builtin ?_) | (with_reducible refine stop_slice ?_) | (with_reducible refine stop_index_B ?_) | (with_reducible refine stop_index_BB ?_)  | (with_reducible refine stop_index_N ?_) | (with_reducible refine stop_index_V ?_) | (with_reducible refine stop_index_VV ?_)  | (with_reducible refine stop_str_B ?_) | (with_reducible refine stop_mark_B ?_) | (with_reducible refine stop_buildSlice ?_))
        refine (end_any w23 r21 _ _ _ hRy2).mono ?_
        rintro e w' ⟨rfl, rfl⟩
        rw [show rend FV 3 = 3 from rfl]
        go_wp2_with (first | ((with_reducible apply wpList_unguard); rfl) | (with_reducible refine stop_make ?_) | ((with_reducible apply len_B); assumption) | ((with_reducible apply len_BB); assumption)  | ((with_reducible apply len_N); assumption) | ((with_reducible apply len_V); assumption) | ((with_reducible apply len_VV); assumption)  | (with_reducible refine stop_builtin ?_) | (with_reducible refine stop_slice ?_) | (with_reducible refine stop_index_B ?_) | (with_reducible refine stop_index_BB ?_)  | (with_reducible refine stop_index_N ?_) | (with_reducible refine stop_index_V ?_) | (with_reducible refine stop_index_VV ?_)  | (with_reducible refine stop_str_B ?_) | (with_reducible refine stop_mark_B ?_) | (with_reducible refine stop_buildSlice ?_))
        refine (end_any w23 r16 _ _ _ hRx2).mono ?_
        rintro e w' ⟨rfl, rfl⟩
        rw [show rend FT 3 = 3 from rfl]
        go_wp2_with (first | ((with_reducible apply wpList_unguard); rfl) | (with_reducible refine stop_make ?_) | ((with_reducible apply len_B); assumption) | ((with_reducible apply len_BB); assumption)  | ((with_reducible apply len_N); assumption) | ((with_reducible apply len_V); assumption) | ((with_reducible apply len_VV); assumption)  | (with_reducible refine stop_builtin ?_) | (with_reducible refine stop_slice ?_) | (with_reducible refine stop_index_B ?_) | (with_reducible refine stop_index_BB ?_)  | (with_reducible refine stop_index_N ?_) | (with_reducible refine stop_index_V ?_) | (with_reducible refine stop_index_VV ?_)  | (with_reducible refine stop_str_B ?_) | (with_reducible refine stop_mark_B ?_) | (with_reducible refine stop_buildSlice ?_))
        refine (end_any w23 r21 _ _ _ hRy2).mono ?_
        rintro e w' ⟨rfl, rfl⟩
        rw [show rend FV 3 = 3 from rfl]
        go_wp2_with (first | ((with_reducible apply wpList_unguard); rfl) | (with_reducible refine stop_make ?_) | ((with_reducible apply len_B); assumption) | ((with_reducible apply len_BB); assumption)  | ((with_reducible apply len_N); assumption) | ((with_reducible apply len_V); assumption) | ((with_reducible apply len_VV); assumption)  | (with_reducible refine stop_builtin ?_) | (with_reducible refine stop_slice ?_) | (with_reducible refine stop_index_B ?_) | (with_reducible refine stop_index_BB ?_)  | (with_reducible refine stop_index_N ?_) | (with_reducible refine stop_index_V ?_) | (with_reducible refine stop_index_VV ?_)  | (with_reducible refine stop_str_B ?_) | (with_reducible refine stop_mark_B ?_) | (with_reducible refine stop_buildSlice ?_))
        go_ret
        exact ⟨rfl, hB23⟩
      · rw [if_pos hTM] at ha23 hRx2
        rw [if_neg hVM] at hb23' hRy2
        simp only at ha23 hRx2 hb23' hRy2
        have hTd : decide (T.length ≤ M) = false := decide_eq_false (by omega)
        have hVd : decide (V.length ≤ M) = true := decide_eq_true (by omega)
        go_wp2_with (first | ((with_reducible apply wpList_unguard); rfl) | (with_reducible refine stop_make ?_) | ((with_reducible apply len_B); assumption) | ((with_reducible apply len_BB); assumption)  | ((with_reducible apply len_N); assumption) | ((with_reducible apply len_V); assumption) | ((with_reducible apply len_VV); assumption)  | (with_reducible refine stop_builtin ?_) | (with_reducible refine stop_slice ?_) | (with_reducible refine stop_index_B ?_) | (with_reducible refine stop_index_BB ?_)  | (with_reducible refine stop_index_N ?_) | (with_reducible refine stop_index_V ?_) | (with_reducible refine stop_index_VV ?_)  | (with_reducible refine stop_str_B ?_) | (with_reducible refine stop_mark_B ?_) | (with_reducible refine stop_buildSlice ?_))
        refine Stop.go (max0' HM rfl rfl ?_)
        go_wp2_with (first | ((with_reducible apply wpList_unguard); rfl) | (with_reducible refine stop_make ?_) | ((with_reducible apply len_B); assumption) | ((with_reducible apply len_BB); assumption)  | ((with_reducible apply len_N); assumption) | ((with_reducible apply len_V); assumption) | ((with_reducible apply len_VV); assumption)  | (with_reducible refine stop_builtin ?_) | (with_reducible refine stop_slice ?_) | (with_reducible refine stop_index_B ?_) | (with_reducible refine stop_index_BB ?_)  | (with_reducible refine stop_index_N ?_) | (with_reducible refine stop_index_V ?_) | (with_reducible refine stop_index_VV ?_)  | (with_reducible refine stop_str_B ?_) | (with_reducible refine stop_mark_B ?_) | (with_reducible refine stop_buildSlice ?_))
        refine (end_any w23 r16 _ _ _ hRx2).mono ?_
        rintro e w' ⟨rfl, rfl⟩
        rw [show rend FT 3 = 3 from rfl]
        go_wp2_with (first | ((with_reducible apply wpList_unguard); rfl) | (with_reducible refine stop_make ?_) | ((with_reducible apply len_B); assumption) | ((with_reducible apply len_BB); assumption)  | ((with_reducible apply len_N); assumption) | ((with_reducible apply len_V); assumption) | ((with_reducible apply len_VV); assumption)  | (with_reducible refine stop_builtin ?_) | (with_reducible refine stop_slice ?_) | (with_reducible refine stop_index_B ?_) | (with_reducible refine stop_index_BB ?_)  | (with_reducible refine stop_index_N ?_) | (with_reducible refine stop_index_V ?_) | (with_reducible refine stop_index_VV ?_)  | (with_reducible refine stop_str_B ?_) | (with_reducible refine stop_mark_B ?_) | (with_reducible refine stop_buildSlice ?_))
        refine Stop.go (max0' HM rfl rfl ?_)
        go_wp2_with (first | ((with_reducible apply wpList_unguard); rfl) | (with_reducible refine stop_make ?_) | ((with_reducible apply len_B); assumption) | ((with_reducible apply len_BB); assumption)  | ((with_reducible apply len_N); assumption) | ((with_reducible apply len_V); assumption) | ((with_reducible apply len_VV); assumption)  | (with_reducible refine stop_builtin ?_) | (with_reducible refine stop_slice ?_) | (with_reducible refine stop_index_B ?_) | (with_reducible refine stop_index_BB ?_)  | (with_reducible refine stop_index_N ?_) | (with_reducible refine stop_index_V ?_) | (with_reducible refine stop_index_VV ?_)  | (with_reducible refine stop_str_B ?_) | (with_reducible refine stop_mark_B ?_) | (with_reducible refine stop_buildSlice ?_))
        refine (end_any w23 r21 _ _ _ hRy2).mono ?_
        rintro e w' ⟨rfl, rfl⟩
        rw [show rend [] 0 = 0 from rfl]
        go_wp2_with (first | ((with_reducible apply wpList_unguard); rfl) | (with_reducible refine stop_make ?_) | ((with_reducible apply len_B); assumption) | ((with_reducible apply len_BB); assumption)  | ((with_reducible apply len_N); assumption) | ((with_reducible apply len_V); assumption) | ((with_reducible apply len_VV); assumption)  | (with_reducible refine stop_builtin ?_) | (with_reducible refine stop_slice ?_) | (with_reducible refine stop_index_B ?_) | (with_reducible refine stop_index_BB ?_)  | (with_reducible refine stop_index_N ?_) | (with_reducible refine stop_index_V ?_) | (with_reducible refine stop_index_VV ?_)  | (with_reducible refine stop_str_B ?_) | (with_reducible refine stop_mark_B ?_) | (with_reducible refine stop_buildSlice ?_))
        refine (end_any w23 r16 _ _ _ hRx2).mono ?_
        rintro e w' ⟨rfl, rfl⟩
        rw [show rend FT 3 = 3 from rfl]
        go_wp2_with (first | ((with_reducible apply wpList_unguard); rfl) | (with_reducible refine stop_make ?_) | ((with_reducible apply len_B); assumption) | ((with_reducible apply len_BB); assumption)  | ((with_reducible apply len_N); assumption) | ((with_reducible apply len_V); assumption) | ((with_reducible apply len_VV); assumption)  | (with_reducible refine stop_builtin ?_) | (with_reducible refine stop_slice ?_) | (with_reducible refine stop_index_B ?_) | (with_reducible refine stop_index_BB ?_)  | (with_reducible refine stop_index_N ?_) | (with_reducible refine stop_index_V ?_) | (with_reducible refine stop_index_VV ?_)  | (with_reducible refine stop_str_B ?_) | (with_reducible refine stop_mark_B ?_) | (with_reducible refine stop_buildSlice ?_))
        refine (end_any w23 r21 _ _ _ hRy2).mono ?_
        rintro e w' ⟨rfl, rfl⟩
        rw [show rend [] 0 = 0 from rfl]
        go_wp2_with (first | ((with_reducible apply wpList_unguard); rfl) | (with_reducible refine stop_make ?_) | ((with_reducible apply len_B); assumption) | ((with_reducible apply len_BB); assumption)  | ((with_reducible apply len_N); assumption) | ((with_reducible apply len_V); assumption) | ((with_reducible apply len_VV); assumption)  | (with_reducible refine stop_builtin ?_) | (with_reducible refine stop_slice ?_) | (with_reducible refine stop_index_B ?_) | (with_reducible refine stop_index_BB ?_)  | (with_reducible refine stop_index_N ?_) | (with_reducible refine stop_index_V ?_) | (with_reducible refine stop_index_VV ?_)  | (with_reducible refine stop_str_B ?_) | (with_reducible refine stop_mark_B ?_) | (with_reducible refine stop_buildSlice ?_))
        refine (samevec_any w23 _ _ _ _ b23 q2 hb23' hq23).mono ?_
        rintro e w' ⟨nq, rfl, rfl⟩
        rw [beq_self_eq_true]
        go_wp2_with (first | ((with_reducible apply wpList_unguard); rfl) | (with_reducible refine stop_make ?_) | ((with_reducible apply len_B); assumption) | ((with_reducible apply len_BB); assumption)  | ((with_reducible apply len_N); assumption) | ((with_reducible apply len_V); assumption) | ((with_reducible apply len_VV); assumption)  | (with_reducible refine stop_builtin ?_) | (with_reducible refine stop_slice ?_) | (with_reducible refine stop_index_B ?_) | (with_reducible refine stop_index_BB ?_)  | (with_reducible refine stop_index_N ?_) | (with_reducible refine stop_index_V ?_) | (with_reducible refine stop_index_VV ?_)  | (with_reducible refine stop_str_B ?_) | (with_reducible refine stop_mark_B ?_) | (with_reducible refine stop_buildSlice ?_))
        go_ret
        exact ⟨rfl, hB23.os, hB23.tape, hB23.output, hB23.size, hB23.block⟩
    · by_cases hVM : M < V.length
      · rw [if_neg hTM] at ha23 hRx2
        rw [if_pos hVM] at hb23' hRy2
        simp only at ha23 hRx2 hb23' hRy2
        have hTd : decide (T.length ≤ M) = true := decide_eq_true (by omega)
        have hVd : decide (V.length ≤ M) = false := decide_eq_false (by omega)
        go_wp2_with (first | ((with_reducible apply wpList_unguard); rfl) | (with_reducible refine stop_make ?_) | ((with_reducible apply len_B); assumption) | ((with_reducible apply len_BB); assumption)  | ((with_reducible apply len_N); assumption) | ((with_reducible apply len_V); assumption) | ((with_reducible apply len_VV); assumption)  | (with_reducible refine stop_builtin ?_) | (with_reducible refine stop_slice ?_) | (with_reducible refine stop_index_B ?_) | (with_reducible refine stop_index_BB ?_)  | (with_reducible refine stop_index_N ?_) | (with_reducible refine stop_index_V ?_) | (with_reducible refine stop_index_VV ?_)  | (with_reducible refine stop_str_B ?_) | (with_reducible refine stop_mark_B ?_) | (with_reducible refine stop_buildSlice ?_))
        refine Stop.go (max0' HM rfl rfl ?_)
        go_wp2_with (first | ((with_reducible apply wpList_unguard); rfl) | (with_reducible refine stop_make ?_) | ((with_reducible apply len_B); assumption) | ((with_reducible apply len_BB); assumption)  | ((with_reducible apply len_N); assumption) | ((with_reducible apply len_V); assumption) | ((with_reducible apply len_VV); assumption)  | (with_reducible refine stop_builtin ?_) | (with_reducible refine stop_slice ?_) | (with_reducible refine stop_index_B ?_) | (with_reducible refine stop_index_BB ?_)  | (with_reducible refine stop_index_N ?_) | (with_reducible refine stop_index_V ?_) | (with_reducible refine stop_index_VV ?_)  | (with_reducible refine stop_str_B ?_) | (with_reducible refine stop_mark_B ?_) | (with_reducible refine stop_buildSlice ?_))
        refine (end_any w23 r16 _ _ _ hRx2).mono ?_
        rintro e w' ⟨rfl, rfl⟩
        rw [show rend [] 0 = 0 from rfl]
        go_wp2_with (first | ((with_reducible apply wpList_unguard); rfl) | (with_reducible refine stop_make ?_) | ((with_reducible apply len_B); assumption) | ((with_reducible apply len_BB); assumption)  | ((with_reducible apply len_N); assumption) | ((with_reducible apply len_V); assumption) | ((with_reducible apply len_VV); assumption)  | (with_reducible refine stop_builtin ?_) | (with_reducible refine stop_slice ?_) | (with_reducible refine stop_index_B ?_) | (with_reducible refine stop_index_BB ?_)  | (with_reducible refine stop_index_N ?_) | (with_reducible refine stop_index_V ?_) | (with_reducible refine stop_index_VV ?_)  | (with_reducible refine stop_str_B ?_) | (with_reducible refine stop_mark_B ?_) | (with_reducible refine stop_buildSlice ?_))
        refine Stop.go (max0' HM rfl rfl ?_)
        go_wp2_with (first | ((with_reducible apply wpList_unguard); rfl) | (with_reducible refine stop_make ?_) | ((with_reducible apply len_B); assumption) | ((with_reducible apply len_BB); assumption)  | ((with_reducible apply len_N); assumption) | ((with_reducible apply len_V); assumption) | ((with_reducible apply len_VV); assumption)  | (with_reducible refine stop_builtin ?_) | (with_reducible refine stop_slice ?_) | (with_reducible refine stop_index_B ?_) | (with_reducible refine stop_index_BB ?_)  | (with_reducible refine stop_index_N ?_) | (with_reducible refine stop_index_V ?_) | (with_reducible refine stop_index_VV ?_)  | (with_reducible refine stop_str_B ?_) | (with_reducible refine stop_mark_B ?_) | (with_reducible refine stop_buildSlice ?_))
        refine (end_any w23 r21 _ _ _ hRy2).mono ?_
        rintro e w' ⟨rfl, rfl⟩
        rw [show rend FV 3 = 3 from rfl]
        go_wp2_with (first | ((with_reducible apply wpList_unguard); rfl) | (with_reducible refine stop_make ?_) | ((with_reducible apply len_B); assumption) | ((with_reducible apply len_BB); assumption)  | ((with_reducible apply len_N); assumption) | ((with_reducible apply len_V); assumption) | ((with_reducible apply len_VV); assumption)  | (with_reducible refine stop_builtin ?_) | (with_reducible refine stop_slice ?_) | (with_reducible refine stop_index_B ?_) | (with_reducible refine stop_index_BB ?_)  | (with_reducible refine stop_index_N ?_) | (with_reducible refine stop_index_V ?_) | (with_reducible refine stop_index_VV ?_)  | (with_reducible refine stop_str_B ?_) | (with_reducible refine stop_mark_B ?_) | (with_reducible refine stop_buildSlice ?_))
        refine (end_any w23 r16 _ _ _ hRx2).mono ?_
        rintro e w' ⟨rfl, rfl⟩
        rw [show rend [] 0 = 0 from rfl]
        go_wp2_with (first | ((with_reducible apply wpList_unguard); rfl) | (with_reducible refine stop_make ?_) | ((with_reducible apply len_B); assumption) | ((with_reducible apply len_BB); assumption)  | ((with_reducible apply len_N); assumption) | ((with_reducible apply len_V); assumption) | ((with_reducible apply len_VV); assumption)  | (with_reducible refine stop_builtin ?_) | (with_reducible refine stop_slice ?_) | (with_reducible refine stop_index_B ?_) | (with_reducible refine stop_index_BB ?_)  | (with_reducible refine stop_index_N ?_) | (with_reducible refine stop_index_V ?_) | (with_reducible refine stop_index_VV ?_)  | (with_reducible refine stop_str_B ?_) | (with_reducible refine stop_mark_B ?_) | (with_reducible refine stop_buildSlice ?_))
        refine (same_any w23 _ _ _ _ a22 p1 ha23 hp23).mono ?_
        rintro e w' ⟨rfl, rfl⟩
        rw [beq_self_eq_true]
        go_wp2_with (first | ((with_reducible apply wpList_unguard); rfl) | (with_reducible refine stop_make ?_) | ((with_reducible apply len_B); assumption) | ((with_reducible apply len_BB); assumption)  | ((with_reducible apply len_N); assumption) | ((with_reducible apply len_V); assumption) | ((with_reducible apply len_VV); assumption)  | (with_reducible refine stop_builtin ?_) | (with_reducible refine stop_slice ?_) | (with_reducible refine stop_index_B ?_) | (with_reducible refine stop_index_BB ?_)  | (with_reducible refine stop_index_N ?_) | (with_reducible refine stop_index_V ?_) | (with_reducible refine stop_index_VV ?_)  | (with_reducible refine stop_str_B ?_) | (with_reducible refine stop_mark_B ?_) | (with_reducible refine stop_buildSlice ?_))
        refine (end_any w23 r21 _ _ _ hRy2).mono ?_
        rintro e w' ⟨rfl, rfl⟩
        rw [show rend FV 3 = 3 from rfl]
        go_wp2_with (first | ((with_reducible apply wpList_unguard); rfl) | (with_reducible refine stop_make ?_) | ((with_reducible apply len_B); assumption) | ((with_reducible apply len_BB); assumption)  | ((with_reducible apply len_N); assumption) | ((with_reducible apply len_V); assumption) | ((with_reducible apply len_VV); assumption)  | (with_reducible refine stop_builtin ?_) | (with_reducible refine stop_slice ?_) | (with_reducible refine stop_index_B ?_) | (with_reducible refine stop_index_BB ?_)  | (with_reducible refine stop_index_N ?_) | (with_reducible refine stop_index_V ?_) | (with_reducible refine stop_index_VV ?_)  | (with_reducible refine stop_str_B ?_) | (with_reducible refine stop_mark_B ?_) | (with_reducible refine stop_buildSlice ?_))
        go_ret
        exact ⟨rfl, hB23⟩
      · rw [if_neg hTM] at ha23 hRx2
        rw [if_neg hVM] at hb23' hRy2
        simp only at ha23 hRx2 hb23' hRy2
        have hTd : decide (T.length ≤ M) = true := decide_eq_true (by omega)
        have hVd : decide (V.length ≤ M) = true := decide_eq_true (by omega)
        go_wp2_with (first | ((with_reducible apply wpList_unguard); rfl) | (with_reducible refine stop_make ?_) | ((with_reducible apply len_B); assumption) | ((with_reducible apply len_BB); assumption)  | ((with_reducible apply len_N); assumption) | ((with_reducible apply len_V); assumption) | ((with_reducible apply len_VV); assumption)  | (with_reducible refine stop_builtin ?_) | (with_reducible refine stop_slice ?_) | (with_reducible refine stop_index_B ?_) | (with_reducible refine stop_index_BB ?_)  | (with_reducible refine stop_index_N ?_) | (with_reducible refine stop_index_V ?_) | (with_reducible refine stop_index_VV ?_)  | (with_reducible refine stop_str_B ?_) | (with_reducible refine stop_mark_B ?_) | (with_reducible refine stop_buildSlice ?_))
        refine Stop.go (max0' HM rfl rfl ?_)
        go_wp2_with (first | ((with_reducible apply wpList_unguard); rfl) | (with_reducible refine stop_make ?_) | ((with_reducible apply len_B); assumption) | ((with_reducible apply len_BB); assumption)  | ((with_reducible apply len_N); assumption) | ((with_reducible apply len_V); assumption) | ((with_reducible apply len_VV); assumption)  | (with_reducible refine stop_builtin ?_) | (with_reducible refine stop_slice ?_) | (with_reducible refine stop_index_B ?_) | (with_reducible refine stop_index_BB ?_)  | (with_reducible refine stop_index_N ?_) | (with_reducible refine stop_index_V ?_) | (with_reducible refine stop_index_VV ?_)  | (with_reducible refine stop_str_B ?_) | (with_reducible refine stop_mark_B ?_) | (with_reducible refine stop_buildSlice ?_))
        refine (end_any w23 r16 _ _ _ hRx2).mono ?_
        rintro e w' ⟨rfl, rfl⟩
        rw [show rend [] 0 = 0 from rfl]
        go_wp2_with (first | ((with_reducible apply wpList_unguard); rfl) | (with_reducible refine stop_make ?_) | ((with_reducible apply len_B); assumption) | ((with_reducible apply len_BB); assumption)  | ((with_reducible apply len_N); assumption) | ((with_reducible apply len_V); assumption) | ((with_reducible apply len_VV); assumption)  | (with_reducible refine stop_builtin ?_) | (with_reducible refine stop_slice ?_) | (with_reducible refine stop_index_B ?_) | (with_reducible refine stop_index_BB ?_)  | (with_reducible refine stop_index_N ?_) | (with_reducible refine stop_index_V ?_) | (with_reducible refine stop_index_VV ?_)  | (with_reducible refine stop_str_B ?_) | (with_reducible refine stop_mark_B ?_) | (with_reducible refine stop_buildSlice ?_))
        refine Stop.go (max0' HM rfl rfl ?_)
        go_wp2_with (first | ((with_reducible apply wpList_unguard); rfl) | (with_reducible refine stop_make ?_) | ((with_reducible apply len_B); assumption) | ((with_reducible apply len_BB); assumption)  | ((with_reducible apply len_N); assumption) | ((with_reducible apply len_V); assumption) | ((with_reducible apply len_VV); assumption)  | (with_reducible refine stop_builtin ?_) | (with_reducible refine stop_slice ?_) | (with_reducible refine stop_index_B ?_) | (with_reducible refine stop_index_BB ?_)  | (with_reducible refine stop_index_N ?_) | (with_reducible refine stop_index_V ?_) | (with_reducible refine stop_index_VV ?_)  | (with_reducible refine stop_str_B ?_) | (with_reducible refine stop_mark_B ?_) | (with_reducible refine stop_buildSlice ?_))
        refine (end_any w23 r21 _ _ _ hRy2).mono ?_
        rintro e w' ⟨rfl, rfl⟩
        rw [show rend [] 0 = 0 from rfl]
        go_wp2_with (first | ((with_reducible apply wpList_unguard); rfl) | (with_reducible refine stop_make ?_) | ((with_reducible apply len_B); assumption) | ((with_reducible apply len_BB); assumption)  | ((with_reducible apply len_N); assumption) | ((with_reducible apply len_V); assumption) | ((with_reducible apply len_VV); assumption)  | (with_reducible refine stop_builtin ?_) | (with_reducible refine stop_slice ?_) | (with_reducible refine stop_index_B ?_) | (with_reducible refine stop_index_BB ?_)  | (with_reducible refine stop_index_N ?_) | (with_reducible refine stop_index_V ?_) | (with_reducible refine stop_index_VV ?_)  | (with_reducible refine stop_str_B ?_) | (with_reducible refine stop_mark_B ?_) | (with_reducible refine stop_buildSlice ?_))
        refine (end_any w23 r16 _ _ _ hRx2).mono ?_
        rintro e w' ⟨rfl, rfl⟩
        rw [show rend [] 0 = 0 from rfl]
        go_wp2_with (first | ((with_reducible apply wpList_unguard); rfl) | (with_reducible refine stop_make ?_) | ((with_reducible apply len_B); assumption) | ((with_reducible apply len_BB); assumption)  | ((with_reducible apply len_N); assumption) | ((with_reducible apply len_V); assumption) | ((with_reducible apply len_VV); assumption)  | (with_reducible refine stop_builtin ?_) | (with_reducible refine stop_slice ?_) | (with_reducible refine stop_index_B ?_) | (with_reducible refine stop_index_BB ?_)  | (with_reducible refine stop_index_N ?_) | (with_reducible refine stop_index_V ?_) | (with_reducible refine stop_index_VV ?_)  | (with_reducible refine stop_str_B ?_) | (with_reducible refine stop_mark_B ?_) | (with_reducible refine stop_buildSlice ?_))
        refine (same_any w23 _ _ _ _ a22 p1 ha23 hp23).mono ?_
        rintro e w' ⟨rfl, rfl⟩
        rw [beq_self_eq_true]
        go_wp2_with (first | ((with_reducible apply wpList_unguard); rfl) | (with_reducible refine stop_make ?_) | ((with_reducible apply len_B); assumption) | ((with_reducible apply len_BB); assumption)  | ((with_reducible apply len_N); assumption) | ((with_reducible apply len_V); assumption) | ((with_reducible apply len_VV); assumption)  | (with_reducible refine stop_builtin ?_) | (with_reducible refine stop_slice ?_) | (with_reducible refine stop_index_B ?_) | (with_reducible refine stop_index_BB ?_)  | (with_reducible refine stop_index_N ?_) | (with_reducible refine stop_index_V ?_) | (with_reducible refine stop_index_VV ?_)  | (with_reducible refine stop_str_B ?_) | (with_reducible refine stop_mark_B ?_) | (with_reducible refine stop_buildSlice ?_))
        refine (end_any w23 r21 _ _ _ hRy2).mono ?_
        rintro e w' ⟨rfl, rfl⟩
        rw [show rend [] 0 = 0 from rfl]
        go_wp2_with (first | ((with_reducible apply wpList_unguard); rfl) | (with_reducible refine stop_make ?_) | ((with_reducible apply len_B); assumption) | ((with_reducible apply len_BB); assumption)  | ((with_reducible apply len_N); assumption) | ((with_reducible apply len_V); assumption) | ((with_reducible apply len_VV); assumption)  | (with_reducible refine stop_builtin ?_) | (with_reducible refine stop_slice ?_) | (with_reducible refine stop_index_B ?_) | (with_reducible refine stop_index_BB ?_)  | (with_reducible refine stop_index_N ?_) | (with_reducible refine stop_index_V ?_) | (with_reducible refine stop_index_VV ?_)  | (with_reducible refine stop_str_B ?_) | (with_reducible refine stop_mark_B ?_) | (with_reducible refine stop_buildSlice ?_))
        refine (samevec_any w23 _ _ _ _ b23 q2 hb23' hq23).mono ?_
        rintro e w' ⟨nq, rfl, rfl⟩
        rw [beq_self_eq_true]
        go_wp2_with (first | ((with_reducible apply wpList_unguard); rfl) | (with_reducible refine stop_make ?_) | ((with_reducible apply len_B); assumption) | ((with_reducible apply len_BB); assumption)  | ((with_reducible apply len_N); assumption) | ((with_reducible apply len_V); assumption) | ((with_reducible apply len_VV); assumption)  | (with_reducible refine stop_builtin ?_) | (with_reducible refine stop_slice ?_) | (with_reducible refine stop_index_B ?_) | (with_reducible refine stop_index_BB ?_)  | (with_reducible refine stop_index_N ?_) | (with_reducible refine stop_index_V ?_) | (with_reducible refine stop_index_VV ?_)  | (with_reducible refine stop_str_B ?_) | (with_reducible refine stop_mark_B ?_) | (with_reducible refine stop_buildSlice ?_))
        go_ret
        exact ⟨rfl, hB23.os, hB23.tape, hB23.output, hB23.size, hB23.block⟩
end Go.Proofs.Ytfgagfemhmcdfaa
