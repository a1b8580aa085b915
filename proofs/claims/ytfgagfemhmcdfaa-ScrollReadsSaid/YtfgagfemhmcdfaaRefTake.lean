/- armillaryref02: Take. -/
import Derived.Test.YtfgagfemhmcdfaaRef02
import Derived.Test.YtfgagfemhmcdfaaScMath
namespace Go.Arm

/-- What stands at the k-th byte, the bytes ahead of it being no ends. -/
def horner : List UInt8 → Nat
  | [] => 0
  | b :: l => b.toNat % 128 + 128 * horner l

theorem horner_append : ∀ (l m : List UInt8), horner (l ++ m) = horner l + 128 ^ l.length * horner m
  | [], m => by simp [horner]
  | b :: l, m => by
    have ih := horner_append l m
    simp only [List.cons_append, horner, ih, List.length_cons, Nat.pow_succ]
    rw [Nat.mul_add, Nat.mul_assoc, Nat.mul_comm (128 ^ l.length) (128 * horner m), Nat.mul_assoc, Nat.mul_comm (horner m)]
    omega

/-- The bytes ahead, none of them an end: the walk of the document's Take and of peek side by side. -/
theorem peek_drop (l : List UInt8) : ∀ (j : Nat), j ≤ l.length → j ≤ 10 → (∀ b ∈ l.take j, 128 ≤ b.toNat) → (j = 10 → ∀ b, l[9]? = some b → b.toNat ≤ 1) → peekGo l 0 0 = peekGo (l.drop j) j (horner (l.take j)) := by
  intro j
  induction j with
  | zero => intro _ _ _ _; simp [horner]
  | succ j ih =>
    intro h1 h2 h3 h4
    have hj : j < l.length := by omega
    obtain ⟨y, hy⟩ : ∃ y, l[j]? = some y := ⟨_, List.getElem?_eq_getElem hj⟩
    have ht := take_snoc l j y hy
    have h3' : ∀ b ∈ l.take j, 128 ≤ b.toNat := fun b hb => h3 b (by rw [ht]; exact List.mem_append_left _ hb)
    have hyb : 128 ≤ y.toNat := h3 y (by rw [ht]; simp)
    have hyl := y.toNat_lt
    rw [ih (by omega) (by omega) h3' (by omega)]
    have hd : l.drop j = y :: l.drop (j + 1) := by
      obtain ⟨_, rfl⟩ := List.getElem?_eq_some_iff.1 hy
      exact List.drop_eq_getElem_cons hj
    rw [hd, peekGo, if_neg, if_neg (by omega), ht, horner_append, List.length_take, Nat.min_eq_left (by omega)]
    · simp only [horner, Nat.mul_zero, Nat.add_zero]
      rw [show y.toNat % 128 = y.toNat - 128 by omega]
    · rintro ⟨rfl, h⟩
      have := h4 rfl y hy
      omega

theorem horner_lt : ∀ l : List UInt8, horner l < 128 ^ l.length
  | [] => by simp [horner]
  | b :: l => by
    have ih := horner_lt l
    rw [horner, List.length_cons, Nat.pow_succ]
    omega
theorem horner_drop_le : ∀ (i : Nat) (l : List UInt8), horner (l.drop i) ≤ horner l
  | 0, l => by simp
  | i + 1, [] => by simp
  | i + 1, b :: l => by
    have ih := horner_drop_le i l
    rw [List.drop_succ_cons, horner]
    omega
theorem horner_take_lt (l : List UInt8) (j : Nat) (y : UInt8) (hj : j ≤ 9) (hy : l[j]? = some y) (h9 : j = 9 → y.toNat ≤ 1) : horner (l.take (j + 1)) < 18446744073709551616 := by
  have hjl := (List.getElem?_eq_some_iff.1 hy).1
  rw [take_snoc l j y hy, horner_append, List.length_take, Nat.min_eq_left (by omega)]
  have h1 := horner_lt (l.take j)
  rw [List.length_take, Nat.min_eq_left (by omega)] at h1
  simp only [horner, Nat.mul_zero, Nat.add_zero]
  by_cases h : j = 9
  · subst h
    have := h9 rfl
    have : 128 ^ 9 * (y.toNat % 128) ≤ 128 ^ 9 * 1 := Nat.mul_le_mul_left _ (by omega)
    omega
  · have hp : 128 ^ j ≤ 128 ^ 8 := Nat.pow_le_pow_right (by decide) (by omega)
    have : 128 ^ j * (y.toNat % 128) ≤ 128 ^ 8 * 127 := Nat.mul_le_mul hp (by omega)
    omega
end Go.Arm
namespace Go.Proofs.Ytfgagfemhmcdfaa
open Go Go.RowKit Go.Arm

set_option maxHeartbeats 4000000 in
set_option maxRecDepth 100000 in
theorem take02_any (w : World) (S : Nat → Prop) (l : List UInt8) (p : Value) (most : Nat) (hp : Sl w S l p) :
    Calls Try.prog 20 #[p, .int .u64 most] w fun e w' => ∃ v, e = .returned (.tuple #[.int .u64 (taken l most).1, v, .int .i64 (taken l most).2.2]) ∧ Sl w S (taken l most).2.1 v ∧ ∃ nq, w' = w.drewN nq := by
  have hll : l.length ≤ 9223372036854775807 := hp.length_le
  obtain ⟨T, hT⟩ : ∃ T, T = taken l most := ⟨_, rfl⟩
  rw [← hT]
  unfold taken peek at hT
  obtain ⟨PK, hPK⟩ : ∃ PK, PK = peekGo l 0 0 := ⟨_, rfl⟩
  rw [← hPK] at hT
  have HPK := Lib.hid hPK
  have HT := Lib.hid hT
  clear hT hPK
  go_enter Try.func20, Try.ntmps20
  go_wp2_with (first | ((with_reducible apply wpList_unguard); rfl) | (with_reducible refine stop_make ?_) | ((with_reducible apply len_B); assumption) | ((with_reducible apply len_BB); assumption)  | ((with_reducible apply len_N); assumption) | ((with_reducible apply len_V); assumption) | ((with_reducible apply len_VV); assumption)  | (with_reducible refine stop_builtin ?_) | (with_reducible refine stop_slice ?_) | (with_reducible refine stop_index_B ?_) | (with_reducible refine stop_index_BB ?_)  | (with_reducible refine stop_index_N ?_) | (with_reducible refine stop_index_V ?_) | (with_reducible refine stop_index_VV ?_)  | (with_reducible refine stop_str_B ?_) | (with_reducible refine stop_mark_B ?_) | (with_reducible refine stop_buildSlice ?_))
  go_loop [7, 8, 9] (fun k n i => ∃ j : Nat, k = .int .i64 ((j : Int) + 1) ∧ j ≤ 9 ∧ j ≤ l.length ∧ ∀ b ∈ l.take j, 128 ≤ b.toNat) (fun k _ _ => 11 - (intOf k).toNat)
  case atStart => exact ⟨0, rfl, by omega, by omega, by simp⟩
  case round =>
    obtain ⟨j, rfl, hj9, hjl, hall⟩ := hrel
    have hpk := HPK.out.trans (peek_drop l j hjl (by omega) hall (by omega))
    have Hall := Lib.hid hall
    clear hall
    by_cases hlt : j < l.length
    · obtain ⟨y, hy⟩ : ∃ y, l[j]? = some y := ⟨_, List.getElem?_eq_getElem hlt⟩
      have hd : l.drop j = y :: l.drop (j + 1) := by
        obtain ⟨_, rfl⟩ := List.getElem?_eq_some_iff.1 hy
        exact List.drop_eq_getElem_cons hlt
      rw [hd, peekGo] at hpk
      have Hpk := Lib.hid hpk
      have Hy := Lib.hid hy
      have hyl := y.toNat_lt
      clear hpk hy hd
      by_cases h9 : j = 9
      · subst h9
        by_cases hy1 : 1 < y.toNat
        · go_wp2_with (first | ((with_reducible apply wpList_unguard); rfl) | (with_reducible refine stop_make ?_) | ((with_reducible apply len_B); assumption) | ((with_reducible apply len_BB); assumption)  | ((with_reducible apply len_N); assumption) | ((with_reducible apply len_V); assumption) | ((with_reducible apply len_VV); assumption)  | (with_reducible refine stop_builtin ?_) | (with_reducible refine stop_slice ?_) | (with_reducible refine stop_index_B ?_) | (with_reducible refine stop_index_BB ?_)  | (with_reducible refine stop_index_N ?_) | (with_reducible refine stop_index_V ?_) | (with_reducible refine stop_index_VV ?_)  | (with_reducible refine stop_str_B ?_) | (with_reducible refine stop_mark_B ?_) | (with_reducible refine stop_buildSlice ?_))
          refine Stop.go (idx_B hp rfl (by omega) (by omega) fun b o y' hy' hcell => ?_)
          obtain rfl : y' = y := Option.some.inj (hy'.symm.trans Hy.out)
          clear hy'
          go_wp2_with (first | ((with_reducible apply wpList_unguard); rfl) | (with_reducible refine stop_make ?_) | ((with_reducible apply len_B); assumption) | ((with_reducible apply len_BB); assumption)  | ((with_reducible apply len_N); assumption) | ((with_reducible apply len_V); assumption) | ((with_reducible apply len_VV); assumption)  | (with_reducible refine stop_builtin ?_) | (with_reducible refine stop_slice ?_) | (with_reducible refine stop_index_B ?_) | (with_reducible refine stop_index_BB ?_)  | (with_reducible refine stop_index_N ?_) | (with_reducible refine stop_index_V ?_) | (with_reducible refine stop_index_VV ?_)  | (with_reducible refine stop_str_B ?_) | (with_reducible refine stop_mark_B ?_) | (with_reducible refine stop_buildSlice ?_))
          go_ret3
          have e1 := Hpk.out
          rw [if_pos ⟨trivial, hy1⟩] at e1
          have e := HT.out
          rw [e1, if_pos (by decide)] at e
          rw [e]
          exact ⟨_, rfl, Sl.nil _ _, 0, rfl⟩
        · go_wp2_with (first | ((with_reducible apply wpList_unguard); rfl) | (with_reducible refine stop_make ?_) | ((with_reducible apply len_B); assumption) | ((with_reducible apply len_BB); assumption)  | ((with_reducible apply len_N); assumption) | ((with_reducible apply len_V); assumption) | ((with_reducible apply len_VV); assumption)  | (with_reducible refine stop_builtin ?_) | (with_reducible refine stop_slice ?_) | (with_reducible refine stop_index_B ?_) | (with_reducible refine stop_index_BB ?_)  | (with_reducible refine stop_index_N ?_) | (with_reducible refine stop_index_V ?_) | (with_reducible refine stop_index_VV ?_)  | (with_reducible refine stop_str_B ?_) | (with_reducible refine stop_mark_B ?_) | (with_reducible refine stop_buildSlice ?_))
          refine Stop.go (idx_B hp rfl (by omega) (by omega) fun b o y' hy' hcell => ?_)
          obtain rfl : y' = y := Option.some.inj (hy'.symm.trans Hy.out)
          clear hy'
          go_wp2_with (first | ((with_reducible apply wpList_unguard); rfl) | (with_reducible refine stop_make ?_) | ((with_reducible apply len_B); assumption) | ((with_reducible apply len_BB); assumption)  | ((with_reducible apply len_N); assumption) | ((with_reducible apply len_V); assumption) | ((with_reducible apply len_VV); assumption)  | (with_reducible refine stop_builtin ?_) | (with_reducible refine stop_slice ?_) | (with_reducible refine stop_index_B ?_) | (with_reducible refine stop_index_BB ?_)  | (with_reducible refine stop_index_N ?_) | (with_reducible refine stop_index_V ?_) | (with_reducible refine stop_index_VV ?_)  | (with_reducible refine stop_str_B ?_) | (with_reducible refine stop_mark_B ?_) | (with_reducible refine stop_buildSlice ?_))
          refine Stop.go (idx_B hp rfl (by omega) (by omega) fun b1 o1 y1 hy' hcell1 => ?_)
          obtain rfl : y1 = y' := Option.some.inj (hy'.symm.trans Hy.out)
          clear hy'
          obtain ⟨L, hL⟩ : ∃ L, L = l.take (10) := ⟨_, rfl⟩
          have hLl : L.length = 10 := by rw [hL, List.length_take]; omega
          have hLlt : horner L < 18446744073709551616 := by rw [hL]; exact horner_take_lt l 9 y1 (by omega) (by simpa using Hy.out) (by omega)
          have hLv : horner L = horner (l.take 9) + 128 ^ 9 * y1.toNat := by
            rw [hL, take_snoc l 9 y1 (by simpa using Hy.out), horner_append, List.length_take, Nat.min_eq_left (by omega)]
            simp only [horner, Nat.mul_zero, Nat.add_zero]
            rw [Nat.mod_eq_of_lt (by omega)]
          have HL := Lib.hid hL
          have HLv := Lib.hid hLv
          clear hL hLv
          go_wp2_with (first | ((with_reducible apply wpList_unguard); rfl) | (with_reducible refine stop_make ?_) | ((with_reducible apply len_B); assumption) | ((with_reducible apply len_BB); assumption)  | ((with_reducible apply len_N); assumption) | ((with_reducible apply len_V); assumption) | ((with_reducible apply len_VV); assumption)  | (with_reducible refine stop_builtin ?_) | (with_reducible refine stop_slice ?_) | (with_reducible refine stop_index_B ?_) | (with_reducible refine stop_index_BB ?_)  | (with_reducible refine stop_index_N ?_) | (with_reducible refine stop_index_V ?_) | (with_reducible refine stop_index_VV ?_)  | (with_reducible refine stop_str_B ?_) | (with_reducible refine stop_mark_B ?_) | (with_reducible refine stop_buildSlice ?_))
          go_loop [8, 9] (fun n i => ∃ m : Nat, i = .int .i64 ((m : Int) - 1) ∧ m ≤ 10 ∧ n = .int .u64 (horner (L.drop m))) (fun _ i => (intOf i + 1).toNat)
          case atStart => exact ⟨10, by go_num, by omega, by rw [← hLl, List.drop_length]; rfl⟩
          case round =>
            obtain ⟨m, rfl, hm1, rfl⟩ := hrel
            by_cases h0 : 0 < m
            · obtain ⟨m, rfl⟩ : ∃ m', m = m' + 1 := ⟨m - 1, by omega⟩
              obtain ⟨z, hz⟩ : ∃ z, l[m]? = some z := ⟨_, List.getElem?_eq_getElem (by omega)⟩
              have hzL : L[m]? = some z := by rw [HL.out, List.getElem?_take, if_pos (by omega)]; exact hz
              have hdz : L.drop m = z :: L.drop (m + 1) := by
                obtain ⟨hlt3, rfl⟩ := List.getElem?_eq_some_iff.1 hzL
                exact List.drop_eq_getElem_cons hlt3
              have hstep : horner (L.drop m) = z.toNat % 128 + 128 * horner (L.drop (m + 1)) := by rw [hdz, horner]
              have hbd := horner_drop_le m L
              obtain ⟨V, hV⟩ : ∃ V, V = horner (L.drop (m + 1)) := ⟨_, rfl⟩
              rw [← hV] at hstep ⊢
              have Hst := Lib.hid hstep
              have Hz := Lib.hid hz
              have hzl := z.toNat_lt
              have hVb : V * 128 + z.toNat % 128 < 18446744073709551616 := by omega
              clear hz hzL hdz hstep hV
              have em : ((m + 1 : Nat) : Int) - 1 = (m : Int) := by omega
              rw [em]
              go_wp2_with (first | ((with_reducible apply wpList_unguard); rfl) | (with_reducible refine stop_make ?_) | ((with_reducible apply len_B); assumption) | ((with_reducible apply len_BB); assumption)  | ((with_reducible apply len_N); assumption) | ((with_reducible apply len_V); assumption) | ((with_reducible apply len_VV); assumption)  | (with_reducible refine stop_builtin ?_) | (with_reducible refine stop_slice ?_) | (with_reducible refine stop_index_B ?_) | (with_reducible refine stop_index_BB ?_)  | (with_reducible refine stop_index_N ?_) | (with_reducible refine stop_index_V ?_) | (with_reducible refine stop_index_VV ?_)  | (with_reducible refine stop_str_B ?_) | (with_reducible refine stop_mark_B ?_) | (with_reducible refine stop_buildSlice ?_))
              refine Stop.go (idx_B hp rfl (by omega) (by omega) fun b2 o2 z' hz' hcell2 => ?_)
              obtain rfl : z' = z := Option.some.inj (hz'.symm.trans Hz.out)
              clear hz'
              go_wp2_with (first | ((with_reducible apply wpList_unguard); rfl) | (with_reducible refine stop_make ?_) | ((with_reducible apply len_B); assumption) | ((with_reducible apply len_BB); assumption)  | ((with_reducible apply len_N); assumption) | ((with_reducible apply len_V); assumption) | ((with_reducible apply len_VV); assumption)  | (with_reducible refine stop_builtin ?_) | (with_reducible refine stop_slice ?_) | (with_reducible refine stop_index_B ?_) | (with_reducible refine stop_index_BB ?_)  | (with_reducible refine stop_index_N ?_) | (with_reducible refine stop_index_V ?_) | (with_reducible refine stop_index_VV ?_)  | (with_reducible refine stop_str_B ?_) | (with_reducible refine stop_mark_B ?_) | (with_reducible refine stop_buildSlice ?_))
              exact ⟨⟨m, by go_num, by omega, by rw [Hst.out]; congr 1; push_cast; omega⟩, by simp [intOf]⟩
            · obtain rfl : m = 0 := by omega
              rw [List.drop_zero]
              by_cases hz0 : y1.toNat = 0
              · have hzb : ((y1.toNat : Int) == 0) = true := by simp [hz0]
                have e1 := Hpk.out
                rw [if_neg (fun h => by omega), if_pos (by omega), if_pos ⟨hz0, by omega⟩] at e1
                have E1 := Lib.hid e1
                clear e1
                go_wp2_with (first | ((with_reducible apply wpList_unguard); rfl) | (with_reducible refine stop_make ?_) | ((with_reducible apply len_B); assumption) | ((with_reducible apply len_BB); assumption)  | ((with_reducible apply len_N); assumption) | ((with_reducible apply len_V); assumption) | ((with_reducible apply len_VV); assumption)  | (with_reducible refine stop_builtin ?_) | (with_reducible refine stop_slice ?_) | (with_reducible refine stop_index_B ?_) | (with_reducible refine stop_index_BB ?_)  | (with_reducible refine stop_index_N ?_) | (with_reducible refine stop_index_V ?_) | (with_reducible refine stop_index_VV ?_)  | (with_reducible refine stop_str_B ?_) | (with_reducible refine stop_mark_B ?_) | (with_reducible refine stop_buildSlice ?_))
                refine Stop.go (idx_B hp rfl (by omega) (by omega) fun b3 o3 y3 hy' hcell3 => ?_)
                obtain rfl : y3 = y1 := Option.some.inj (hy'.symm.trans Hy.out)
                clear hy'
                go_wp2_with (first | ((with_reducible apply wpList_unguard); rfl) | (with_reducible refine stop_make ?_) | ((with_reducible apply len_B); assumption) | ((with_reducible apply len_BB); assumption)  | ((with_reducible apply len_N); assumption) | ((with_reducible apply len_V); assumption) | ((with_reducible apply len_VV); assumption)  | (with_reducible refine stop_builtin ?_) | (with_reducible refine stop_slice ?_) | (with_reducible refine stop_index_B ?_) | (with_reducible refine stop_index_BB ?_)  | (with_reducible refine stop_index_N ?_) | (with_reducible refine stop_index_V ?_) | (with_reducible refine stop_index_VV ?_)  | (with_reducible refine stop_str_B ?_) | (with_reducible refine stop_mark_B ?_) | (with_reducible refine stop_buildSlice ?_))
                go_ret3
                have e := HT.out
                rw [E1.out, if_pos (by decide)] at e
                rw [e]
                exact ⟨_, rfl, Sl.nil _ _, 0, rfl⟩
              · have hzb : ((y1.toNat : Int) == 0) = false := beq_eq_false_iff_ne.2 (by omega)
                have e1 := Hpk.out
                rw [if_neg (fun h => by omega), if_pos (by omega), if_neg (fun h => by omega)] at e1
                rw [← HLv.out] at e1
                obtain ⟨V, hV⟩ : ∃ V, V = horner L := ⟨_, rfl⟩
                rw [← hV] at e1 hLlt ⊢
                have E1 := Lib.hid e1
                clear e1 hV
                by_cases hmo : most < V
                · go_wp2_with (first | ((with_reducible apply wpList_unguard); rfl) | (with_reducible refine stop_make ?_) | ((with_reducible apply len_B); assumption) | ((with_reducible apply len_BB); assumption)  | ((with_reducible apply len_N); assumption) | ((with_reducible apply len_V); assumption) | ((with_reducible apply len_VV); assumption)  | (with_reducible refine stop_builtin ?_) | (with_reducible refine stop_slice ?_) | (with_reducible refine stop_index_B ?_) | (with_reducible refine stop_index_BB ?_)  | (with_reducible refine stop_index_N ?_) | (with_reducible refine stop_index_V ?_) | (with_reducible refine stop_index_VV ?_)  | (with_reducible refine stop_str_B ?_) | (with_reducible refine stop_mark_B ?_) | (with_reducible refine stop_buildSlice ?_))
                  refine Stop.go (idx_B hp rfl (by omega) (by omega) fun b3 o3 y3 hy' hcell3 => ?_)
                  obtain rfl : y3 = y1 := Option.some.inj (hy'.symm.trans Hy.out)
                  clear hy'
                  go_wp2_with (first | ((with_reducible apply wpList_unguard); rfl) | (with_reducible refine stop_make ?_) | ((with_reducible apply len_B); assumption) | ((with_reducible apply len_BB); assumption)  | ((with_reducible apply len_N); assumption) | ((with_reducible apply len_V); assumption) | ((with_reducible apply len_VV); assumption)  | (with_reducible refine stop_builtin ?_) | (with_reducible refine stop_slice ?_) | (with_reducible refine stop_index_B ?_) | (with_reducible refine stop_index_BB ?_)  | (with_reducible refine stop_index_N ?_) | (with_reducible refine stop_index_V ?_) | (with_reducible refine stop_index_VV ?_)  | (with_reducible refine stop_str_B ?_) | (with_reducible refine stop_mark_B ?_) | (with_reducible refine stop_buildSlice ?_))
                  go_ret3
                  have e := HT.out
                  rw [E1.out, if_neg (by simp), if_pos hmo] at e
                  rw [e]
                  exact ⟨_, rfl, Sl.nil _ _, 0, rfl⟩
                · obtain ⟨v1, hv1, hs1⟩ := hp.slice_run_l (P := Try.prog) rowB .i64 10 (by omega) (by omega)
                  go_wp2_with (first | ((with_reducible apply wpList_unguard); rfl) | (with_reducible refine stop_make ?_) | ((with_reducible apply len_B); assumption) | ((with_reducible apply len_BB); assumption)  | ((with_reducible apply len_N); assumption) | ((with_reducible apply len_V); assumption) | ((with_reducible apply len_VV); assumption)  | (with_reducible refine stop_builtin ?_) | (with_reducible refine stop_slice ?_) | (with_reducible refine stop_index_B ?_) | (with_reducible refine stop_index_BB ?_)  | (with_reducible refine stop_index_N ?_) | (with_reducible refine stop_index_V ?_) | (with_reducible refine stop_index_VV ?_)  | (with_reducible refine stop_str_B ?_) | (with_reducible refine stop_mark_B ?_) | (with_reducible refine stop_buildSlice ?_))
                  refine Stop.go (idx_B hp rfl (by omega) (by omega) fun b3 o3 y3 hy' hcell3 => ?_)
                  obtain rfl : y3 = y1 := Option.some.inj (hy'.symm.trans Hy.out)
                  clear hy'
                  go_wp2_with (first | ((with_reducible apply wpList_unguard); rfl) | (with_reducible refine stop_make ?_) | ((with_reducible apply len_B); assumption) | ((with_reducible apply len_BB); assumption)  | ((with_reducible apply len_N); assumption) | ((with_reducible apply len_V); assumption) | ((with_reducible apply len_VV); assumption)  | (with_reducible refine stop_builtin ?_) | (with_reducible refine stop_slice ?_) | (with_reducible refine stop_index_B ?_) | (with_reducible refine stop_index_BB ?_)  | (with_reducible refine stop_index_N ?_) | (with_reducible refine stop_index_V ?_) | (with_reducible refine stop_index_VV ?_)  | (with_reducible refine stop_str_B ?_) | (with_reducible refine stop_mark_B ?_) | (with_reducible refine stop_buildSlice ?_))
                  go_quiet (fail)
                  go_wp2_with (first | ((with_reducible apply wpList_unguard); rfl) | (with_reducible refine stop_make ?_) | ((with_reducible apply len_B); assumption) | ((with_reducible apply len_BB); assumption)  | ((with_reducible apply len_N); assumption) | ((with_reducible apply len_V); assumption) | ((with_reducible apply len_VV); assumption)  | (with_reducible refine stop_builtin ?_) | (with_reducible refine stop_slice ?_) | (with_reducible refine stop_index_B ?_) | (with_reducible refine stop_index_BB ?_)  | (with_reducible refine stop_index_N ?_) | (with_reducible refine stop_index_V ?_) | (with_reducible refine stop_index_VV ?_)  | (with_reducible refine stop_str_B ?_) | (with_reducible refine stop_mark_B ?_) | (with_reducible refine stop_buildSlice ?_))
                  go_ret3
                  have e := HT.out
                  rw [E1.out, if_neg (by simp), if_neg hmo] at e
                  rw [e]
                  exact ⟨_, rfl, by simpa using hs1, nq, rfl⟩
      · have hjb : ((j : Int) + 1 == 10) = false := beq_eq_false_iff_ne.2 (by omega)
        by_cases hyb : 128 ≤ y.toNat
        · go_wp2_with (first | ((with_reducible apply wpList_unguard); rfl) | (with_reducible refine stop_make ?_) | ((with_reducible apply len_B); assumption) | ((with_reducible apply len_BB); assumption)  | ((with_reducible apply len_N); assumption) | ((with_reducible apply len_V); assumption) | ((with_reducible apply len_VV); assumption)  | (with_reducible refine stop_builtin ?_) | (with_reducible refine stop_slice ?_) | (with_reducible refine stop_index_B ?_) | (with_reducible refine stop_index_BB ?_)  | (with_reducible refine stop_index_N ?_) | (with_reducible refine stop_index_V ?_) | (with_reducible refine stop_index_VV ?_)  | (with_reducible refine stop_str_B ?_) | (with_reducible refine stop_mark_B ?_) | (with_reducible refine stop_buildSlice ?_))
          refine Stop.go (idx_B hp rfl (by omega) (by omega) fun b o y' hy' hcell => ?_)
          obtain rfl : y' = y := Option.some.inj (hy'.symm.trans Hy.out)
          clear hy'
          go_wp2_with (first | ((with_reducible apply wpList_unguard); rfl) | (with_reducible refine stop_make ?_) | ((with_reducible apply len_B); assumption) | ((with_reducible apply len_BB); assumption)  | ((with_reducible apply len_N); assumption) | ((with_reducible apply len_V); assumption) | ((with_reducible apply len_VV); assumption)  | (with_reducible refine stop_builtin ?_) | (with_reducible refine stop_slice ?_) | (with_reducible refine stop_index_B ?_) | (with_reducible refine stop_index_BB ?_)  | (with_reducible refine stop_index_N ?_) | (with_reducible refine stop_index_V ?_) | (with_reducible refine stop_index_VV ?_)  | (with_reducible refine stop_str_B ?_) | (with_reducible refine stop_mark_B ?_) | (with_reducible refine stop_buildSlice ?_))
          refine ⟨⟨j + 1, by go_num, by omega, by omega, ?_⟩, by simp [intOf]; omega⟩
          rw [take_snoc l j y' (by simpa using Hy.out)]
          intro b hb
          rcases List.mem_append.1 hb with hb | hb
          · exact Hall.out b hb
          · simp at hb; subst hb; exact hyb
        · go_wp2_with (first | ((with_reducible apply wpList_unguard); rfl) | (with_reducible refine stop_make ?_) | ((with_reducible apply len_B); assumption) | ((with_reducible apply len_BB); assumption)  | ((with_reducible apply len_N); assumption) | ((with_reducible apply len_V); assumption) | ((with_reducible apply len_VV); assumption)  | (with_reducible refine stop_builtin ?_) | (with_reducible refine stop_slice ?_) | (with_reducible refine stop_index_B ?_) | (with_reducible refine stop_index_BB ?_)  | (with_reducible refine stop_index_N ?_) | (with_reducible refine stop_index_V ?_) | (with_reducible refine stop_index_VV ?_)  | (with_reducible refine stop_str_B ?_) | (with_reducible refine stop_mark_B ?_) | (with_reducible refine stop_buildSlice ?_))
          refine Stop.go (idx_B hp rfl (by omega) (by omega) fun b o y' hy' hcell => ?_)
          obtain rfl : y' = y := Option.some.inj (hy'.symm.trans Hy.out)
          clear hy'
          obtain ⟨L, hL⟩ : ∃ L, L = l.take (j + 1) := ⟨_, rfl⟩
          have hLl : L.length = j + 1 := by rw [hL, List.length_take]; omega
          have hLlt : horner L < 18446744073709551616 := by rw [hL]; exact horner_take_lt l j y' (by omega) (by simpa using Hy.out) (by omega)
          have hLv : horner L = horner (l.take j) + 128 ^ j * y'.toNat := by
            rw [hL, take_snoc l j y' (by simpa using Hy.out), horner_append, List.length_take, Nat.min_eq_left (by omega)]
            simp only [horner, Nat.mul_zero, Nat.add_zero]
            rw [Nat.mod_eq_of_lt (by omega)]
          have HL := Lib.hid hL
          have HLv := Lib.hid hLv
          clear hL hLv
          go_wp2_with (first | ((with_reducible apply wpList_unguard); rfl) | (with_reducible refine stop_make ?_) | ((with_reducible apply len_B); assumption) | ((with_reducible apply len_BB); assumption)  | ((with_reducible apply len_N); assumption) | ((with_reducible apply len_V); assumption) | ((with_reducible apply len_VV); assumption)  | (with_reducible refine stop_builtin ?_) | (with_reducible refine stop_slice ?_) | (with_reducible refine stop_index_B ?_) | (with_reducible refine stop_index_BB ?_)  | (with_reducible refine stop_index_N ?_) | (with_reducible refine stop_index_V ?_) | (with_reducible refine stop_index_VV ?_)  | (with_reducible refine stop_str_B ?_) | (with_reducible refine stop_mark_B ?_) | (with_reducible refine stop_buildSlice ?_))
          go_loop [8, 9] (fun n i => ∃ m : Nat, i = .int .i64 ((m : Int) - 1) ∧ m ≤ j + 1 ∧ n = .int .u64 (horner (L.drop m))) (fun _ i => (intOf i + 1).toNat)
          case atStart => exact ⟨j + 1, by go_num, by omega, by rw [← hLl, List.drop_length]; rfl⟩
          case round =>
            obtain ⟨m, rfl, hm1, rfl⟩ := hrel
            by_cases h0 : 0 < m
            · obtain ⟨m, rfl⟩ : ∃ m', m = m' + 1 := ⟨m - 1, by omega⟩
              obtain ⟨z, hz⟩ : ∃ z, l[m]? = some z := ⟨_, List.getElem?_eq_getElem (by omega)⟩
              have hzL : L[m]? = some z := by rw [HL.out, List.getElem?_take, if_pos (by omega)]; exact hz
              have hdz : L.drop m = z :: L.drop (m + 1) := by
                obtain ⟨hlt3, rfl⟩ := List.getElem?_eq_some_iff.1 hzL
                exact List.drop_eq_getElem_cons hlt3
              have hstep : horner (L.drop m) = z.toNat % 128 + 128 * horner (L.drop (m + 1)) := by rw [hdz, horner]
              have hbd := horner_drop_le m L
              obtain ⟨V, hV⟩ : ∃ V, V = horner (L.drop (m + 1)) := ⟨_, rfl⟩
              rw [← hV] at hstep ⊢
              have Hst := Lib.hid hstep
              have Hz := Lib.hid hz
              have hzl := z.toNat_lt
              have hVb : V * 128 + z.toNat % 128 < 18446744073709551616 := by omega
              clear hz hzL hdz hstep hV
              have em : ((m + 1 : Nat) : Int) - 1 = (m : Int) := by omega
              rw [em]
              go_wp2_with (first | ((with_reducible apply wpList_unguard); rfl) | (with_reducible refine stop_make ?_) | ((with_reducible apply len_B); assumption) | ((with_reducible apply len_BB); assumption)  | ((with_reducible apply len_N); assumption) | ((with_reducible apply len_V); assumption) | ((with_reducible apply len_VV); assumption)  | (with_reducible refine stop_builtin ?_) | (with_reducible refine stop_slice ?_) | (with_reducible refine stop_index_B ?_) | (with_reducible refine stop_index_BB ?_)  | (with_reducible refine stop_index_N ?_) | (with_reducible refine stop_index_V ?_) | (with_reducible refine stop_index_VV ?_)  | (with_reducible refine stop_str_B ?_) | (with_reducible refine stop_mark_B ?_) | (with_reducible refine stop_buildSlice ?_))
              refine Stop.go (idx_B hp rfl (by omega) (by omega) fun b2 o2 z' hz' hcell2 => ?_)
              obtain rfl : z' = z := Option.some.inj (hz'.symm.trans Hz.out)
              clear hz'
              go_wp2_with (first | ((with_reducible apply wpList_unguard); rfl) | (with_reducible refine stop_make ?_) | ((with_reducible apply len_B); assumption) | ((with_reducible apply len_BB); assumption)  | ((with_reducible apply len_N); assumption) | ((with_reducible apply len_V); assumption) | ((with_reducible apply len_VV); assumption)  | (with_reducible refine stop_builtin ?_) | (with_reducible refine stop_slice ?_) | (with_reducible refine stop_index_B ?_) | (with_reducible refine stop_index_BB ?_)  | (with_reducible refine stop_index_N ?_) | (with_reducible refine stop_index_V ?_) | (with_reducible refine stop_index_VV ?_)  | (with_reducible refine stop_str_B ?_) | (with_reducible refine stop_mark_B ?_) | (with_reducible refine stop_buildSlice ?_))
              exact ⟨⟨m, by go_num, by omega, by rw [Hst.out]; congr 1; push_cast; omega⟩, by simp [intOf]⟩
            · obtain rfl : m = 0 := by omega
              rw [List.drop_zero]
              by_cases hj0 : 0 < j
              · by_cases hz0 : y'.toNat = 0
                · have hzb : ((y'.toNat : Int) == 0) = true := by simp [hz0]
                  have e1 := Hpk.out
                  rw [if_neg (fun h => by omega), if_pos (by omega), if_pos ⟨hz0, by omega⟩] at e1
                  have E1 := Lib.hid e1
                  clear e1
                  go_wp2_with (first | ((with_reducible apply wpList_unguard); rfl) | (with_reducible refine stop_make ?_) | ((with_reducible apply len_B); assumption) | ((with_reducible apply len_BB); assumption)  | ((with_reducible apply len_N); assumption) | ((with_reducible apply len_V); assumption) | ((with_reducible apply len_VV); assumption)  | (with_reducible refine stop_builtin ?_) | (with_reducible refine stop_slice ?_) | (with_reducible refine stop_index_B ?_) | (with_reducible refine stop_index_BB ?_)  | (with_reducible refine stop_index_N ?_) | (with_reducible refine stop_index_V ?_) | (with_reducible refine stop_index_VV ?_)  | (with_reducible refine stop_str_B ?_) | (with_reducible refine stop_mark_B ?_) | (with_reducible refine stop_buildSlice ?_))
                  refine Stop.go (idx_B hp rfl (by omega) (by omega) fun b3 o3 y3 hy' hcell3 => ?_)
                  obtain rfl : y3 = y' := Option.some.inj (hy'.symm.trans Hy.out)
                  clear hy'
                  go_wp2_with (first | ((with_reducible apply wpList_unguard); rfl) | (with_reducible refine stop_make ?_) | ((with_reducible apply len_B); assumption) | ((with_reducible apply len_BB); assumption)  | ((with_reducible apply len_N); assumption) | ((with_reducible apply len_V); assumption) | ((with_reducible apply len_VV); assumption)  | (with_reducible refine stop_builtin ?_) | (with_reducible refine stop_slice ?_) | (with_reducible refine stop_index_B ?_) | (with_reducible refine stop_index_BB ?_)  | (with_reducible refine stop_index_N ?_) | (with_reducible refine stop_index_V ?_) | (with_reducible refine stop_index_VV ?_)  | (with_reducible refine stop_str_B ?_) | (with_reducible refine stop_mark_B ?_) | (with_reducible refine stop_buildSlice ?_))
                  go_ret3
                  have e := HT.out
                  rw [E1.out, if_pos (by decide)] at e
                  rw [e]
                  exact ⟨_, rfl, Sl.nil _ _, 0, rfl⟩
                · have hzb : ((y'.toNat : Int) == 0) = false := beq_eq_false_iff_ne.2 (by omega)
                  have e1 := Hpk.out
                  rw [if_neg (fun h => by omega), if_pos (by omega), if_neg (fun h => by omega)] at e1
                  rw [← HLv.out] at e1
                  obtain ⟨V, hV⟩ : ∃ V, V = horner L := ⟨_, rfl⟩
                  rw [← hV] at e1 hLlt ⊢
                  have E1 := Lib.hid e1
                  clear e1 hV
                  by_cases hmo : most < V
                  · go_wp2_with (first | ((with_reducible apply wpList_unguard); rfl) | (with_reducible refine stop_make ?_) | ((with_reducible apply len_B); assumption) | ((with_reducible apply len_BB); assumption)  | ((with_reducible apply len_N); assumption) | ((with_reducible apply len_V); assumption) | ((with_reducible apply len_VV); assumption)  | (with_reducible refine stop_builtin ?_) | (with_reducible refine stop_slice ?_) | (with_reducible refine stop_index_B ?_) | (with_reducible refine stop_index_BB ?_)  | (with_reducible refine stop_index_N ?_) | (with_reducible refine stop_index_V ?_) | (with_reducible refine stop_index_VV ?_)  | (with_reducible refine stop_str_B ?_) | (with_reducible refine stop_mark_B ?_) | (with_reducible refine stop_buildSlice ?_))
                    refine Stop.go (idx_B hp rfl (by omega) (by omega) fun b3 o3 y3 hy' hcell3 => ?_)
                    obtain rfl : y3 = y' := Option.some.inj (hy'.symm.trans Hy.out)
                    clear hy'
                    go_wp2_with (first | ((with_reducible apply wpList_unguard); rfl) | (with_reducible refine stop_make ?_) | ((with_reducible apply len_B); assumption) | ((with_reducible apply len_BB); assumption)  | ((with_reducible apply len_N); assumption) | ((with_reducible apply len_V); assumption) | ((with_reducible apply len_VV); assumption)  | (with_reducible refine stop_builtin ?_) | (with_reducible refine stop_slice ?_) | (with_reducible refine stop_index_B ?_) | (with_reducible refine stop_index_BB ?_)  | (with_reducible refine stop_index_N ?_) | (with_reducible refine stop_index_V ?_) | (with_reducible refine stop_index_VV ?_)  | (with_reducible refine stop_str_B ?_) | (with_reducible refine stop_mark_B ?_) | (with_reducible refine stop_buildSlice ?_))
                    go_ret3
                    have e := HT.out
                    rw [E1.out, if_neg (by simp), if_pos hmo] at e
                    rw [e]
                    exact ⟨_, rfl, Sl.nil _ _, 0, rfl⟩
                  · obtain ⟨v1, hv1, hs1⟩ := hp.slice_run_l (P := Try.prog) rowB .i64 ((j : Int) + 1) (by omega) (by omega)
                    go_wp2_with (first | ((with_reducible apply wpList_unguard); rfl) | (with_reducible refine stop_make ?_) | ((with_reducible apply len_B); assumption) | ((with_reducible apply len_BB); assumption)  | ((with_reducible apply len_N); assumption) | ((with_reducible apply len_V); assumption) | ((with_reducible apply len_VV); assumption)  | (with_reducible refine stop_builtin ?_) | (with_reducible refine stop_slice ?_) | (with_reducible refine stop_index_B ?_) | (with_reducible refine stop_index_BB ?_)  | (with_reducible refine stop_index_N ?_) | (with_reducible refine stop_index_V ?_) | (with_reducible refine stop_index_VV ?_)  | (with_reducible refine stop_str_B ?_) | (with_reducible refine stop_mark_B ?_) | (with_reducible refine stop_buildSlice ?_))
                    refine Stop.go (idx_B hp rfl (by omega) (by omega) fun b3 o3 y3 hy' hcell3 => ?_)
                    obtain rfl : y3 = y' := Option.some.inj (hy'.symm.trans Hy.out)
                    clear hy'
                    go_wp2_with (first | ((with_reducible apply wpList_unguard); rfl) | (with_reducible refine stop_make ?_) | ((with_reducible apply len_B); assumption) | ((with_reducible apply len_BB); assumption)  | ((with_reducible apply len_N); assumption) | ((with_reducible apply len_V); assumption) | ((with_reducible apply len_VV); assumption)  | (with_reducible refine stop_builtin ?_) | (with_reducible refine stop_slice ?_) | (with_reducible refine stop_index_B ?_) | (with_reducible refine stop_index_BB ?_)  | (with_reducible refine stop_index_N ?_) | (with_reducible refine stop_index_V ?_) | (with_reducible refine stop_index_VV ?_)  | (with_reducible refine stop_str_B ?_) | (with_reducible refine stop_mark_B ?_) | (with_reducible refine stop_buildSlice ?_))
                    go_quiet (fail)
                    go_wp2_with (first | ((with_reducible apply wpList_unguard); rfl) | (with_reducible refine stop_make ?_) | ((with_reducible apply len_B); assumption) | ((with_reducible apply len_BB); assumption)  | ((with_reducible apply len_N); assumption) | ((with_reducible apply len_V); assumption) | ((with_reducible apply len_VV); assumption)  | (with_reducible refine stop_builtin ?_) | (with_reducible refine stop_slice ?_) | (with_reducible refine stop_index_B ?_) | (with_reducible refine stop_index_BB ?_)  | (with_reducible refine stop_index_N ?_) | (with_reducible refine stop_index_V ?_) | (with_reducible refine stop_index_VV ?_)  | (with_reducible refine stop_str_B ?_) | (with_reducible refine stop_mark_B ?_) | (with_reducible refine stop_buildSlice ?_))
                    go_ret3
                    have e := HT.out
                    rw [E1.out, if_neg (by simp), if_neg hmo] at e
                    rw [e]
                    exact ⟨_, rfl, by simpa using hs1, nq, rfl⟩
              · have hj1 : ¬ (1 : Int) < (j : Int) + 1 := by omega
                have e1 := Hpk.out
                rw [if_neg (fun h => by omega), if_pos (by omega), if_neg (fun h => by omega)] at e1
                rw [← HLv.out] at e1
                obtain ⟨V, hV⟩ : ∃ V, V = horner L := ⟨_, rfl⟩
                rw [← hV] at e1 hLlt ⊢
                have E1 := Lib.hid e1
                clear e1 hV
                by_cases hmo : most < V
                · go_wp2_with (first | ((with_reducible apply wpList_unguard); rfl) | (with_reducible refine stop_make ?_) | ((with_reducible apply len_B); assumption) | ((with_reducible apply len_BB); assumption)  | ((with_reducible apply len_N); assumption) | ((with_reducible apply len_V); assumption) | ((with_reducible apply len_VV); assumption)  | (with_reducible refine stop_builtin ?_) | (with_reducible refine stop_slice ?_) | (with_reducible refine stop_index_B ?_) | (with_reducible refine stop_index_BB ?_)  | (with_reducible refine stop_index_N ?_) | (with_reducible refine stop_index_V ?_) | (with_reducible refine stop_index_VV ?_)  | (with_reducible refine stop_str_B ?_) | (with_reducible refine stop_mark_B ?_) | (with_reducible refine stop_buildSlice ?_))
                  go_ret3
                  have e := HT.out
                  rw [E1.out, if_neg (by simp), if_pos hmo] at e
                  rw [e]
                  exact ⟨_, rfl, Sl.nil _ _, 0, rfl⟩
                · obtain ⟨v1, hv1, hs1⟩ := hp.slice_run_l (P := Try.prog) rowB .i64 ((j : Int) + 1) (by omega) (by omega)
                  go_wp2_with (first | ((with_reducible apply wpList_unguard); rfl) | (with_reducible refine stop_make ?_) | ((with_reducible apply len_B); assumption) | ((with_reducible apply len_BB); assumption)  | ((with_reducible apply len_N); assumption) | ((with_reducible apply len_V); assumption) | ((with_reducible apply len_VV); assumption)  | (with_reducible refine stop_builtin ?_) | (with_reducible refine stop_slice ?_) | (with_reducible refine stop_index_B ?_) | (with_reducible refine stop_index_BB ?_)  | (with_reducible refine stop_index_N ?_) | (with_reducible refine stop_index_V ?_) | (with_reducible refine stop_index_VV ?_)  | (with_reducible refine stop_str_B ?_) | (with_reducible refine stop_mark_B ?_) | (with_reducible refine stop_buildSlice ?_))
                  go_quiet (fail)
                  go_wp2_with (first | ((with_reducible apply wpList_unguard); rfl) | (with_reducible refine stop_make ?_) | ((with_reducible apply len_B); assumption) | ((with_reducible apply len_BB); assumption)  | ((with_reducible apply len_N); assumption) | ((with_reducible apply len_V); assumption) | ((with_reducible apply len_VV); assumption)  | (with_reducible refine stop_builtin ?_) | (with_reducible refine stop_slice ?_) | (with_reducible refine stop_index_B ?_) | (with_reducible refine stop_index_BB ?_)  | (with_reducible refine stop_index_N ?_) | (with_reducible refine stop_index_V ?_) | (with_reducible refine stop_index_VV ?_)  | (with_reducible refine stop_str_B ?_) | (with_reducible refine stop_mark_B ?_) | (with_reducible refine stop_buildSlice ?_))
                  go_ret3
                  have e := HT.out
                  rw [E1.out, if_neg (by simp), if_neg hmo] at e
                  rw [e]
                  exact ⟨_, rfl, by simpa using hs1, nq, rfl⟩
    · obtain rfl : j = l.length := by omega
      have Hpk := Lib.hid hpk
      clear hpk
      go_wp2_with (first | ((with_reducible apply wpList_unguard); rfl) | (with_reducible refine stop_make ?_) | ((with_reducible apply len_B); assumption) | ((with_reducible apply len_BB); assumption)  | ((with_reducible apply len_N); assumption) | ((with_reducible apply len_V); assumption) | ((with_reducible apply len_VV); assumption)  | (with_reducible refine stop_builtin ?_) | (with_reducible refine stop_slice ?_) | (with_reducible refine stop_index_B ?_) | (with_reducible refine stop_index_BB ?_)  | (with_reducible refine stop_index_N ?_) | (with_reducible refine stop_index_V ?_) | (with_reducible refine stop_index_VV ?_)  | (with_reducible refine stop_str_B ?_) | (with_reducible refine stop_mark_B ?_) | (with_reducible refine stop_buildSlice ?_))
      go_ret3
      have e1 := Hpk.out
      rw [List.drop_length, peekGo] at e1
      have e := HT.out
      rw [e1, if_pos (by decide)] at e
      rw [e]
      exact ⟨_, rfl, Sl.nil _ _, 0, rfl⟩
end Go.Proofs.Ytfgagfemhmcdfaa
