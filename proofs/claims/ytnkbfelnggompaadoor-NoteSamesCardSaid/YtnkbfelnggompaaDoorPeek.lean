/- package scroll: peek, take. -/
import Derived.Test.YtnkbfelnggompaaDoorScRep
import Derived.Test.YtnkbfelnggompaaDoorMake
namespace Go.Arm

/-- The next number: its value, how many bytes it has, the error. -/
def peekGo : List UInt8 → Nat → Nat → Nat × Nat × Int
  | [], _, _ => (0, 0, 2)
  | b :: l, i, acc =>
    if i = 9 ∧ 1 < b.toNat then (0, 0, 4)
    else if b.toNat < 128 then (if b.toNat = 0 ∧ 0 < i then (0, 0, 4) else (acc + 128 ^ i * b.toNat, i + 1, 0))
    else peekGo l (i + 1) (acc + 128 ^ i * (b.toNat - 128))
def peek (l : List UInt8) : Nat × Nat × Int := peekGo l 0 0
end Go.Arm
namespace Go.Proofs.YtnkbfelnggompaaDoor
open Go Go.RowKit Go.Arm

theorem andNot128 : ∀ n : Fin 256, bits .andNot .u8 (n.val : Int) 128 = ((n.val % 128 : Nat) : Int) := by decide +kernel

theorem or_peek (j acc : Nat) (y : UInt8) (hacc : acc < 128 ^ j) (hj : j ≤ 9) (h9 : j = 9 → y.toNat % 128 ≤ 1) :
    bits .or .u64 (acc : Int) (IntKind.u64.wrap (IntKind.u64.wrap (bits .andNot .u8 (y.toNat : Int) 128) * 2 ^ (7 * j))) = ((acc + 128 ^ j * (y.toNat % 128) : Nat) : Int) := by
  have hw : ∀ n : Nat, n < 18446744073709551616 → IntKind.u64.wrap (n : Int) = n := by
    intro n hn
    simp [IntKind.wrap, IntKind.signed, IntKind.bits]
    omega
  have e1 := andNot128 ⟨y.toNat, y.toNat_lt⟩
  simp only at e1
  obtain ⟨x, hx⟩ : ∃ x, x = y.toNat % 128 := ⟨_, rfl⟩
  rw [← hx] at e1 h9 ⊢
  have hx2 : x < 128 := by omega
  have e128 : (128 : Nat) ^ j = 2 ^ (7 * j) := by rw [Nat.pow_mul]
  rw [e1, hw x (by omega)]
  have e2 : (x : Int) * 2 ^ (7 * j) = ((2 ^ (7 * j) * x : Nat) : Int) := by push_cast; rw [Int.mul_comm]
  have hb : 2 ^ (7 * j) * x < 18446744073709551616 := by
    by_cases h : j = 9
    · subst h
      have := h9 rfl
      have : 2 ^ (7 * 9) * x ≤ 2 ^ (7 * 9) * 1 := Nat.mul_le_mul_left _ this
      omega
    · have h1 : 2 ^ (7 * j) ≤ 2 ^ 56 := Nat.pow_le_pow_right (by decide) (by omega)
      have : 2 ^ (7 * j) * x ≤ 2 ^ 56 * 127 := Nat.mul_le_mul h1 (by omega)
      omega
  have ha : acc < 18446744073709551616 := by
    have : 128 ^ j ≤ 128 ^ 9 := Nat.pow_le_pow_right (by decide) hj
    omega
  rw [e128] at hacc ⊢
  rw [e2, hw _ hb, (bits_of_nat .u64 rfl acc (2 ^ (7 * j) * x) ha hb).2.1, Nat.or_comm, ← Nat.two_pow_add_eq_or_of_lt hacc, Nat.add_comm]

set_option maxRecDepth 100000 in
theorem peek_any (w : World) (S : Nat → Prop) (l : List UInt8) (p : Value) (hp : Sl w S l p) :
    Calls Tryd.prog 91 #[p] w fun e w' => e = .returned (.tuple #[.int .u64 (peek l).1, .int .i64 (peek l).2.1, .int .i64 (peek l).2.2]) ∧ w = w' := by
  have hm : l.length ≤ 9223372036854775807 := hp.length_le
  obtain ⟨PK, hPK⟩ : ∃ PK, PK = peek l := ⟨_, rfl⟩
  rw [← hPK]
  have HPK := Lib.hid hPK
  clear hPK
  go_enter Tryd.func91, Tryd.ntmps91
  go_wp2_with (first | ((with_reducible apply wpList_unguard); rfl) | (with_reducible refine stop_make ?_) | ((with_reducible apply len_B); assumption) | ((with_reducible apply len_BB); assumption)  | ((with_reducible apply len_N); assumption) | ((with_reducible apply len_V); assumption) | ((with_reducible apply len_VV); assumption)  | (with_reducible refine stop_builtin ?_) | (with_reducible refine stop_slice ?_) | (with_reducible refine stop_index_B ?_) | (with_reducible refine stop_index_BB ?_)  | (with_reducible refine stop_index_N ?_) | (with_reducible refine stop_index_V ?_) | (with_reducible refine stop_index_VV ?_)  | (with_reducible refine stop_str_B ?_) | (with_reducible refine stop_mark_B ?_) | (with_reducible refine stop_buildSlice ?_))
  go_loop [5, 6, 7, 10] (fun n u6 u7 i => ∃ (j acc : Nat), j ≤ l.length ∧ j ≤ 9 ∧ i = .int .i64 j ∧ n = .int .u64 acc ∧ acc < 128 ^ j ∧ peekGo (l.drop j) j acc = PK) (fun _ _ _ i => l.length - (intOf i).toNat)
  case atStart => exact ⟨0, 0, by omega, by omega, rfl, rfl, by simp, HPK.out.symm⟩
  case round =>
    obtain ⟨j, acc, hj, hj9, rfl, rfl, hacc, hgo⟩ := hrel
    by_cases hlt : j < l.length
    · obtain ⟨y, hy⟩ : ∃ y, l[j]? = some y := ⟨_, List.getElem?_eq_getElem hlt⟩
      have hd : l.drop j = y :: l.drop (j + 1) := by
        obtain ⟨_, rfl⟩ := List.getElem?_eq_some_iff.1 hy
        exact List.drop_eq_getElem_cons hlt
      rw [hd, peekGo] at hgo
      have Hgo := Lib.hid hgo
      have Hy := Lib.hid hy
      have Hacc := Lib.hid hacc
      have hyl := y.toNat_lt
      clear hgo hy hd hacc
      by_cases h9 : j = 9 ∧ 1 < y.toNat
      · obtain ⟨rfl, h91⟩ := h9
        go_wp2_with (first | ((with_reducible apply wpList_unguard); rfl) | (with_reducible refine stop_make ?_) | ((with_reducible apply len_B); assumption) | ((with_reducible apply len_BB); assumption)  | ((with_reducible apply len_N); assumption) | ((with_reducible apply len_V); assumption) | ((with_reducible apply len_VV); assumption)  | (with_reducible refine stop_builtin ?_) | (with_reducible refine stop_slice ?_) | (with_reducible refine stop_index_B ?_) | (with_reducible refine stop_index_BB ?_)  | (with_reducible refine stop_index_N ?_) | (with_reducible refine stop_index_V ?_) | (with_reducible refine stop_index_VV ?_)  | (with_reducible refine stop_str_B ?_) | (with_reducible refine stop_mark_B ?_) | (with_reducible refine stop_buildSlice ?_))
        refine Stop.go (idx_B hp rfl (by omega) (by omega) fun b o y' hy' hcell => ?_)
        obtain rfl : y' = y := Option.some.inj (hy'.symm.trans Hy.out)
        clear hy'
        go_wp2_with (first | ((with_reducible apply wpList_unguard); rfl) | (with_reducible refine stop_make ?_) | ((with_reducible apply len_B); assumption) | ((with_reducible apply len_BB); assumption)  | ((with_reducible apply len_N); assumption) | ((with_reducible apply len_V); assumption) | ((with_reducible apply len_VV); assumption)  | (with_reducible refine stop_builtin ?_) | (with_reducible refine stop_slice ?_) | (with_reducible refine stop_index_B ?_) | (with_reducible refine stop_index_BB ?_)  | (with_reducible refine stop_index_N ?_) | (with_reducible refine stop_index_V ?_) | (with_reducible refine stop_index_VV ?_)  | (with_reducible refine stop_str_B ?_) | (with_reducible refine stop_mark_B ?_) | (with_reducible refine stop_buildSlice ?_))
        go_ret3
        have e := Hgo.out
        rw [if_pos ⟨trivial, h91⟩] at e
        rw [← e]
        simp
      · by_cases hj9' : j = 9
        · subst hj9'
          have hy1 : y.toNat ≤ 1 := by omega
          have hn1 : ¬ (1 : Int) < (y.toNat : Int) := by omega
          go_wp2_with (first | ((with_reducible apply wpList_unguard); rfl) | (with_reducible refine stop_make ?_) | ((with_reducible apply len_B); assumption) | ((with_reducible apply len_BB); assumption)  | ((with_reducible apply len_N); assumption) | ((with_reducible apply len_V); assumption) | ((with_reducible apply len_VV); assumption)  | (with_reducible refine stop_builtin ?_) | (with_reducible refine stop_slice ?_) | (with_reducible refine stop_index_B ?_) | (with_reducible refine stop_index_BB ?_)  | (with_reducible refine stop_index_N ?_) | (with_reducible refine stop_index_V ?_) | (with_reducible refine stop_index_VV ?_)  | (with_reducible refine stop_str_B ?_) | (with_reducible refine stop_mark_B ?_) | (with_reducible refine stop_buildSlice ?_))
          refine Stop.go (idx_B hp rfl (by omega) (by omega) fun b o y' hy' hcell => ?_)
          obtain rfl : y' = y := Option.some.inj (hy'.symm.trans Hy.out)
          clear hy'
          by_cases h0 : y'.toNat = 0
          · go_wp2_with (first | ((with_reducible apply wpList_unguard); rfl) | (with_reducible refine stop_make ?_) | ((with_reducible apply len_B); assumption) | ((with_reducible apply len_BB); assumption)  | ((with_reducible apply len_N); assumption) | ((with_reducible apply len_V); assumption) | ((with_reducible apply len_VV); assumption)  | (with_reducible refine stop_builtin ?_) | (with_reducible refine stop_slice ?_) | (with_reducible refine stop_index_B ?_) | (with_reducible refine stop_index_BB ?_)  | (with_reducible refine stop_index_N ?_) | (with_reducible refine stop_index_V ?_) | (with_reducible refine stop_index_VV ?_)  | (with_reducible refine stop_str_B ?_) | (with_reducible refine stop_mark_B ?_) | (with_reducible refine stop_buildSlice ?_))
            go_ret3
            have e := Hgo.out
            rw [if_neg (by omega), if_pos (by omega), if_pos ⟨h0, by omega⟩] at e
            rw [← e]
            simp
          · go_wp2_with (first | ((with_reducible apply wpList_unguard); rfl) | (with_reducible refine stop_make ?_) | ((with_reducible apply len_B); assumption) | ((with_reducible apply len_BB); assumption)  | ((with_reducible apply len_N); assumption) | ((with_reducible apply len_V); assumption) | ((with_reducible apply len_VV); assumption)  | (with_reducible refine stop_builtin ?_) | (with_reducible refine stop_slice ?_) | (with_reducible refine stop_index_B ?_) | (with_reducible refine stop_index_BB ?_)  | (with_reducible refine stop_index_N ?_) | (with_reducible refine stop_index_V ?_) | (with_reducible refine stop_index_VV ?_)  | (with_reducible refine stop_str_B ?_) | (with_reducible refine stop_mark_B ?_) | (with_reducible refine stop_buildSlice ?_))
            go_ret3
            have e := Hgo.out
            rw [if_neg (by omega), if_pos (by omega), if_neg (by omega)] at e
            rw [← e]
            have ho := or_peek 9 acc y' Hacc.out (by omega) (by omega)
            rw [show (2 : Int) ^ (7 * 9) = 9223372036854775808 by decide, Nat.mod_eq_of_lt (show y'.toNat < 128 by omega)] at ho
            rw [← ho]
            simp
        · have hjb : ((j : Int) == 9) = false := beq_eq_false_iff_ne.2 (by omega)
          go_wp2_with (first | ((with_reducible apply wpList_unguard); rfl) | (with_reducible refine stop_make ?_) | ((with_reducible apply len_B); assumption) | ((with_reducible apply len_BB); assumption)  | ((with_reducible apply len_N); assumption) | ((with_reducible apply len_V); assumption) | ((with_reducible apply len_VV); assumption)  | (with_reducible refine stop_builtin ?_) | (with_reducible refine stop_slice ?_) | (with_reducible refine stop_index_B ?_) | (with_reducible refine stop_index_BB ?_)  | (with_reducible refine stop_index_N ?_) | (with_reducible refine stop_index_V ?_) | (with_reducible refine stop_index_VV ?_)  | (with_reducible refine stop_str_B ?_) | (with_reducible refine stop_mark_B ?_) | (with_reducible refine stop_buildSlice ?_))
          refine Stop.go (idx_B hp rfl (by omega) (by omega) fun b o y' hy' hcell => ?_)
          obtain rfl : y' = y := Option.some.inj (hy'.symm.trans Hy.out)
          clear hy'
          have ho := or_peek j acc y' Hacc.out (by omega) (by omega)
          have Ho := Lib.hid ho
          clear ho
          by_cases hb : y'.toNat < 128
          · by_cases h0 : y'.toNat = 0 ∧ 0 < j
            · obtain ⟨h00, h01⟩ := h0
              have h01' : (0 : Int) < (j : Int) := by omega
              have hy0 : ((y'.toNat : Int) == 0) = true := by simp [h00]
              go_wp2_with (first | ((with_reducible apply wpList_unguard); rfl) | (with_reducible refine stop_make ?_) | ((with_reducible apply len_B); assumption) | ((with_reducible apply len_BB); assumption)  | ((with_reducible apply len_N); assumption) | ((with_reducible apply len_V); assumption) | ((with_reducible apply len_VV); assumption)  | (with_reducible refine stop_builtin ?_) | (with_reducible refine stop_slice ?_) | (with_reducible refine stop_index_B ?_) | (with_reducible refine stop_index_BB ?_)  | (with_reducible refine stop_index_N ?_) | (with_reducible refine stop_index_V ?_) | (with_reducible refine stop_index_VV ?_)  | (with_reducible refine stop_str_B ?_) | (with_reducible refine stop_mark_B ?_) | (with_reducible refine stop_buildSlice ?_))
              go_ret3
              have e := Hgo.out
              rw [if_neg (by omega), if_pos hb, if_pos ⟨h00, h01⟩] at e
              rw [← e]
              simp
            · by_cases h00 : y'.toNat = 0
              · have hy0 : ((y'.toNat : Int) == 0) = true := by simp [h00]
                have h01 : ¬ (0 : Int) < (j : Int) := by omega
                go_wp2_with (first | ((with_reducible apply wpList_unguard); rfl) | (with_reducible refine stop_make ?_) | ((with_reducible apply len_B); assumption) | ((with_reducible apply len_BB); assumption)  | ((with_reducible apply len_N); assumption) | ((with_reducible apply len_V); assumption) | ((with_reducible apply len_VV); assumption)  | (with_reducible refine stop_builtin ?_) | (with_reducible refine stop_slice ?_) | (with_reducible refine stop_index_B ?_) | (with_reducible refine stop_index_BB ?_)  | (with_reducible refine stop_index_N ?_) | (with_reducible refine stop_index_V ?_) | (with_reducible refine stop_index_VV ?_)  | (with_reducible refine stop_str_B ?_) | (with_reducible refine stop_mark_B ?_) | (with_reducible refine stop_buildSlice ?_))
                go_ret3
                have e := Hgo.out
                rw [if_neg (by omega), if_pos hb, if_neg h0] at e
                rw [← e]
                have h := Ho.out
                rw [Nat.mod_eq_of_lt hb] at h
                rw [← h]
                simp [h00]
              · have hy0 : ((y'.toNat : Int) == 0) = false := beq_eq_false_iff_ne.2 (by omega)
                go_wp2_with (first | ((with_reducible apply wpList_unguard); rfl) | (with_reducible refine stop_make ?_) | ((with_reducible apply len_B); assumption) | ((with_reducible apply len_BB); assumption)  | ((with_reducible apply len_N); assumption) | ((with_reducible apply len_V); assumption) | ((with_reducible apply len_VV); assumption)  | (with_reducible refine stop_builtin ?_) | (with_reducible refine stop_slice ?_) | (with_reducible refine stop_index_B ?_) | (with_reducible refine stop_index_BB ?_)  | (with_reducible refine stop_index_N ?_) | (with_reducible refine stop_index_V ?_) | (with_reducible refine stop_index_VV ?_)  | (with_reducible refine stop_str_B ?_) | (with_reducible refine stop_mark_B ?_) | (with_reducible refine stop_buildSlice ?_))
                go_ret3
                have e := Hgo.out
                rw [if_neg (by omega), if_pos hb, if_neg h0] at e
                rw [← e]
                have h := Ho.out
                rw [Nat.mod_eq_of_lt hb] at h
                rw [← h]
                simp
          · go_wp2_with (first | ((with_reducible apply wpList_unguard); rfl) | (with_reducible refine stop_make ?_) | ((with_reducible apply len_B); assumption) | ((with_reducible apply len_BB); assumption)  | ((with_reducible apply len_N); assumption) | ((with_reducible apply len_V); assumption) | ((with_reducible apply len_VV); assumption)  | (with_reducible refine stop_builtin ?_) | (with_reducible refine stop_slice ?_) | (with_reducible refine stop_index_B ?_) | (with_reducible refine stop_index_BB ?_)  | (with_reducible refine stop_index_N ?_) | (with_reducible refine stop_index_V ?_) | (with_reducible refine stop_index_VV ?_)  | (with_reducible refine stop_str_B ?_) | (with_reducible refine stop_mark_B ?_) | (with_reducible refine stop_buildSlice ?_))
            refine ⟨⟨j + 1, _, by omega, by omega, by go_num, by rw [Ho.out], ?_, ?_⟩, by simp [intOf]; omega⟩
            · have h1 : 128 ^ j * (y'.toNat % 128) ≤ 128 ^ j * 127 := Nat.mul_le_mul_left _ (by omega)
              have h2 := Hacc.out
              rw [Nat.pow_succ]
              omega
            · have e := Hgo.out
              rw [if_neg (by omega), if_neg hb] at e
              rw [← e, show y'.toNat % 128 = y'.toNat - 128 by omega]
    · go_wp2_with (first | ((with_reducible apply wpList_unguard); rfl) | (with_reducible refine stop_make ?_) | ((with_reducible apply len_B); assumption) | ((with_reducible apply len_BB); assumption)  | ((with_reducible apply len_N); assumption) | ((with_reducible apply len_V); assumption) | ((with_reducible apply len_VV); assumption)  | (with_reducible refine stop_builtin ?_) | (with_reducible refine stop_slice ?_) | (with_reducible refine stop_index_B ?_) | (with_reducible refine stop_index_BB ?_)  | (with_reducible refine stop_index_N ?_) | (with_reducible refine stop_index_V ?_) | (with_reducible refine stop_index_VV ?_)  | (with_reducible refine stop_str_B ?_) | (with_reducible refine stop_mark_B ?_) | (with_reducible refine stop_buildSlice ?_))
      go_ret3
      rw [List.drop_of_length_le (by omega)] at hgo
      rw [← hgo]
      simp [peekGo]

theorem peekGo_size : ∀ (l : List UInt8) (i acc : Nat), (peekGo l i acc).2.1 ≤ i + l.length
  | [], i, acc => by simp [peekGo]
  | b :: l, i, acc => by
    have ih := peekGo_size l (i + 1) (acc + 128 ^ i * (b.toNat - 128))
    rw [peekGo]
    simp only [List.length_cons]
    repeat' split
    all_goals first | omega | (simp; done) | (simp; omega)
theorem peek_size (l : List UInt8) : (peek l).2.1 ≤ l.length := by have := peekGo_size l 0 0; rw [peek]; omega
end Go.Proofs.YtnkbfelnggompaaDoor
