/- armillaryref01.Turn: the contract. -/
import Derived.Test.YtiaiagkfkckkpaaDoorRefSeal
namespace Go.Proofs.YtiaiagkfkckkpaaDoor
open Go Go.RowKit Go.Arm

/-- Turn -/
theorem turn_any (w : World) (S : Nat → Prop) (l : List UInt8) (p : Value) (k pat : Nat) (hp : Sl w S l p) (hl : l.length ≤ 1000000) (hk : k ≤ 8 * l.length) (hpat : pat < 4294967296) :
    Calls Tryd.prog 22 #[p, .int .i64 k, .int .u32 pat] w fun e w' => ∃ v, e = .returned v ∧ OwnB w' w.heap.size (turn l k pat) v ∧ Below w.heap.size w w' := by
  go_enter Tryd.func22, Tryd.ntmps22
  go_wp2_with (first | ((with_reducible apply wpList_unguard); rfl) | ((with_reducible apply len_B); assumption) | ((with_reducible apply len_BB); assumption)  | (with_reducible refine stop_builtin ?_) | (with_reducible refine stop_slice ?_) | (with_reducible refine stop_index_B ?_) | (with_reducible refine stop_index_BB ?_)  | (with_reducible refine stop_str_B ?_) | (with_reducible refine stop_mark_B ?_) | (with_reducible refine stop_buildSlice ?_))
  refine (copy_any w S l p hp (by omega)).mono ?_
  rintro e w1 ⟨v, rfl, hv, hb⟩
  have hs := hb.size
  go_wp2_with (first | ((with_reducible apply wpList_unguard); rfl) | ((with_reducible apply len_B); assumption) | ((with_reducible apply len_BB); assumption)  | (with_reducible refine stop_builtin ?_) | (with_reducible refine stop_slice ?_) | (with_reducible refine stop_index_B ?_) | (with_reducible refine stop_index_BB ?_)  | (with_reducible refine stop_str_B ?_) | (with_reducible refine stop_mark_B ?_) | (with_reducible refine stop_buildSlice ?_))
  go_loopw [12] (fun i wr => ∃ j : Nat, j ≤ 32 ∧ i = .int .i64 j ∧ OwnB wr w.heap.size (turnGo l k pat j) v ∧ Below w.heap.size w wr) (fun i _ => 32 - (intOf i).toNat)
  case atStart => exact ⟨0, by omega, rfl, hv, hb⟩
  case round =>
    obtain ⟨j, hj, rfl, hv1, hb1⟩ := hrel
    have hs1 := hb1.size
    have hlen := turnGo_len l k pat j
    obtain ⟨cur, hcur⟩ : ∃ cur, cur = turnGo l k pat j := ⟨_, rfl⟩
    rw [← hcur] at hv1 hlen
    have Hcur := Lib.hid hcur
    have Hlen := Lib.hid hlen
    clear hcur hlen
    by_cases hlt : j < 32
    · by_cases hbit : pat.testBit j = true
      · have hc : (bits .and .u32 ((pat : Int) / 2 ^ j) 1 == 1) = true := bit_one pat j hpat true hbit
        have hvs : Sl wr (fun b => w.heap.size ≤ b) cur v := hv1.sl'
        by_cases hin : k + j < 8 * cur.length
        · have hlen2 : cur.length ≤ 1000000 := by have := Hlen.out; omega
          obtain ⟨m, hm⟩ : ∃ m, m = k + j := ⟨_, rfl⟩
          have hmi : ((k : Int) + (j : Int)) = (m : Int) := by omega
          obtain ⟨g, o, y, hy, hob, hix, hcell, hfr, hst⟩ := hv1.at (P := Tryd.prog) rowB (m / 8) (by omega)
          have Hy := Lib.hid hy
          have Hob := Lib.hid hob
          have Hst := Lib.hid hst
          have Hm := Lib.hid hm
          have hin' : m < 8 * cur.length := by omega
          clear hy hob hst hm hin hk
          go_wp2_with (first | ((with_reducible apply wpList_unguard); rfl) | ((with_reducible apply len_B); assumption) | ((with_reducible apply len_BB); assumption)  | (with_reducible refine stop_builtin ?_) | (with_reducible refine stop_slice ?_) | (with_reducible refine stop_index_B ?_) | (with_reducible refine stop_index_BB ?_)  | (with_reducible refine stop_str_B ?_) | (with_reducible refine stop_mark_B ?_) | (with_reducible refine stop_buildSlice ?_))
          rw [hmi] at *
          have hix' : ∀ (k : IntKind) w', (Instr.indexAt 24 v (.int k ((m : Int) / 8))).run Tryd.prog w' = .ok (.pointer (some ⟨g, o, none⟩)) w' := hix
          clear hix
          go_region
          obtain ⟨y', hy'⟩ : ∃ y', y' = UInt8.ofNat (y.toNat ^^^ 2 ^ (m % 8)) := ⟨_, rfl⟩
          rw [xor8 y (m % 8) (Nat.mod_lt _ (by decide)), ← hy']
          have Hy' := Lib.hid hy'
          clear hy'
          go_wp2_with (first | ((with_reducible apply wpList_unguard); rfl) | ((with_reducible apply len_B); assumption) | ((with_reducible apply len_BB); assumption)  | (with_reducible refine stop_builtin ?_) | (with_reducible refine stop_slice ?_) | (with_reducible refine stop_index_B ?_) | (with_reducible refine stop_index_BB ?_)  | (with_reducible refine stop_str_B ?_) | (with_reducible refine stop_mark_B ?_) | (with_reducible refine stop_buildSlice ?_))
          go_roundw
          case rel =>
            refine ⟨j + 1, by omega, by go_num, ?_, (hb1.setCell (by have := (hv1.ge g Hob.out).1; exact this) _).drew⟩
            rw [turnGo, hbit, if_pos (by have := Hm.out; have := Hlen.out; simp; omega), flipBit, modify_of_get _ _ _ y (by rw [← Hcur.out, ← Hm.out]; exact Hy.out), ← Hm.out, ← Hcur.out, ← Hy'.out]
            exact Own.drew (Hst.out y')
          case measure => simp [intOf]; omega
        · have hlen2 : cur.length ≤ 1000000 := by have := Hlen.out; omega
          go_wp2_with (first | ((with_reducible apply wpList_unguard); rfl) | ((with_reducible apply len_B); assumption) | ((with_reducible apply len_BB); assumption)  | (with_reducible refine stop_builtin ?_) | (with_reducible refine stop_slice ?_) | (with_reducible refine stop_index_B ?_) | (with_reducible refine stop_index_BB ?_)  | (with_reducible refine stop_str_B ?_) | (with_reducible refine stop_mark_B ?_) | (with_reducible refine stop_buildSlice ?_))
          go_roundw
          case rel =>
            refine ⟨j + 1, by omega, by go_num, ?_, hb1⟩
            rw [turnGo, hbit, if_neg (by have := Hlen.out; simp; omega), ← Hcur.out]
            exact hv1
          case measure => simp [intOf]; omega
      · have hc : (bits .and .u32 ((pat : Int) / 2 ^ j) 1 == 1) = false := bit_one pat j hpat false (by simpa using hbit)
        go_wp2_with (first | ((with_reducible apply wpList_unguard); rfl) | ((with_reducible apply len_B); assumption) | ((with_reducible apply len_BB); assumption)  | (with_reducible refine stop_builtin ?_) | (with_reducible refine stop_slice ?_) | (with_reducible refine stop_index_B ?_) | (with_reducible refine stop_index_BB ?_)  | (with_reducible refine stop_str_B ?_) | (with_reducible refine stop_mark_B ?_) | (with_reducible refine stop_buildSlice ?_))
        go_roundw
        case rel =>
          refine ⟨j + 1, by omega, by go_num, ?_, hb1⟩
          rw [turnGo, if_neg (by simp [hbit]), ← Hcur.out]
          exact hv1
        case measure => simp [intOf]; omega
    · go_wp2_with (first | ((with_reducible apply wpList_unguard); rfl) | ((with_reducible apply len_B); assumption) | ((with_reducible apply len_BB); assumption)  | (with_reducible refine stop_builtin ?_) | (with_reducible refine stop_slice ?_) | (with_reducible refine stop_index_B ?_) | (with_reducible refine stop_index_BB ?_)  | (with_reducible refine stop_str_B ?_) | (with_reducible refine stop_mark_B ?_) | (with_reducible refine stop_buildSlice ?_))
      go_ret
      have : j = 32 := by omega
      subst this
      exact ⟨v, rfl, by rw [turn, ← Hcur.out]; exact hv1, hb1⟩

end Go.Proofs.YtiaiagkfkckkpaaDoor
