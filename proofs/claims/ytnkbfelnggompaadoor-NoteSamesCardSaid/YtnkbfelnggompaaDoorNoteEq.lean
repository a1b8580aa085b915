/- slices.Equal, slices.EqualFunc at the notes' types, and note.Same's own functions. -/
import Derived.Test.YtnkbfelnggompaaDoorNoteBox
namespace Go.Arm
open Go.RowKit
deriving instance DecidableEq for OpR
deriving instance DecidableEq for HitR
deriving instance DecidableEq for NoteR
theorem same_takeG {α : Type} (l m : List α) (j : Nat) (hl : l.length = m.length) (hj : l.length ≤ j) (h : l.take j = m.take j) : l = m := by
  rw [List.take_of_length_le hj, List.take_of_length_le (by omega)] at h
  exact h
theorem take_snocG {α : Type} (l : List α) (j : Nat) (y : α) (h : l[j]? = some y) : l.take (j + 1) = l.take j ++ [y] := by
  obtain ⟨h1, rfl⟩ := List.getElem?_eq_some_iff.1 h
  exact List.take_succ_eq_append_getElem h1
end Go.Arm
namespace Go.Proofs.YtnkbfelnggompaaDoor
open Go Go.RowKit Go.Arm

theorem eqI_any (w : World) (S S' : Nat → Prop) (l m : List Int) (p q : Value) (hp : Sl w S l p) (hq : Sl w S' m q) :
    Calls Tryd.prog 33 #[p, q] w fun e w' => ∃ nq, e = .returned (.bool (l == m)) ∧ w' = w.drewN nq := by
  have hll : l.length ≤ 9223372036854775807 := hp.length_le
  by_cases hlen : l.length = m.length
  · obtain ⟨R, hR⟩ : ∃ R, R = (l == m) := ⟨_, rfl⟩
    rw [← hR]
    have HR := Lib.hid hR
    clear hR
    have hne : ((l.length : Int) != (m.length : Int)) = false := by simp [hlen]
    have Hlen := Lib.hid hlen
    clear hlen
    go_enter Tryd.func33, Tryd.ntmps33
    go_wp2_with (first | ((with_reducible apply wpList_unguard); rfl) | (with_reducible refine stop_make ?_) | ((with_reducible apply len_B); assumption) | ((with_reducible apply len_BB); assumption)  | ((with_reducible apply len_N); assumption) | ((with_reducible apply len_V); assumption) | ((with_reducible apply len_VV); assumption) | ((with_reducible apply len_P); assumption) | ((with_reducible apply len_O); assumption) | ((with_reducible apply len_H); assumption)  | (with_reducible refine stop_builtin ?_) | (with_reducible refine stop_slice ?_) | (with_reducible refine stop_index_B ?_) | (with_reducible refine stop_index_BB ?_)  | (with_reducible refine stop_index_N ?_) | (with_reducible refine stop_index_V ?_) | (with_reducible refine stop_index_VV ?_) | (with_reducible refine stop_index_P ?_) | (with_reducible refine stop_index_O ?_) | (with_reducible refine stop_index_H ?_)  | (with_reducible refine stop_str_B ?_) | (with_reducible refine stop_mark_B ?_) | (with_reducible refine stop_buildSlice ?_))
    go_loopg [5, 13] (l.length + 1) (fun k x i wr => ∃ (j n : Nat), k = l.length - j + 1 ∧ j ≤ l.length ∧ i = .int .i64 j ∧ wr = w.drewN n ∧ l.take j = m.take j)
    case atStart => exact ⟨0, 0, by omega, by omega, rfl, rfl, by simp⟩
    case round =>
      obtain ⟨j, n, hk, hj, rfl, hwr, htk⟩ := hrel
      have hp' : Sl wr S l p := by rw [hwr]; exact hp.drewN n
      have hq' : Sl wr S' m q := by rw [hwr]; exact hq.drewN n
      have Hwr := Lib.hid hwr
      clear hwr
      have Hk := Lib.hid hk
      have Htk := Lib.hid htk
      clear hk htk
      by_cases hlt : j < l.length
      · have hjm : j < m.length := by rw [← Hlen.out]; exact hlt
        obtain ⟨b1, o1, y1, x1, hy1, hr1, hx1, hc1⟩ := hp'.index_run1 (P := Tryd.prog) rowP rfl .i64 j (by omega) (by omega)
        obtain ⟨b3, o3, y3, x3, hy3, hr3, hx3, hc3⟩ := hq'.index_run1 (P := Tryd.prog) rowP rfl .i64 j (by omega) (by omega)
        have e1 : [x1] = [Value.int .i64 y1] := hr1.1
        have e3 : [x3] = [Value.int .i64 y3] := hr3.1
        simp only [List.cons.injEq, and_true] at e1 e3
        subst e1
        subst e3
        have Hy1 := Lib.hid hy1
        have Hy3 := Lib.hid hy3
        clear hr1 hr3 hy1 hy3
        by_cases hyy : y1 = y3
        · subst hyy
          go_wp2_with (first | ((with_reducible apply wpList_unguard); rfl) | (with_reducible refine stop_make ?_) | ((with_reducible apply len_B); assumption) | ((with_reducible apply len_BB); assumption)  | ((with_reducible apply len_N); assumption) | ((with_reducible apply len_V); assumption) | ((with_reducible apply len_VV); assumption) | ((with_reducible apply len_P); assumption) | ((with_reducible apply len_O); assumption) | ((with_reducible apply len_H); assumption)  | (with_reducible refine stop_builtin ?_) | (with_reducible refine stop_slice ?_) | (with_reducible refine stop_index_B ?_) | (with_reducible refine stop_index_BB ?_)  | (with_reducible refine stop_index_N ?_) | (with_reducible refine stop_index_V ?_) | (with_reducible refine stop_index_VV ?_) | (with_reducible refine stop_index_P ?_) | (with_reducible refine stop_index_O ?_) | (with_reducible refine stop_index_H ?_)  | (with_reducible refine stop_str_B ?_) | (with_reducible refine stop_mark_B ?_) | (with_reducible refine stop_buildSlice ?_))
          go_quiet (fail)
          go_wp2_with (first | ((with_reducible apply wpList_unguard); rfl) | (with_reducible refine stop_make ?_) | ((with_reducible apply len_B); assumption) | ((with_reducible apply len_BB); assumption)  | ((with_reducible apply len_N); assumption) | ((with_reducible apply len_V); assumption) | ((with_reducible apply len_VV); assumption) | ((with_reducible apply len_P); assumption) | ((with_reducible apply len_O); assumption) | ((with_reducible apply len_H); assumption)  | (with_reducible refine stop_builtin ?_) | (with_reducible refine stop_slice ?_) | (with_reducible refine stop_index_B ?_) | (with_reducible refine stop_index_BB ?_)  | (with_reducible refine stop_index_N ?_) | (with_reducible refine stop_index_V ?_) | (with_reducible refine stop_index_VV ?_) | (with_reducible refine stop_index_P ?_) | (with_reducible refine stop_index_O ?_) | (with_reducible refine stop_index_H ?_)  | (with_reducible refine stop_str_B ?_) | (with_reducible refine stop_mark_B ?_) | (with_reducible refine stop_buildSlice ?_))
          go_roundg (l.length - (j + 1) + 1)
          case measure => have := Hk.out; omega
          case rel =>
            refine ⟨j + 1, n + nq, rfl, by omega, rfl, by rw [Hwr.out, drewN_twice], ?_⟩
            rw [take_snocG l j y1 (by simpa using Hy1.out), take_snocG m j y1 (by simpa using Hy3.out), Htk.out]
        · have hyb : (y1 != y3) = true := by
            rw [bne_iff_ne]
            exact hyy
          go_wp2_with (first | ((with_reducible apply wpList_unguard); rfl) | (with_reducible refine stop_make ?_) | ((with_reducible apply len_B); assumption) | ((with_reducible apply len_BB); assumption)  | ((with_reducible apply len_N); assumption) | ((with_reducible apply len_V); assumption) | ((with_reducible apply len_VV); assumption) | ((with_reducible apply len_P); assumption) | ((with_reducible apply len_O); assumption) | ((with_reducible apply len_H); assumption)  | (with_reducible refine stop_builtin ?_) | (with_reducible refine stop_slice ?_) | (with_reducible refine stop_index_B ?_) | (with_reducible refine stop_index_BB ?_)  | (with_reducible refine stop_index_N ?_) | (with_reducible refine stop_index_V ?_) | (with_reducible refine stop_index_VV ?_) | (with_reducible refine stop_index_P ?_) | (with_reducible refine stop_index_O ?_) | (with_reducible refine stop_index_H ?_)  | (with_reducible refine stop_str_B ?_) | (with_reducible refine stop_mark_B ?_) | (with_reducible refine stop_buildSlice ?_))
          go_quiet (fail)
          go_wp2_with (first | ((with_reducible apply wpList_unguard); rfl) | (with_reducible refine stop_make ?_) | ((with_reducible apply len_B); assumption) | ((with_reducible apply len_BB); assumption)  | ((with_reducible apply len_N); assumption) | ((with_reducible apply len_V); assumption) | ((with_reducible apply len_VV); assumption) | ((with_reducible apply len_P); assumption) | ((with_reducible apply len_O); assumption) | ((with_reducible apply len_H); assumption)  | (with_reducible refine stop_builtin ?_) | (with_reducible refine stop_slice ?_) | (with_reducible refine stop_index_B ?_) | (with_reducible refine stop_index_BB ?_)  | (with_reducible refine stop_index_N ?_) | (with_reducible refine stop_index_V ?_) | (with_reducible refine stop_index_VV ?_) | (with_reducible refine stop_index_P ?_) | (with_reducible refine stop_index_O ?_) | (with_reducible refine stop_index_H ?_)  | (with_reducible refine stop_str_B ?_) | (with_reducible refine stop_mark_B ?_) | (with_reducible refine stop_buildSlice ?_))
          go_ret
          have e : (l == m) = false := by
            rw [beq_eq_false_iff_ne]
            rintro rfl
            have := Hy1.out.symm.trans Hy3.out
            exact hyy (Option.some.inj this)
          rw [HR.out, e]
          exact ⟨n + nq, rfl, by rw [Hwr.out, drewN_twice]⟩
      · go_wp2_with (first | ((with_reducible apply wpList_unguard); rfl) | (with_reducible refine stop_make ?_) | ((with_reducible apply len_B); assumption) | ((with_reducible apply len_BB); assumption)  | ((with_reducible apply len_N); assumption) | ((with_reducible apply len_V); assumption) | ((with_reducible apply len_VV); assumption) | ((with_reducible apply len_P); assumption) | ((with_reducible apply len_O); assumption) | ((with_reducible apply len_H); assumption)  | (with_reducible refine stop_builtin ?_) | (with_reducible refine stop_slice ?_) | (with_reducible refine stop_index_B ?_) | (with_reducible refine stop_index_BB ?_)  | (with_reducible refine stop_index_N ?_) | (with_reducible refine stop_index_V ?_) | (with_reducible refine stop_index_VV ?_) | (with_reducible refine stop_index_P ?_) | (with_reducible refine stop_index_O ?_) | (with_reducible refine stop_index_H ?_)  | (with_reducible refine stop_str_B ?_) | (with_reducible refine stop_mark_B ?_) | (with_reducible refine stop_buildSlice ?_))
        go_ret
        have e : (l == m) = true := by
          rw [beq_iff_eq]
          exact same_takeG l m j Hlen.out (by omega) Htk.out
        rw [HR.out, e]
        exact ⟨n, rfl, Hwr.out⟩
  · have hne : ((l.length : Int) != (m.length : Int)) = true := by rw [bne_iff_ne]; omega
    have e : (l == m) = false := by
      rw [beq_eq_false_iff_ne]
      rintro rfl
      exact hlen rfl
    rw [e]
    go_enter Tryd.func33, Tryd.ntmps33
    go_wp2_with (first | ((with_reducible apply wpList_unguard); rfl) | (with_reducible refine stop_make ?_) | ((with_reducible apply len_B); assumption) | ((with_reducible apply len_BB); assumption)  | ((with_reducible apply len_N); assumption) | ((with_reducible apply len_V); assumption) | ((with_reducible apply len_VV); assumption) | ((with_reducible apply len_P); assumption) | ((with_reducible apply len_O); assumption) | ((with_reducible apply len_H); assumption)  | (with_reducible refine stop_builtin ?_) | (with_reducible refine stop_slice ?_) | (with_reducible refine stop_index_B ?_) | (with_reducible refine stop_index_BB ?_)  | (with_reducible refine stop_index_N ?_) | (with_reducible refine stop_index_V ?_) | (with_reducible refine stop_index_VV ?_) | (with_reducible refine stop_index_P ?_) | (with_reducible refine stop_index_O ?_) | (with_reducible refine stop_index_H ?_)  | (with_reducible refine stop_str_B ?_) | (with_reducible refine stop_mark_B ?_) | (with_reducible refine stop_buildSlice ?_))
    go_ret
    exact ⟨0, rfl, rfl⟩

theorem eqV_any (w : World) (S S' : Nat → Prop) (l m : List Int32) (p q : Value) (hp : Sl w S l p) (hq : Sl w S' m q) :
    Calls Tryd.prog 34 #[p, q] w fun e w' => ∃ nq, e = .returned (.bool (l == m)) ∧ w' = w.drewN nq := by
  have hll : l.length ≤ 9223372036854775807 := hp.length_le
  by_cases hlen : l.length = m.length
  · obtain ⟨R, hR⟩ : ∃ R, R = (l == m) := ⟨_, rfl⟩
    rw [← hR]
    have HR := Lib.hid hR
    clear hR
    have hne : ((l.length : Int) != (m.length : Int)) = false := by simp [hlen]
    have Hlen := Lib.hid hlen
    clear hlen
    go_enter Tryd.func34, Tryd.ntmps34
    go_wp2_with (first | ((with_reducible apply wpList_unguard); rfl) | (with_reducible refine stop_make ?_) | ((with_reducible apply len_B); assumption) | ((with_reducible apply len_BB); assumption)  | ((with_reducible apply len_N); assumption) | ((with_reducible apply len_V); assumption) | ((with_reducible apply len_VV); assumption) | ((with_reducible apply len_P); assumption) | ((with_reducible apply len_O); assumption) | ((with_reducible apply len_H); assumption)  | (with_reducible refine stop_builtin ?_) | (with_reducible refine stop_slice ?_) | (with_reducible refine stop_index_B ?_) | (with_reducible refine stop_index_BB ?_)  | (with_reducible refine stop_index_N ?_) | (with_reducible refine stop_index_V ?_) | (with_reducible refine stop_index_VV ?_) | (with_reducible refine stop_index_P ?_) | (with_reducible refine stop_index_O ?_) | (with_reducible refine stop_index_H ?_)  | (with_reducible refine stop_str_B ?_) | (with_reducible refine stop_mark_B ?_) | (with_reducible refine stop_buildSlice ?_))
    go_loopg [5, 13] (l.length + 1) (fun k x i wr => ∃ (j n : Nat), k = l.length - j + 1 ∧ j ≤ l.length ∧ i = .int .i64 j ∧ wr = w.drewN n ∧ l.take j = m.take j)
    case atStart => exact ⟨0, 0, by omega, by omega, rfl, rfl, by simp⟩
    case round =>
      obtain ⟨j, n, hk, hj, rfl, hwr, htk⟩ := hrel
      have hp' : Sl wr S l p := by rw [hwr]; exact hp.drewN n
      have hq' : Sl wr S' m q := by rw [hwr]; exact hq.drewN n
      have Hwr := Lib.hid hwr
      clear hwr
      have Hk := Lib.hid hk
      have Htk := Lib.hid htk
      clear hk htk
      by_cases hlt : j < l.length
      · have hjm : j < m.length := by rw [← Hlen.out]; exact hlt
        obtain ⟨b1, o1, y1, x1, hy1, hr1, hx1, hc1⟩ := hp'.index_run1 (P := Tryd.prog) rowV rfl .i64 j (by omega) (by omega)
        obtain ⟨b3, o3, y3, x3, hy3, hr3, hx3, hc3⟩ := hq'.index_run1 (P := Tryd.prog) rowV rfl .i64 j (by omega) (by omega)
        have e1 : [x1] = [Value.int .i32 y1.toInt] := hr1
        have e3 : [x3] = [Value.int .i32 y3.toInt] := hr3
        simp only [List.cons.injEq, and_true] at e1 e3
        subst e1
        subst e3
        have Hy1 := Lib.hid hy1
        have Hy3 := Lib.hid hy3
        clear hr1 hr3 hy1 hy3
        by_cases hyy : y1 = y3
        · subst hyy
          go_wp2_with (first | ((with_reducible apply wpList_unguard); rfl) | (with_reducible refine stop_make ?_) | ((with_reducible apply len_B); assumption) | ((with_reducible apply len_BB); assumption)  | ((with_reducible apply len_N); assumption) | ((with_reducible apply len_V); assumption) | ((with_reducible apply len_VV); assumption) | ((with_reducible apply len_P); assumption) | ((with_reducible apply len_O); assumption) | ((with_reducible apply len_H); assumption)  | (with_reducible refine stop_builtin ?_) | (with_reducible refine stop_slice ?_) | (with_reducible refine stop_index_B ?_) | (with_reducible refine stop_index_BB ?_)  | (with_reducible refine stop_index_N ?_) | (with_reducible refine stop_index_V ?_) | (with_reducible refine stop_index_VV ?_) | (with_reducible refine stop_index_P ?_) | (with_reducible refine stop_index_O ?_) | (with_reducible refine stop_index_H ?_)  | (with_reducible refine stop_str_B ?_) | (with_reducible refine stop_mark_B ?_) | (with_reducible refine stop_buildSlice ?_))
          go_quiet (fail)
          go_wp2_with (first | ((with_reducible apply wpList_unguard); rfl) | (with_reducible refine stop_make ?_) | ((with_reducible apply len_B); assumption) | ((with_reducible apply len_BB); assumption)  | ((with_reducible apply len_N); assumption) | ((with_reducible apply len_V); assumption) | ((with_reducible apply len_VV); assumption) | ((with_reducible apply len_P); assumption) | ((with_reducible apply len_O); assumption) | ((with_reducible apply len_H); assumption)  | (with_reducible refine stop_builtin ?_) | (with_reducible refine stop_slice ?_) | (with_reducible refine stop_index_B ?_) | (with_reducible refine stop_index_BB ?_)  | (with_reducible refine stop_index_N ?_) | (with_reducible refine stop_index_V ?_) | (with_reducible refine stop_index_VV ?_) | (with_reducible refine stop_index_P ?_) | (with_reducible refine stop_index_O ?_) | (with_reducible refine stop_index_H ?_)  | (with_reducible refine stop_str_B ?_) | (with_reducible refine stop_mark_B ?_) | (with_reducible refine stop_buildSlice ?_))
          go_roundg (l.length - (j + 1) + 1)
          case measure => have := Hk.out; omega
          case rel =>
            refine ⟨j + 1, n + nq, rfl, by omega, rfl, by rw [Hwr.out, drewN_twice], ?_⟩
            rw [take_snocG l j y1 (by simpa using Hy1.out), take_snocG m j y1 (by simpa using Hy3.out), Htk.out]
        · have hyb : (y1.toInt != y3.toInt) = true := by
            rw [bne_iff_ne]
            exact fun e => hyy (Int32.toInt_inj.1 e)
          go_wp2_with (first | ((with_reducible apply wpList_unguard); rfl) | (with_reducible refine stop_make ?_) | ((with_reducible apply len_B); assumption) | ((with_reducible apply len_BB); assumption)  | ((with_reducible apply len_N); assumption) | ((with_reducible apply len_V); assumption) | ((with_reducible apply len_VV); assumption) | ((with_reducible apply len_P); assumption) | ((with_reducible apply len_O); assumption) | ((with_reducible apply len_H); assumption)  | (with_reducible refine stop_builtin ?_) | (with_reducible refine stop_slice ?_) | (with_reducible refine stop_index_B ?_) | (with_reducible refine stop_index_BB ?_)  | (with_reducible refine stop_index_N ?_) | (with_reducible refine stop_index_V ?_) | (with_reducible refine stop_index_VV ?_) | (with_reducible refine stop_index_P ?_) | (with_reducible refine stop_index_O ?_) | (with_reducible refine stop_index_H ?_)  | (with_reducible refine stop_str_B ?_) | (with_reducible refine stop_mark_B ?_) | (with_reducible refine stop_buildSlice ?_))
          go_quiet (fail)
          go_wp2_with (first | ((with_reducible apply wpList_unguard); rfl) | (with_reducible refine stop_make ?_) | ((with_reducible apply len_B); assumption) | ((with_reducible apply len_BB); assumption)  | ((with_reducible apply len_N); assumption) | ((with_reducible apply len_V); assumption) | ((with_reducible apply len_VV); assumption) | ((with_reducible apply len_P); assumption) | ((with_reducible apply len_O); assumption) | ((with_reducible apply len_H); assumption)  | (with_reducible refine stop_builtin ?_) | (with_reducible refine stop_slice ?_) | (with_reducible refine stop_index_B ?_) | (with_reducible refine stop_index_BB ?_)  | (with_reducible refine stop_index_N ?_) | (with_reducible refine stop_index_V ?_) | (with_reducible refine stop_index_VV ?_) | (with_reducible refine stop_index_P ?_) | (with_reducible refine stop_index_O ?_) | (with_reducible refine stop_index_H ?_)  | (with_reducible refine stop_str_B ?_) | (with_reducible refine stop_mark_B ?_) | (with_reducible refine stop_buildSlice ?_))
          go_ret
          have e : (l == m) = false := by
            rw [beq_eq_false_iff_ne]
            rintro rfl
            have := Hy1.out.symm.trans Hy3.out
            exact hyy (Option.some.inj this)
          rw [HR.out, e]
          exact ⟨n + nq, rfl, by rw [Hwr.out, drewN_twice]⟩
      · go_wp2_with (first | ((with_reducible apply wpList_unguard); rfl) | (with_reducible refine stop_make ?_) | ((with_reducible apply len_B); assumption) | ((with_reducible apply len_BB); assumption)  | ((with_reducible apply len_N); assumption) | ((with_reducible apply len_V); assumption) | ((with_reducible apply len_VV); assumption) | ((with_reducible apply len_P); assumption) | ((with_reducible apply len_O); assumption) | ((with_reducible apply len_H); assumption)  | (with_reducible refine stop_builtin ?_) | (with_reducible refine stop_slice ?_) | (with_reducible refine stop_index_B ?_) | (with_reducible refine stop_index_BB ?_)  | (with_reducible refine stop_index_N ?_) | (with_reducible refine stop_index_V ?_) | (with_reducible refine stop_index_VV ?_) | (with_reducible refine stop_index_P ?_) | (with_reducible refine stop_index_O ?_) | (with_reducible refine stop_index_H ?_)  | (with_reducible refine stop_str_B ?_) | (with_reducible refine stop_mark_B ?_) | (with_reducible refine stop_buildSlice ?_))
        go_ret
        have e : (l == m) = true := by
          rw [beq_iff_eq]
          exact same_takeG l m j Hlen.out (by omega) Htk.out
        rw [HR.out, e]
        exact ⟨n, rfl, Hwr.out⟩
  · have hne : ((l.length : Int) != (m.length : Int)) = true := by rw [bne_iff_ne]; omega
    have e : (l == m) = false := by
      rw [beq_eq_false_iff_ne]
      rintro rfl
      exact hlen rfl
    rw [e]
    go_enter Tryd.func34, Tryd.ntmps34
    go_wp2_with (first | ((with_reducible apply wpList_unguard); rfl) | (with_reducible refine stop_make ?_) | ((with_reducible apply len_B); assumption) | ((with_reducible apply len_BB); assumption)  | ((with_reducible apply len_N); assumption) | ((with_reducible apply len_V); assumption) | ((with_reducible apply len_VV); assumption) | ((with_reducible apply len_P); assumption) | ((with_reducible apply len_O); assumption) | ((with_reducible apply len_H); assumption)  | (with_reducible refine stop_builtin ?_) | (with_reducible refine stop_slice ?_) | (with_reducible refine stop_index_B ?_) | (with_reducible refine stop_index_BB ?_)  | (with_reducible refine stop_index_N ?_) | (with_reducible refine stop_index_V ?_) | (with_reducible refine stop_index_VV ?_) | (with_reducible refine stop_index_P ?_) | (with_reducible refine stop_index_O ?_) | (with_reducible refine stop_index_H ?_)  | (with_reducible refine stop_str_B ?_) | (with_reducible refine stop_mark_B ?_) | (with_reducible refine stop_buildSlice ?_))
    go_ret
    exact ⟨0, rfl, rfl⟩

theorem sop_any (w : World) (S S' : Nat → Prop) (x y : OpR) (u v : Value) (hu : Sl w S x.vec u) (hv : Sl w S' y.vec v) :
    Calls Tryd.prog 36 #[.agg #[.int .u64 (x.id.toNat : Int), u], .agg #[.int .u64 (y.id.toNat : Int), v]] w fun e w' => e = .returned (.bool (x == y)) ∧ Below w.heap.size w w' := by
  obtain ⟨R, hR⟩ : ∃ R, R = (x == y) := ⟨_, rfl⟩
  rw [← hR]
  have HR := Lib.hid hR
  clear hR
  obtain ⟨au, nu, cu, rfl⟩ := Sl.shape hu
  obtain ⟨av, nv, cv, rfl⟩ := Sl.shape hv
  have hal := ((Below.refl w.heap.size w).alloc (Nat.le_refl _) (.cells #[.int .u64 (x.id.toNat : Int), .slice au nu cu] 32)).alloc ((Below.refl w.heap.size w).alloc (Nat.le_refl _) (.cells #[.int .u64 (x.id.toNat : Int), .slice au nu cu] 32)).size (.cells #[.int .u64 (y.id.toNat : Int), .slice av nv cv] 32)
  have hu1 := (hu.old.below hal (Nat.le_refl _))
  have hv1 := (hv.old.below hal (Nat.le_refl _))
  have hc := eqV_any _ _ _ x.vec y.vec _ _ hu1 hv1
  have HC := Lib.hid hc
  clear hc hu1 hv1
  by_cases q1 : x.id = y.id
  · have q1b : (((x.id.toNat : Nat) : Int) == ((y.id.toNat : Nat) : Int)) = true := by rw [q1]; simp
    have Q1 := Lib.hid q1
    clear q1
    go_enter Tryd.func36, Tryd.ntmps36
    go_wp2_with (fail)
    refine HC.out.mono ?_
    rintro e w1 ⟨nq, rfl, rfl⟩
    have e : (x == y) = (x.vec == y.vec) := by
      have q1 := Q1.out

      clear Q1 HR HC hal q1b
      cases x; cases y
      simp only at q1
      subst q1

      rw [Bool.eq_iff_iff, beq_iff_eq, beq_iff_eq]
      simp
    go_wp2_with (fail)
    go_ret
    rw [HR.out, e]
    exact ⟨rfl, hal.trans ⟨rfl, rfl, rfl, Nat.le_refl _, fun _ _ => rfl⟩⟩
  · have q1b : (((x.id.toNat : Nat) : Int) == ((y.id.toNat : Nat) : Int)) = false := by
      rw [beq_eq_false_iff_ne]
      exact fun h => q1 (UInt64.toNat_inj.1 (by omega))
    go_enter Tryd.func36, Tryd.ntmps36
    go_wp2_with (fail)
    go_ret
    have e : (x == y) = false := by
      rw [beq_eq_false_iff_ne]
      rintro rfl
      exact q1 rfl
    rw [HR.out, e]
    exact ⟨rfl, hal⟩

theorem shit_any (w : World) (S S' : Nat → Prop) (x y : HitR) (u v : Value) (hu : Sl w S x.vec u) (hv : Sl w S' y.vec v) :
    Calls Tryd.prog 38 #[.agg #[.int .u64 (x.id.toNat : Int), .int .u64 (x.dist.toNat : Int), u], .agg #[.int .u64 (y.id.toNat : Int), .int .u64 (y.dist.toNat : Int), v]] w fun e w' => e = .returned (.bool (x == y)) ∧ Below w.heap.size w w' := by
  obtain ⟨R, hR⟩ : ∃ R, R = (x == y) := ⟨_, rfl⟩
  rw [← hR]
  have HR := Lib.hid hR
  clear hR
  obtain ⟨au, nu, cu, rfl⟩ := Sl.shape hu
  obtain ⟨av, nv, cv, rfl⟩ := Sl.shape hv
  have hal := ((Below.refl w.heap.size w).alloc (Nat.le_refl _) (.cells #[.int .u64 (x.id.toNat : Int), .int .u64 (x.dist.toNat : Int), .slice au nu cu] 34)).alloc ((Below.refl w.heap.size w).alloc (Nat.le_refl _) (.cells #[.int .u64 (x.id.toNat : Int), .int .u64 (x.dist.toNat : Int), .slice au nu cu] 34)).size (.cells #[.int .u64 (y.id.toNat : Int), .int .u64 (y.dist.toNat : Int), .slice av nv cv] 34)
  have hu1 := (hu.old.below hal (Nat.le_refl _))
  have hv1 := (hv.old.below hal (Nat.le_refl _))
  have hc := eqV_any _ _ _ x.vec y.vec _ _ hu1 hv1
  have HC := Lib.hid hc
  clear hc hu1 hv1
  by_cases q1 : x.id = y.id
  · have q1b : (((x.id.toNat : Nat) : Int) == ((y.id.toNat : Nat) : Int)) = true := by rw [q1]; simp
    by_cases q2 : x.dist = y.dist
    · have q2b : (((x.dist.toNat : Nat) : Int) == ((y.dist.toNat : Nat) : Int)) = true := by rw [q2]; simp
      have Q1 := Lib.hid q1
      clear q1
      have Q2 := Lib.hid q2
      clear q2
      go_enter Tryd.func38, Tryd.ntmps38
      go_wp2_with (fail)
      refine HC.out.mono ?_
      rintro e w1 ⟨nq, rfl, rfl⟩
      have e : (x == y) = (x.vec == y.vec) := by
        have q1 := Q1.out
        have q2 := Q2.out
        clear Q1 HR HC hal q1b Q2 q2b
        cases x; cases y
        simp only at q1 q2
        subst q1
        subst q2
        rw [Bool.eq_iff_iff, beq_iff_eq, beq_iff_eq]
        simp
      go_wp2_with (fail)
      go_ret
      rw [HR.out, e]
      exact ⟨rfl, hal.trans ⟨rfl, rfl, rfl, Nat.le_refl _, fun _ _ => rfl⟩⟩
    · have q2b : (((x.dist.toNat : Nat) : Int) == ((y.dist.toNat : Nat) : Int)) = false := by
        rw [beq_eq_false_iff_ne]
        exact fun h => q2 (UInt64.toNat_inj.1 (by omega))
      have Q1 := Lib.hid q1
      clear q1
      go_enter Tryd.func38, Tryd.ntmps38
      go_wp2_with (fail)
      go_ret
      have e : (x == y) = false := by
        rw [beq_eq_false_iff_ne]
        rintro rfl
        exact q2 rfl
      rw [HR.out, e]
      exact ⟨rfl, hal⟩
  · have q1b : (((x.id.toNat : Nat) : Int) == ((y.id.toNat : Nat) : Int)) = false := by
      rw [beq_eq_false_iff_ne]
      exact fun h => q1 (UInt64.toNat_inj.1 (by omega))
    go_enter Tryd.func38, Tryd.ntmps38
    go_wp2_with (fail)
    go_ret
    have e : (x == y) = false := by
      rw [beq_eq_false_iff_ne]
      rintro rfl
      exact q1 rfl
    rw [HR.out, e]
    exact ⟨rfl, hal⟩

set_option maxRecDepth 100000 in
theorem eqO_any (w : World) (S S' : Nat → Prop) (l m : List OpR) (p q : Value) (hp : Sl w S l p) (hq : Sl w S' m q) :
    Calls Tryd.prog 35 #[p, q, .func (.func 36) #[] #[]] w fun e w' => e = .returned (.bool (l == m)) ∧ Below w.heap.size w w' := by
  have hll : l.length ≤ 9223372036854775807 := hp.length_le
  by_cases hlen : l.length = m.length
  · obtain ⟨R, hR⟩ : ∃ R, R = (l == m) := ⟨_, rfl⟩
    rw [← hR]
    have HR := Lib.hid hR
    clear hR
    have hne : ((l.length : Int) != (m.length : Int)) = false := by simp [hlen]
    have Hlen := Lib.hid hlen
    clear hlen
    have Hp := Lib.hid hp.old
    have Hq := Lib.hid hq.old
    go_enter Tryd.func35, Tryd.ntmps35
    go_wp2_with (first | ((with_reducible apply wpList_unguard); rfl) | (with_reducible refine stop_make ?_) | ((with_reducible apply len_B); assumption) | ((with_reducible apply len_BB); assumption)  | ((with_reducible apply len_N); assumption) | ((with_reducible apply len_V); assumption) | ((with_reducible apply len_VV); assumption) | ((with_reducible apply len_P); assumption) | ((with_reducible apply len_O); assumption) | ((with_reducible apply len_H); assumption)  | (with_reducible refine stop_builtin ?_) | (with_reducible refine stop_slice ?_) | (with_reducible refine stop_index_B ?_) | (with_reducible refine stop_index_BB ?_)  | (with_reducible refine stop_index_N ?_) | (with_reducible refine stop_index_V ?_) | (with_reducible refine stop_index_VV ?_) | (with_reducible refine stop_index_P ?_) | (with_reducible refine stop_index_O ?_) | (with_reducible refine stop_index_H ?_)  | (with_reducible refine stop_str_B ?_) | (with_reducible refine stop_mark_B ?_) | (with_reducible refine stop_buildSlice ?_))
    clear hp hq
    go_loopg [7, 8, 9, 17] (l.length + 1) (fun k x7 x8 x9 i wr => ∃ (j : Nat), k = l.length - j + 1 ∧ j ≤ l.length ∧ i = .int .i64 j ∧ l.take j = m.take j ∧ Below w.heap.size w wr)
    case atStart => exact ⟨0, by omega, by omega, rfl, by simp, Below.refl _ _⟩
    case round =>
      obtain ⟨j, hk, hj, rfl, htk, hbr⟩ := hrel
      have hp' := Hp.out.below hbr (Nat.le_refl _)
      have hq' := Hq.out.below hbr (Nat.le_refl _)
      have Hk := Lib.hid hk
      have Htk := Lib.hid htk
      clear hk htk
      by_cases hlt : j < l.length
      · have hjm : j < m.length := by rw [← Hlen.out]; exact hlt
        have hjm2 : (j : Int) < (m.length : Int) := by omega
        go_wp2_with (first | ((with_reducible apply wpList_unguard); rfl) | (with_reducible refine stop_make ?_) | ((with_reducible apply len_B); assumption) | ((with_reducible apply len_BB); assumption)  | ((with_reducible apply len_N); assumption) | ((with_reducible apply len_V); assumption) | ((with_reducible apply len_VV); assumption) | ((with_reducible apply len_P); assumption) | ((with_reducible apply len_O); assumption) | ((with_reducible apply len_H); assumption)  | (with_reducible refine stop_builtin ?_) | (with_reducible refine stop_slice ?_) | (with_reducible refine stop_index_B ?_) | (with_reducible refine stop_index_BB ?_)  | (with_reducible refine stop_index_N ?_) | (with_reducible refine stop_index_V ?_) | (with_reducible refine stop_index_VV ?_) | (with_reducible refine stop_index_P ?_) | (with_reducible refine stop_index_O ?_) | (with_reducible refine stop_index_H ?_)  | (with_reducible refine stop_str_B ?_) | (with_reducible refine stop_mark_B ?_) | (with_reducible refine stop_buildSlice ?_))
        refine Stop.go (idx_O hp' rfl (by omega) (by omega) fun b1 o1 x u hx hu h0 h1 => ?_)
        have Hx := Lib.hid hx
        clear hx
        obtain ⟨au, nu, cu, rfl⟩ := Sl.shape hu
        go_wp2_with (first | ((with_reducible apply wpList_unguard); rfl) | (with_reducible refine stop_make ?_) | ((with_reducible apply len_B); assumption) | ((with_reducible apply len_BB); assumption)  | ((with_reducible apply len_N); assumption) | ((with_reducible apply len_V); assumption) | ((with_reducible apply len_VV); assumption) | ((with_reducible apply len_P); assumption) | ((with_reducible apply len_O); assumption) | ((with_reducible apply len_H); assumption)  | (with_reducible refine stop_builtin ?_) | (with_reducible refine stop_slice ?_) | (with_reducible refine stop_index_B ?_) | (with_reducible refine stop_index_BB ?_)  | (with_reducible refine stop_index_N ?_) | (with_reducible refine stop_index_V ?_) | (with_reducible refine stop_index_VV ?_) | (with_reducible refine stop_index_P ?_) | (with_reducible refine stop_index_O ?_) | (with_reducible refine stop_index_H ?_)  | (with_reducible refine stop_str_B ?_) | (with_reducible refine stop_mark_B ?_) | (with_reducible refine stop_buildSlice ?_))
        have ha1 := (Below.refl wr.heap.size wr).alloc (Nat.le_refl _) (.cells #[.int .u64 (x.id.toNat : Int), .slice au nu cu] 32)
        have hq2 := hq'.below ha1 (Nat.le_refl _)
        refine Stop.go (idx_O hq2 rfl (by omega) (by omega) fun b2 o2 y v hy hv g0 g1 => ?_)
        have Hy := Lib.hid hy
        clear hy
        obtain ⟨av, nv, cv, rfl⟩ := Sl.shape hv
        have ha2 := ha1.alloc ha1.size (.cells #[.int .u64 (y.id.toNat : Int), .slice av nv cv] 32)
        have hu2 := hu.below ha2 (Nat.le_refl _)
        have hv2 := hv.below ((Below.refl _ _).alloc (Nat.le_refl _) (.cells #[.int .u64 (y.id.toNat : Int), .slice av nv cv] 32)) (Nat.le_refl _)
        have hc := sop_any _ _ _ x y _ _ hu2 hv2
        have HC := Lib.hid hc
        have hB2 := below_on hbr ha2 hbr.size
        have HB2 := Lib.hid hB2
        clear hc hu2 hv2 hp' hq' hq2 hu hv hB2 ha2 ha1
        go_wp2_with (first | ((with_reducible apply wpList_unguard); rfl) | (with_reducible refine stop_make ?_) | ((with_reducible apply len_B); assumption) | ((with_reducible apply len_BB); assumption)  | ((with_reducible apply len_N); assumption) | ((with_reducible apply len_V); assumption) | ((with_reducible apply len_VV); assumption) | ((with_reducible apply len_P); assumption) | ((with_reducible apply len_O); assumption) | ((with_reducible apply len_H); assumption)  | (with_reducible refine stop_builtin ?_) | (with_reducible refine stop_slice ?_) | (with_reducible refine stop_index_B ?_) | (with_reducible refine stop_index_BB ?_)  | (with_reducible refine stop_index_N ?_) | (with_reducible refine stop_index_V ?_) | (with_reducible refine stop_index_VV ?_) | (with_reducible refine stop_index_P ?_) | (with_reducible refine stop_index_O ?_) | (with_reducible refine stop_index_H ?_)  | (with_reducible refine stop_str_B ?_) | (with_reducible refine stop_mark_B ?_) | (with_reducible refine stop_buildSlice ?_))
        refine HC.out.mono ?_
        rintro e w3 ⟨rfl, hb3⟩
        have hB3 := below_on HB2.out hb3 HB2.out.size
        by_cases hyy : x = y
        · have hb : (x == y) = true := by rw [beq_iff_eq]; exact hyy
          rw [hb]
          go_wp2_with (first | ((with_reducible apply wpList_unguard); rfl) | (with_reducible refine stop_make ?_) | ((with_reducible apply len_B); assumption) | ((with_reducible apply len_BB); assumption)  | ((with_reducible apply len_N); assumption) | ((with_reducible apply len_V); assumption) | ((with_reducible apply len_VV); assumption) | ((with_reducible apply len_P); assumption) | ((with_reducible apply len_O); assumption) | ((with_reducible apply len_H); assumption)  | (with_reducible refine stop_builtin ?_) | (with_reducible refine stop_slice ?_) | (with_reducible refine stop_index_B ?_) | (with_reducible refine stop_index_BB ?_)  | (with_reducible refine stop_index_N ?_) | (with_reducible refine stop_index_V ?_) | (with_reducible refine stop_index_VV ?_) | (with_reducible refine stop_index_P ?_) | (with_reducible refine stop_index_O ?_) | (with_reducible refine stop_index_H ?_)  | (with_reducible refine stop_str_B ?_) | (with_reducible refine stop_mark_B ?_) | (with_reducible refine stop_buildSlice ?_))
          go_roundg (l.length - (j + 1) + 1)
          case measure => have := Hk.out; omega
          case rel =>
            refine ⟨j + 1, by omega, by omega, by go_num, ?_, hB3⟩
            rw [take_snocG l j x (by simpa using Hx.out), take_snocG m j y (by simpa using Hy.out), Htk.out, hyy]
        · have hb : (x == y) = false := by rw [beq_eq_false_iff_ne]; exact hyy
          rw [hb]
          go_wp2_with (first | ((with_reducible apply wpList_unguard); rfl) | (with_reducible refine stop_make ?_) | ((with_reducible apply len_B); assumption) | ((with_reducible apply len_BB); assumption)  | ((with_reducible apply len_N); assumption) | ((with_reducible apply len_V); assumption) | ((with_reducible apply len_VV); assumption) | ((with_reducible apply len_P); assumption) | ((with_reducible apply len_O); assumption) | ((with_reducible apply len_H); assumption)  | (with_reducible refine stop_builtin ?_) | (with_reducible refine stop_slice ?_) | (with_reducible refine stop_index_B ?_) | (with_reducible refine stop_index_BB ?_)  | (with_reducible refine stop_index_N ?_) | (with_reducible refine stop_index_V ?_) | (with_reducible refine stop_index_VV ?_) | (with_reducible refine stop_index_P ?_) | (with_reducible refine stop_index_O ?_) | (with_reducible refine stop_index_H ?_)  | (with_reducible refine stop_str_B ?_) | (with_reducible refine stop_mark_B ?_) | (with_reducible refine stop_buildSlice ?_))
          go_ret
          have e : (l == m) = false := by
            rw [beq_eq_false_iff_ne]
            rintro rfl
            exact hyy (Option.some.inj (Hx.out.symm.trans Hy.out))
          rw [HR.out, e]
          exact ⟨rfl, hB3⟩
      · go_wp2_with (first | ((with_reducible apply wpList_unguard); rfl) | (with_reducible refine stop_make ?_) | ((with_reducible apply len_B); assumption) | ((with_reducible apply len_BB); assumption)  | ((with_reducible apply len_N); assumption) | ((with_reducible apply len_V); assumption) | ((with_reducible apply len_VV); assumption) | ((with_reducible apply len_P); assumption) | ((with_reducible apply len_O); assumption) | ((with_reducible apply len_H); assumption)  | (with_reducible refine stop_builtin ?_) | (with_reducible refine stop_slice ?_) | (with_reducible refine stop_index_B ?_) | (with_reducible refine stop_index_BB ?_)  | (with_reducible refine stop_index_N ?_) | (with_reducible refine stop_index_V ?_) | (with_reducible refine stop_index_VV ?_) | (with_reducible refine stop_index_P ?_) | (with_reducible refine stop_index_O ?_) | (with_reducible refine stop_index_H ?_)  | (with_reducible refine stop_str_B ?_) | (with_reducible refine stop_mark_B ?_) | (with_reducible refine stop_buildSlice ?_))
        go_ret
        have e : (l == m) = true := by
          rw [beq_iff_eq]
          exact same_takeG l m j Hlen.out (by omega) Htk.out
        rw [HR.out, e]
        exact ⟨rfl, hbr⟩
  · have hne : ((l.length : Int) != (m.length : Int)) = true := by rw [bne_iff_ne]; omega
    have e : (l == m) = false := by
      rw [beq_eq_false_iff_ne]
      rintro rfl
      exact hlen rfl
    rw [e]
    go_enter Tryd.func35, Tryd.ntmps35
    go_wp2_with (first | ((with_reducible apply wpList_unguard); rfl) | (with_reducible refine stop_make ?_) | ((with_reducible apply len_B); assumption) | ((with_reducible apply len_BB); assumption)  | ((with_reducible apply len_N); assumption) | ((with_reducible apply len_V); assumption) | ((with_reducible apply len_VV); assumption) | ((with_reducible apply len_P); assumption) | ((with_reducible apply len_O); assumption) | ((with_reducible apply len_H); assumption)  | (with_reducible refine stop_builtin ?_) | (with_reducible refine stop_slice ?_) | (with_reducible refine stop_index_B ?_) | (with_reducible refine stop_index_BB ?_)  | (with_reducible refine stop_index_N ?_) | (with_reducible refine stop_index_V ?_) | (with_reducible refine stop_index_VV ?_) | (with_reducible refine stop_index_P ?_) | (with_reducible refine stop_index_O ?_) | (with_reducible refine stop_index_H ?_)  | (with_reducible refine stop_str_B ?_) | (with_reducible refine stop_mark_B ?_) | (with_reducible refine stop_buildSlice ?_))
    go_ret
    exact ⟨rfl, Below.refl _ _⟩

set_option maxRecDepth 100000 in
theorem eqH_any (w : World) (S S' : Nat → Prop) (l m : List HitR) (p q : Value) (hp : Sl w S l p) (hq : Sl w S' m q) :
    Calls Tryd.prog 37 #[p, q, .func (.func 38) #[] #[]] w fun e w' => e = .returned (.bool (l == m)) ∧ Below w.heap.size w w' := by
  have hll : l.length ≤ 9223372036854775807 := hp.length_le
  by_cases hlen : l.length = m.length
  · obtain ⟨R, hR⟩ : ∃ R, R = (l == m) := ⟨_, rfl⟩
    rw [← hR]
    have HR := Lib.hid hR
    clear hR
    have hne : ((l.length : Int) != (m.length : Int)) = false := by simp [hlen]
    have Hlen := Lib.hid hlen
    clear hlen
    have Hp := Lib.hid hp.old
    have Hq := Lib.hid hq.old
    go_enter Tryd.func37, Tryd.ntmps37
    go_wp2_with (first | ((with_reducible apply wpList_unguard); rfl) | (with_reducible refine stop_make ?_) | ((with_reducible apply len_B); assumption) | ((with_reducible apply len_BB); assumption)  | ((with_reducible apply len_N); assumption) | ((with_reducible apply len_V); assumption) | ((with_reducible apply len_VV); assumption) | ((with_reducible apply len_P); assumption) | ((with_reducible apply len_O); assumption) | ((with_reducible apply len_H); assumption)  | (with_reducible refine stop_builtin ?_) | (with_reducible refine stop_slice ?_) | (with_reducible refine stop_index_B ?_) | (with_reducible refine stop_index_BB ?_)  | (with_reducible refine stop_index_N ?_) | (with_reducible refine stop_index_V ?_) | (with_reducible refine stop_index_VV ?_) | (with_reducible refine stop_index_P ?_) | (with_reducible refine stop_index_O ?_) | (with_reducible refine stop_index_H ?_)  | (with_reducible refine stop_str_B ?_) | (with_reducible refine stop_mark_B ?_) | (with_reducible refine stop_buildSlice ?_))
    clear hp hq
    go_loopg [7, 8, 9, 17] (l.length + 1) (fun k x7 x8 x9 i wr => ∃ (j : Nat), k = l.length - j + 1 ∧ j ≤ l.length ∧ i = .int .i64 j ∧ l.take j = m.take j ∧ Below w.heap.size w wr)
    case atStart => exact ⟨0, by omega, by omega, rfl, by simp, Below.refl _ _⟩
    case round =>
      obtain ⟨j, hk, hj, rfl, htk, hbr⟩ := hrel
      have hp' := Hp.out.below hbr (Nat.le_refl _)
      have hq' := Hq.out.below hbr (Nat.le_refl _)
      have Hk := Lib.hid hk
      have Htk := Lib.hid htk
      clear hk htk
      by_cases hlt : j < l.length
      · have hjm : j < m.length := by rw [← Hlen.out]; exact hlt
        have hjm2 : (j : Int) < (m.length : Int) := by omega
        go_wp2_with (first | ((with_reducible apply wpList_unguard); rfl) | (with_reducible refine stop_make ?_) | ((with_reducible apply len_B); assumption) | ((with_reducible apply len_BB); assumption)  | ((with_reducible apply len_N); assumption) | ((with_reducible apply len_V); assumption) | ((with_reducible apply len_VV); assumption) | ((with_reducible apply len_P); assumption) | ((with_reducible apply len_O); assumption) | ((with_reducible apply len_H); assumption)  | (with_reducible refine stop_builtin ?_) | (with_reducible refine stop_slice ?_) | (with_reducible refine stop_index_B ?_) | (with_reducible refine stop_index_BB ?_)  | (with_reducible refine stop_index_N ?_) | (with_reducible refine stop_index_V ?_) | (with_reducible refine stop_index_VV ?_) | (with_reducible refine stop_index_P ?_) | (with_reducible refine stop_index_O ?_) | (with_reducible refine stop_index_H ?_)  | (with_reducible refine stop_str_B ?_) | (with_reducible refine stop_mark_B ?_) | (with_reducible refine stop_buildSlice ?_))
        refine Stop.go (idx_H hp' rfl (by omega) (by omega) fun b1 o1 x u hx hu h0 h1 h2 => ?_)
        have Hx := Lib.hid hx
        clear hx
        obtain ⟨au, nu, cu, rfl⟩ := Sl.shape hu
        go_wp2_with (first | ((with_reducible apply wpList_unguard); rfl) | (with_reducible refine stop_make ?_) | ((with_reducible apply len_B); assumption) | ((with_reducible apply len_BB); assumption)  | ((with_reducible apply len_N); assumption) | ((with_reducible apply len_V); assumption) | ((with_reducible apply len_VV); assumption) | ((with_reducible apply len_P); assumption) | ((with_reducible apply len_O); assumption) | ((with_reducible apply len_H); assumption)  | (with_reducible refine stop_builtin ?_) | (with_reducible refine stop_slice ?_) | (with_reducible refine stop_index_B ?_) | (with_reducible refine stop_index_BB ?_)  | (with_reducible refine stop_index_N ?_) | (with_reducible refine stop_index_V ?_) | (with_reducible refine stop_index_VV ?_) | (with_reducible refine stop_index_P ?_) | (with_reducible refine stop_index_O ?_) | (with_reducible refine stop_index_H ?_)  | (with_reducible refine stop_str_B ?_) | (with_reducible refine stop_mark_B ?_) | (with_reducible refine stop_buildSlice ?_))
        have ha1 := (Below.refl wr.heap.size wr).alloc (Nat.le_refl _) (.cells #[.int .u64 (x.id.toNat : Int), .int .u64 (x.dist.toNat : Int), .slice au nu cu] 34)
        have hq2 := hq'.below ha1 (Nat.le_refl _)
        refine Stop.go (idx_H hq2 rfl (by omega) (by omega) fun b2 o2 y v hy hv g0 g1 g2 => ?_)
        have Hy := Lib.hid hy
        clear hy
        obtain ⟨av, nv, cv, rfl⟩ := Sl.shape hv
        have ha2 := ha1.alloc ha1.size (.cells #[.int .u64 (y.id.toNat : Int), .int .u64 (y.dist.toNat : Int), .slice av nv cv] 34)
        have hu2 := hu.below ha2 (Nat.le_refl _)
        have hv2 := hv.below ((Below.refl _ _).alloc (Nat.le_refl _) (.cells #[.int .u64 (y.id.toNat : Int), .int .u64 (y.dist.toNat : Int), .slice av nv cv] 34)) (Nat.le_refl _)
        have hc := shit_any _ _ _ x y _ _ hu2 hv2
        have HC := Lib.hid hc
        have hB2 := below_on hbr ha2 hbr.size
        have HB2 := Lib.hid hB2
        clear hc hu2 hv2 hp' hq' hq2 hu hv hB2 ha2 ha1
        go_wp2_with (first | ((with_reducible apply wpList_unguard); rfl) | (with_reducible refine stop_make ?_) | ((with_reducible apply len_B); assumption) | ((with_reducible apply len_BB); assumption)  | ((with_reducible apply len_N); assumption) | ((with_reducible apply len_V); assumption) | ((with_reducible apply len_VV); assumption) | ((with_reducible apply len_P); assumption) | ((with_reducible apply len_O); assumption) | ((with_reducible apply len_H); assumption)  | (with_reducible refine stop_builtin ?_) | (with_reducible refine stop_slice ?_) | (with_reducible refine stop_index_B ?_) | (with_reducible refine stop_index_BB ?_)  | (with_reducible refine stop_index_N ?_) | (with_reducible refine stop_index_V ?_) | (with_reducible refine stop_index_VV ?_) | (with_reducible refine stop_index_P ?_) | (with_reducible refine stop_index_O ?_) | (with_reducible refine stop_index_H ?_)  | (with_reducible refine stop_str_B ?_) | (with_reducible refine stop_mark_B ?_) | (with_reducible refine stop_buildSlice ?_))
        refine HC.out.mono ?_
        rintro e w3 ⟨rfl, hb3⟩
        have hB3 := below_on HB2.out hb3 HB2.out.size
        by_cases hyy : x = y
        · have hb : (x == y) = true := by rw [beq_iff_eq]; exact hyy
          rw [hb]
          go_wp2_with (first | ((with_reducible apply wpList_unguard); rfl) | (with_reducible refine stop_make ?_) | ((with_reducible apply len_B); assumption) | ((with_reducible apply len_BB); assumption)  | ((with_reducible apply len_N); assumption) | ((with_reducible apply len_V); assumption) | ((with_reducible apply len_VV); assumption) | ((with_reducible apply len_P); assumption) | ((with_reducible apply len_O); assumption) | ((with_reducible apply len_H); assumption)  | (with_reducible refine stop_builtin ?_) | (with_reducible refine stop_slice ?_) | (with_reducible refine stop_index_B ?_) | (with_reducible refine stop_index_BB ?_)  | (with_reducible refine stop_index_N ?_) | (with_reducible refine stop_index_V ?_) | (with_reducible refine stop_index_VV ?_) | (with_reducible refine stop_index_P ?_) | (with_reducible refine stop_index_O ?_) | (with_reducible refine stop_index_H ?_)  | (with_reducible refine stop_str_B ?_) | (with_reducible refine stop_mark_B ?_) | (with_reducible refine stop_buildSlice ?_))
          go_roundg (l.length - (j + 1) + 1)
          case measure => have := Hk.out; omega
          case rel =>
            refine ⟨j + 1, by omega, by omega, by go_num, ?_, hB3⟩
            rw [take_snocG l j x (by simpa using Hx.out), take_snocG m j y (by simpa using Hy.out), Htk.out, hyy]
        · have hb : (x == y) = false := by rw [beq_eq_false_iff_ne]; exact hyy
          rw [hb]
          go_wp2_with (first | ((with_reducible apply wpList_unguard); rfl) | (with_reducible refine stop_make ?_) | ((with_reducible apply len_B); assumption) | ((with_reducible apply len_BB); assumption)  | ((with_reducible apply len_N); assumption) | ((with_reducible apply len_V); assumption) | ((with_reducible apply len_VV); assumption) | ((with_reducible apply len_P); assumption) | ((with_reducible apply len_O); assumption) | ((with_reducible apply len_H); assumption)  | (with_reducible refine stop_builtin ?_) | (with_reducible refine stop_slice ?_) | (with_reducible refine stop_index_B ?_) | (with_reducible refine stop_index_BB ?_)  | (with_reducible refine stop_index_N ?_) | (with_reducible refine stop_index_V ?_) | (with_reducible refine stop_index_VV ?_) | (with_reducible refine stop_index_P ?_) | (with_reducible refine stop_index_O ?_) | (with_reducible refine stop_index_H ?_)  | (with_reducible refine stop_str_B ?_) | (with_reducible refine stop_mark_B ?_) | (with_reducible refine stop_buildSlice ?_))
          go_ret
          have e : (l == m) = false := by
            rw [beq_eq_false_iff_ne]
            rintro rfl
            exact hyy (Option.some.inj (Hx.out.symm.trans Hy.out))
          rw [HR.out, e]
          exact ⟨rfl, hB3⟩
      · go_wp2_with (first | ((with_reducible apply wpList_unguard); rfl) | (with_reducible refine stop_make ?_) | ((with_reducible apply len_B); assumption) | ((with_reducible apply len_BB); assumption)  | ((with_reducible apply len_N); assumption) | ((with_reducible apply len_V); assumption) | ((with_reducible apply len_VV); assumption) | ((with_reducible apply len_P); assumption) | ((with_reducible apply len_O); assumption) | ((with_reducible apply len_H); assumption)  | (with_reducible refine stop_builtin ?_) | (with_reducible refine stop_slice ?_) | (with_reducible refine stop_index_B ?_) | (with_reducible refine stop_index_BB ?_)  | (with_reducible refine stop_index_N ?_) | (with_reducible refine stop_index_V ?_) | (with_reducible refine stop_index_VV ?_) | (with_reducible refine stop_index_P ?_) | (with_reducible refine stop_index_O ?_) | (with_reducible refine stop_index_H ?_)  | (with_reducible refine stop_str_B ?_) | (with_reducible refine stop_mark_B ?_) | (with_reducible refine stop_buildSlice ?_))
        go_ret
        have e : (l == m) = true := by
          rw [beq_iff_eq]
          exact same_takeG l m j Hlen.out (by omega) Htk.out
        rw [HR.out, e]
        exact ⟨rfl, hbr⟩
  · have hne : ((l.length : Int) != (m.length : Int)) = true := by rw [bne_iff_ne]; omega
    have e : (l == m) = false := by
      rw [beq_eq_false_iff_ne]
      rintro rfl
      exact hlen rfl
    rw [e]
    go_enter Tryd.func37, Tryd.ntmps37
    go_wp2_with (first | ((with_reducible apply wpList_unguard); rfl) | (with_reducible refine stop_make ?_) | ((with_reducible apply len_B); assumption) | ((with_reducible apply len_BB); assumption)  | ((with_reducible apply len_N); assumption) | ((with_reducible apply len_V); assumption) | ((with_reducible apply len_VV); assumption) | ((with_reducible apply len_P); assumption) | ((with_reducible apply len_O); assumption) | ((with_reducible apply len_H); assumption)  | (with_reducible refine stop_builtin ?_) | (with_reducible refine stop_slice ?_) | (with_reducible refine stop_index_B ?_) | (with_reducible refine stop_index_BB ?_)  | (with_reducible refine stop_index_N ?_) | (with_reducible refine stop_index_V ?_) | (with_reducible refine stop_index_VV ?_) | (with_reducible refine stop_index_P ?_) | (with_reducible refine stop_index_O ?_) | (with_reducible refine stop_index_H ?_)  | (with_reducible refine stop_str_B ?_) | (with_reducible refine stop_mark_B ?_) | (with_reducible refine stop_buildSlice ?_))
    go_ret
    exact ⟨rfl, Below.refl _ _⟩
end Go.Proofs.YtnkbfelnggompaaDoor
