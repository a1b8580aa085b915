/- package vec: Right; package note: bare; the tests over ops and hits. -/
import Derived.Test.YtnkbfelnggompaaDoorNoteRep
import Derived.Test.YtnkbfelnggompaaDoorScFr
namespace Go.Arm
def inCoord (z : Int32) : Bool := decide (-268435456 ≤ z.toInt) && decide (z.toInt ≤ 268435456)
def vecRight (v : List Int32) : Bool := decide (0 < v.length) && decide (v.length ≤ 8) && v.all inCoord
def vecBare (v : List Int32) : Bool := decide (v.length = 0) || vecRight v
def opRight (o : OpR) : Bool := decide (o.id.toNat ≤ 1099511627776) && vecBare o.vec
def hitRight (o : HitR) : Bool := decide (o.id.toNat ≤ 1099511627776) && vecRight o.vec

theorem all_take_snoc {α : Type} (f : α → Bool) (l : List α) (j : Nat) (y : α) (h : l[j]? = some y) (h1 : (l.take j).all f = true) (h2 : f y = true) : (l.take (j + 1)).all f = true := by
  rw [take_snoc l j y h, List.all_append, h1]
  simp [h2]
theorem all_falsified {α : Type} (f : α → Bool) (l : List α) (j : Nat) (y : α) (h : l[j]? = some y) (h2 : f y = false) : l.all f = false := by
  rw [List.all_eq_false]
  exact ⟨y, List.mem_of_getElem? h, by simp [h2]⟩
end Go.Arm
namespace Go.Proofs.YtnkbfelnggompaaDoor
open Go Go.RowKit Go.Arm

theorem coord_any (w : World) (z : Int32) : Calls Tryd.prog 84 #[.int .i32 z.toInt] w fun e w' => e = .returned (.bool (!inCoord z)) ∧ w = w' := by
  obtain ⟨R, hR⟩ : ∃ R, R = inCoord z := ⟨_, rfl⟩
  rw [← hR]
  unfold inCoord at hR
  obtain ⟨y, hy⟩ : ∃ y, y = z.toInt := ⟨_, rfl⟩
  rw [← hy] at hR ⊢
  clear hy
  have HR := Lib.hid hR
  clear hR
  by_cases h1 : y < -268435456
  · go_enter Tryd.func84, Tryd.ntmps84
    go_wp2_with (first | ((with_reducible apply wpList_unguard); rfl) | (with_reducible refine stop_make ?_) | ((with_reducible apply len_B); assumption) | ((with_reducible apply len_BB); assumption)  | ((with_reducible apply len_N); assumption) | ((with_reducible apply len_V); assumption) | ((with_reducible apply len_VV); assumption) | ((with_reducible apply len_P); assumption) | ((with_reducible apply len_O); assumption) | ((with_reducible apply len_H); assumption)  | (with_reducible refine stop_builtin ?_) | (with_reducible refine stop_slice ?_) | (with_reducible refine stop_index_B ?_) | (with_reducible refine stop_index_BB ?_)  | (with_reducible refine stop_index_N ?_) | (with_reducible refine stop_index_V ?_) | (with_reducible refine stop_index_VV ?_) | (with_reducible refine stop_index_P ?_) | (with_reducible refine stop_index_O ?_) | (with_reducible refine stop_index_H ?_)  | (with_reducible refine stop_str_B ?_) | (with_reducible refine stop_mark_B ?_) | (with_reducible refine stop_buildSlice ?_))
    go_ret
    rw [HR.out, decide_eq_false (by omega)]
    exact ⟨rfl, rfl⟩
  · by_cases h2 : 268435456 < y
    · go_enter Tryd.func84, Tryd.ntmps84
      go_wp2_with (first | ((with_reducible apply wpList_unguard); rfl) | (with_reducible refine stop_make ?_) | ((with_reducible apply len_B); assumption) | ((with_reducible apply len_BB); assumption)  | ((with_reducible apply len_N); assumption) | ((with_reducible apply len_V); assumption) | ((with_reducible apply len_VV); assumption) | ((with_reducible apply len_P); assumption) | ((with_reducible apply len_O); assumption) | ((with_reducible apply len_H); assumption)  | (with_reducible refine stop_builtin ?_) | (with_reducible refine stop_slice ?_) | (with_reducible refine stop_index_B ?_) | (with_reducible refine stop_index_BB ?_)  | (with_reducible refine stop_index_N ?_) | (with_reducible refine stop_index_V ?_) | (with_reducible refine stop_index_VV ?_) | (with_reducible refine stop_index_P ?_) | (with_reducible refine stop_index_O ?_) | (with_reducible refine stop_index_H ?_)  | (with_reducible refine stop_str_B ?_) | (with_reducible refine stop_mark_B ?_) | (with_reducible refine stop_buildSlice ?_))
      go_ret
      rw [HR.out, decide_eq_true (by omega), decide_eq_false (by omega)]
      refine ⟨?_, rfl⟩
      simp
    · go_enter Tryd.func84, Tryd.ntmps84
      go_wp2_with (first | ((with_reducible apply wpList_unguard); rfl) | (with_reducible refine stop_make ?_) | ((with_reducible apply len_B); assumption) | ((with_reducible apply len_BB); assumption)  | ((with_reducible apply len_N); assumption) | ((with_reducible apply len_V); assumption) | ((with_reducible apply len_VV); assumption) | ((with_reducible apply len_P); assumption) | ((with_reducible apply len_O); assumption) | ((with_reducible apply len_H); assumption)  | (with_reducible refine stop_builtin ?_) | (with_reducible refine stop_slice ?_) | (with_reducible refine stop_index_B ?_) | (with_reducible refine stop_index_BB ?_)  | (with_reducible refine stop_index_N ?_) | (with_reducible refine stop_index_V ?_) | (with_reducible refine stop_index_VV ?_) | (with_reducible refine stop_index_P ?_) | (with_reducible refine stop_index_O ?_) | (with_reducible refine stop_index_H ?_)  | (with_reducible refine stop_str_B ?_) | (with_reducible refine stop_mark_B ?_) | (with_reducible refine stop_buildSlice ?_))
      go_ret
      rw [HR.out, decide_eq_true (by omega), decide_eq_true (by omega)]
      refine ⟨?_, rfl⟩
      simp

theorem index_V (w : World) (S : Nat → Prop) (l : List Int32) (p : Value) (hp : Sl w S l p) :
    Calls Tryd.prog 90 #[p, .func (.func 84) #[] #[]] w fun e w' => ∃ k : Int, e = .returned (.int .i64 k) ∧ (decide (0 ≤ k) = !l.all inCoord) ∧ Below w.heap.size w w' := by
  have hll : l.length ≤ 9223372036854775807 := hp.length_le
  have hp0 := hp.old
  clear hp
  go_enter Tryd.func90, Tryd.ntmps90
  go_wp2_with (first | ((with_reducible apply wpList_unguard); rfl) | (with_reducible refine stop_make ?_) | ((with_reducible apply len_B); assumption) | ((with_reducible apply len_BB); assumption)  | ((with_reducible apply len_N); assumption) | ((with_reducible apply len_V); assumption) | ((with_reducible apply len_VV); assumption) | ((with_reducible apply len_P); assumption) | ((with_reducible apply len_O); assumption) | ((with_reducible apply len_H); assumption)  | (with_reducible refine stop_builtin ?_) | (with_reducible refine stop_slice ?_) | (with_reducible refine stop_index_B ?_) | (with_reducible refine stop_index_BB ?_)  | (with_reducible refine stop_index_N ?_) | (with_reducible refine stop_index_V ?_) | (with_reducible refine stop_index_VV ?_) | (with_reducible refine stop_index_P ?_) | (with_reducible refine stop_index_O ?_) | (with_reducible refine stop_index_H ?_)  | (with_reducible refine stop_str_B ?_) | (with_reducible refine stop_mark_B ?_) | (with_reducible refine stop_buildSlice ?_))
  go_loopg [5, 8] (l.length + 1) (fun k x i wr => ∃ j : Nat, k = l.length - j + 1 ∧ j ≤ l.length ∧ i = .int .i64 j ∧ Below w.heap.size w wr ∧ (l.take j).all inCoord = true)
  case atStart => exact ⟨0, by omega, by omega, rfl, Below.refl _ _, by simp⟩
  case round =>
    obtain ⟨j, hk, hj, rfl, hb, hall⟩ := hrel
    have Hk := Lib.hid hk
    have Hall := Lib.hid hall
    clear hk hall
    have hpr := hp0.below hb (Nat.le_refl _)
    by_cases hlt : j < l.length
    · go_wp2_with (first | ((with_reducible apply wpList_unguard); rfl) | (with_reducible refine stop_make ?_) | ((with_reducible apply len_B); assumption) | ((with_reducible apply len_BB); assumption)  | ((with_reducible apply len_N); assumption) | ((with_reducible apply len_V); assumption) | ((with_reducible apply len_VV); assumption) | ((with_reducible apply len_P); assumption) | ((with_reducible apply len_O); assumption) | ((with_reducible apply len_H); assumption)  | (with_reducible refine stop_builtin ?_) | (with_reducible refine stop_slice ?_) | (with_reducible refine stop_index_B ?_) | (with_reducible refine stop_index_BB ?_)  | (with_reducible refine stop_index_N ?_) | (with_reducible refine stop_index_V ?_) | (with_reducible refine stop_index_VV ?_) | (with_reducible refine stop_index_P ?_) | (with_reducible refine stop_index_O ?_) | (with_reducible refine stop_index_H ?_)  | (with_reducible refine stop_str_B ?_) | (with_reducible refine stop_mark_B ?_) | (with_reducible refine stop_buildSlice ?_))
      refine Stop.go (idx_V hpr rfl (by omega) (by omega) fun b o y hy hcell => ?_)
      have Hy := Lib.hid hy
      clear hy
      go_wp2_with (first | ((with_reducible apply wpList_unguard); rfl) | (with_reducible refine stop_make ?_) | ((with_reducible apply len_B); assumption) | ((with_reducible apply len_BB); assumption)  | ((with_reducible apply len_N); assumption) | ((with_reducible apply len_V); assumption) | ((with_reducible apply len_VV); assumption) | ((with_reducible apply len_P); assumption) | ((with_reducible apply len_O); assumption) | ((with_reducible apply len_H); assumption)  | (with_reducible refine stop_builtin ?_) | (with_reducible refine stop_slice ?_) | (with_reducible refine stop_index_B ?_) | (with_reducible refine stop_index_BB ?_)  | (with_reducible refine stop_index_N ?_) | (with_reducible refine stop_index_V ?_) | (with_reducible refine stop_index_VV ?_) | (with_reducible refine stop_index_P ?_) | (with_reducible refine stop_index_O ?_) | (with_reducible refine stop_index_H ?_)  | (with_reducible refine stop_str_B ?_) | (with_reducible refine stop_mark_B ?_) | (with_reducible refine stop_buildSlice ?_))
      refine (coord_any wr y).mono ?_
      rintro e w2 ⟨rfl, rfl⟩
      have hb2 := hb
      by_cases hg : inCoord y = true
      · rw [hg]
        simp only [Bool.not_true]
        go_wp2_with (first | ((with_reducible apply wpList_unguard); rfl) | (with_reducible refine stop_make ?_) | ((with_reducible apply len_B); assumption) | ((with_reducible apply len_BB); assumption)  | ((with_reducible apply len_N); assumption) | ((with_reducible apply len_V); assumption) | ((with_reducible apply len_VV); assumption) | ((with_reducible apply len_P); assumption) | ((with_reducible apply len_O); assumption) | ((with_reducible apply len_H); assumption)  | (with_reducible refine stop_builtin ?_) | (with_reducible refine stop_slice ?_) | (with_reducible refine stop_index_B ?_) | (with_reducible refine stop_index_BB ?_)  | (with_reducible refine stop_index_N ?_) | (with_reducible refine stop_index_V ?_) | (with_reducible refine stop_index_VV ?_) | (with_reducible refine stop_index_P ?_) | (with_reducible refine stop_index_O ?_) | (with_reducible refine stop_index_H ?_)  | (with_reducible refine stop_str_B ?_) | (with_reducible refine stop_mark_B ?_) | (with_reducible refine stop_buildSlice ?_))
        go_roundg (l.length - (j + 1) + 1)
        case measure => have := Hk.out; omega
        case rel => exact ⟨j + 1, by omega, by omega, by go_num, hb2, all_take_snoc inCoord l j y (by simpa using Hy.out) Hall.out hg⟩
      · rw [Bool.not_eq_true] at hg
        rw [hg]
        simp only [Bool.not_false]
        go_wp2_with (first | ((with_reducible apply wpList_unguard); rfl) | (with_reducible refine stop_make ?_) | ((with_reducible apply len_B); assumption) | ((with_reducible apply len_BB); assumption)  | ((with_reducible apply len_N); assumption) | ((with_reducible apply len_V); assumption) | ((with_reducible apply len_VV); assumption) | ((with_reducible apply len_P); assumption) | ((with_reducible apply len_O); assumption) | ((with_reducible apply len_H); assumption)  | (with_reducible refine stop_builtin ?_) | (with_reducible refine stop_slice ?_) | (with_reducible refine stop_index_B ?_) | (with_reducible refine stop_index_BB ?_)  | (with_reducible refine stop_index_N ?_) | (with_reducible refine stop_index_V ?_) | (with_reducible refine stop_index_VV ?_) | (with_reducible refine stop_index_P ?_) | (with_reducible refine stop_index_O ?_) | (with_reducible refine stop_index_H ?_)  | (with_reducible refine stop_str_B ?_) | (with_reducible refine stop_mark_B ?_) | (with_reducible refine stop_buildSlice ?_))
        go_ret
        exact ⟨_, rfl, by rw [all_falsified inCoord l j y (by simpa using Hy.out) hg]; simp, hb2⟩
    · rw [List.take_of_length_le (by omega)] at Hall
      go_wp2_with (first | ((with_reducible apply wpList_unguard); rfl) | (with_reducible refine stop_make ?_) | ((with_reducible apply len_B); assumption) | ((with_reducible apply len_BB); assumption)  | ((with_reducible apply len_N); assumption) | ((with_reducible apply len_V); assumption) | ((with_reducible apply len_VV); assumption) | ((with_reducible apply len_P); assumption) | ((with_reducible apply len_O); assumption) | ((with_reducible apply len_H); assumption)  | (with_reducible refine stop_builtin ?_) | (with_reducible refine stop_slice ?_) | (with_reducible refine stop_index_B ?_) | (with_reducible refine stop_index_BB ?_)  | (with_reducible refine stop_index_N ?_) | (with_reducible refine stop_index_V ?_) | (with_reducible refine stop_index_VV ?_) | (with_reducible refine stop_index_P ?_) | (with_reducible refine stop_index_O ?_) | (with_reducible refine stop_index_H ?_)  | (with_reducible refine stop_str_B ?_) | (with_reducible refine stop_mark_B ?_) | (with_reducible refine stop_buildSlice ?_))
      go_ret
      exact ⟨_, rfl, by rw [Hall.out]; simp, hb⟩

theorem contains_V (w : World) (S : Nat → Prop) (l : List Int32) (p : Value) (hp : Sl w S l p) :
    Calls Tryd.prog 83 #[p, .func (.func 84) #[] #[]] w fun e w' => e = .returned (.bool (!l.all inCoord)) ∧ Below w.heap.size w w' := by
  go_enter Tryd.func83, Tryd.ntmps83
  go_wp2_with (first | ((with_reducible apply wpList_unguard); rfl) | (with_reducible refine stop_make ?_) | ((with_reducible apply len_B); assumption) | ((with_reducible apply len_BB); assumption)  | ((with_reducible apply len_N); assumption) | ((with_reducible apply len_V); assumption) | ((with_reducible apply len_VV); assumption) | ((with_reducible apply len_P); assumption) | ((with_reducible apply len_O); assumption) | ((with_reducible apply len_H); assumption)  | (with_reducible refine stop_builtin ?_) | (with_reducible refine stop_slice ?_) | (with_reducible refine stop_index_B ?_) | (with_reducible refine stop_index_BB ?_)  | (with_reducible refine stop_index_N ?_) | (with_reducible refine stop_index_V ?_) | (with_reducible refine stop_index_VV ?_) | (with_reducible refine stop_index_P ?_) | (with_reducible refine stop_index_O ?_) | (with_reducible refine stop_index_H ?_)  | (with_reducible refine stop_str_B ?_) | (with_reducible refine stop_mark_B ?_) | (with_reducible refine stop_buildSlice ?_))
  refine (index_V w S l p hp).mono ?_
  rintro e w1 ⟨k, rfl, hk, hb⟩
  have Hk := Lib.hid hk
  clear hk
  go_wp2_with (first | ((with_reducible apply wpList_unguard); rfl) | (with_reducible refine stop_make ?_) | ((with_reducible apply len_B); assumption) | ((with_reducible apply len_BB); assumption)  | ((with_reducible apply len_N); assumption) | ((with_reducible apply len_V); assumption) | ((with_reducible apply len_VV); assumption) | ((with_reducible apply len_P); assumption) | ((with_reducible apply len_O); assumption) | ((with_reducible apply len_H); assumption)  | (with_reducible refine stop_builtin ?_) | (with_reducible refine stop_slice ?_) | (with_reducible refine stop_index_B ?_) | (with_reducible refine stop_index_BB ?_)  | (with_reducible refine stop_index_N ?_) | (with_reducible refine stop_index_V ?_) | (with_reducible refine stop_index_VV ?_) | (with_reducible refine stop_index_P ?_) | (with_reducible refine stop_index_O ?_) | (with_reducible refine stop_index_H ?_)  | (with_reducible refine stop_str_B ?_) | (with_reducible refine stop_mark_B ?_) | (with_reducible refine stop_buildSlice ?_))
  go_ret
  rw [← Hk.out]
  exact ⟨rfl, hb⟩

theorem vright_any (w : World) (S : Nat → Prop) (l : List Int32) (p : Value) (hp : Sl w S l p) :
    Calls Tryd.prog 67 #[p] w fun e w' => e = .returned (.bool (vecRight l)) ∧ Below w.heap.size w w' := by
  obtain ⟨R, hR⟩ : ∃ R, R = vecRight l := ⟨_, rfl⟩
  rw [← hR]
  unfold vecRight at hR
  have HR := Lib.hid hR
  clear hR
  by_cases h0 : 0 < l.length
  · by_cases h8 : l.length ≤ 8
    · go_enter Tryd.func67, Tryd.ntmps67
      go_wp2_with (first | ((with_reducible apply wpList_unguard); rfl) | (with_reducible refine stop_make ?_) | ((with_reducible apply len_B); assumption) | ((with_reducible apply len_BB); assumption)  | ((with_reducible apply len_N); assumption) | ((with_reducible apply len_V); assumption) | ((with_reducible apply len_VV); assumption) | ((with_reducible apply len_P); assumption) | ((with_reducible apply len_O); assumption) | ((with_reducible apply len_H); assumption)  | (with_reducible refine stop_builtin ?_) | (with_reducible refine stop_slice ?_) | (with_reducible refine stop_index_B ?_) | (with_reducible refine stop_index_BB ?_)  | (with_reducible refine stop_index_N ?_) | (with_reducible refine stop_index_V ?_) | (with_reducible refine stop_index_VV ?_) | (with_reducible refine stop_index_P ?_) | (with_reducible refine stop_index_O ?_) | (with_reducible refine stop_index_H ?_)  | (with_reducible refine stop_str_B ?_) | (with_reducible refine stop_mark_B ?_) | (with_reducible refine stop_buildSlice ?_))
      refine (contains_V w S l p hp).mono ?_
      rintro e w1 ⟨rfl, hb⟩
      go_wp2_with (first | ((with_reducible apply wpList_unguard); rfl) | (with_reducible refine stop_make ?_) | ((with_reducible apply len_B); assumption) | ((with_reducible apply len_BB); assumption)  | ((with_reducible apply len_N); assumption) | ((with_reducible apply len_V); assumption) | ((with_reducible apply len_VV); assumption) | ((with_reducible apply len_P); assumption) | ((with_reducible apply len_O); assumption) | ((with_reducible apply len_H); assumption)  | (with_reducible refine stop_builtin ?_) | (with_reducible refine stop_slice ?_) | (with_reducible refine stop_index_B ?_) | (with_reducible refine stop_index_BB ?_)  | (with_reducible refine stop_index_N ?_) | (with_reducible refine stop_index_V ?_) | (with_reducible refine stop_index_VV ?_) | (with_reducible refine stop_index_P ?_) | (with_reducible refine stop_index_O ?_) | (with_reducible refine stop_index_H ?_)  | (with_reducible refine stop_str_B ?_) | (with_reducible refine stop_mark_B ?_) | (with_reducible refine stop_buildSlice ?_))
      go_ret
      rw [HR.out, decide_eq_true h0, decide_eq_true h8]
      refine ⟨?_, hb⟩
      simp
    · go_enter Tryd.func67, Tryd.ntmps67
      go_wp2_with (first | ((with_reducible apply wpList_unguard); rfl) | (with_reducible refine stop_make ?_) | ((with_reducible apply len_B); assumption) | ((with_reducible apply len_BB); assumption)  | ((with_reducible apply len_N); assumption) | ((with_reducible apply len_V); assumption) | ((with_reducible apply len_VV); assumption) | ((with_reducible apply len_P); assumption) | ((with_reducible apply len_O); assumption) | ((with_reducible apply len_H); assumption)  | (with_reducible refine stop_builtin ?_) | (with_reducible refine stop_slice ?_) | (with_reducible refine stop_index_B ?_) | (with_reducible refine stop_index_BB ?_)  | (with_reducible refine stop_index_N ?_) | (with_reducible refine stop_index_V ?_) | (with_reducible refine stop_index_VV ?_) | (with_reducible refine stop_index_P ?_) | (with_reducible refine stop_index_O ?_) | (with_reducible refine stop_index_H ?_)  | (with_reducible refine stop_str_B ?_) | (with_reducible refine stop_mark_B ?_) | (with_reducible refine stop_buildSlice ?_))
      go_ret
      rw [HR.out, decide_eq_true h0, decide_eq_false h8]
      exact ⟨rfl, Below.refl _ _⟩
  · go_enter Tryd.func67, Tryd.ntmps67
    go_wp2_with (first | ((with_reducible apply wpList_unguard); rfl) | (with_reducible refine stop_make ?_) | ((with_reducible apply len_B); assumption) | ((with_reducible apply len_BB); assumption)  | ((with_reducible apply len_N); assumption) | ((with_reducible apply len_V); assumption) | ((with_reducible apply len_VV); assumption) | ((with_reducible apply len_P); assumption) | ((with_reducible apply len_O); assumption) | ((with_reducible apply len_H); assumption)  | (with_reducible refine stop_builtin ?_) | (with_reducible refine stop_slice ?_) | (with_reducible refine stop_index_B ?_) | (with_reducible refine stop_index_BB ?_)  | (with_reducible refine stop_index_N ?_) | (with_reducible refine stop_index_V ?_) | (with_reducible refine stop_index_VV ?_) | (with_reducible refine stop_index_P ?_) | (with_reducible refine stop_index_O ?_) | (with_reducible refine stop_index_H ?_)  | (with_reducible refine stop_str_B ?_) | (with_reducible refine stop_mark_B ?_) | (with_reducible refine stop_buildSlice ?_))
    go_ret
    rw [HR.out, decide_eq_false h0]
    exact ⟨rfl, Below.refl _ _⟩

theorem bare_any (w : World) (S : Nat → Prop) (l : List Int32) (p : Value) (hp : Sl w S l p) :
    Calls Tryd.prog 62 #[p] w fun e w' => e = .returned (.bool (vecBare l)) ∧ Below w.heap.size w w' := by
  obtain ⟨R, hR⟩ : ∃ R, R = vecBare l := ⟨_, rfl⟩
  rw [← hR]
  unfold vecBare at hR
  have HR := Lib.hid hR
  clear hR
  by_cases h0 : l.length = 0
  · have hb0 : ((l.length : Int) == 0) = true := by simpa using h0
    go_enter Tryd.func62, Tryd.ntmps62
    go_wp2_with (first | ((with_reducible apply wpList_unguard); rfl) | (with_reducible refine stop_make ?_) | ((with_reducible apply len_B); assumption) | ((with_reducible apply len_BB); assumption)  | ((with_reducible apply len_N); assumption) | ((with_reducible apply len_V); assumption) | ((with_reducible apply len_VV); assumption) | ((with_reducible apply len_P); assumption) | ((with_reducible apply len_O); assumption) | ((with_reducible apply len_H); assumption)  | (with_reducible refine stop_builtin ?_) | (with_reducible refine stop_slice ?_) | (with_reducible refine stop_index_B ?_) | (with_reducible refine stop_index_BB ?_)  | (with_reducible refine stop_index_N ?_) | (with_reducible refine stop_index_V ?_) | (with_reducible refine stop_index_VV ?_) | (with_reducible refine stop_index_P ?_) | (with_reducible refine stop_index_O ?_) | (with_reducible refine stop_index_H ?_)  | (with_reducible refine stop_str_B ?_) | (with_reducible refine stop_mark_B ?_) | (with_reducible refine stop_buildSlice ?_))
    go_ret
    rw [HR.out, decide_eq_true h0]
    exact ⟨rfl, Below.refl _ _⟩
  · have hb0 : ((l.length : Int) == 0) = false := beq_eq_false_iff_ne.2 (by omega)
    go_enter Tryd.func62, Tryd.ntmps62
    go_wp2_with (first | ((with_reducible apply wpList_unguard); rfl) | (with_reducible refine stop_make ?_) | ((with_reducible apply len_B); assumption) | ((with_reducible apply len_BB); assumption)  | ((with_reducible apply len_N); assumption) | ((with_reducible apply len_V); assumption) | ((with_reducible apply len_VV); assumption) | ((with_reducible apply len_P); assumption) | ((with_reducible apply len_O); assumption) | ((with_reducible apply len_H); assumption)  | (with_reducible refine stop_builtin ?_) | (with_reducible refine stop_slice ?_) | (with_reducible refine stop_index_B ?_) | (with_reducible refine stop_index_BB ?_)  | (with_reducible refine stop_index_N ?_) | (with_reducible refine stop_index_V ?_) | (with_reducible refine stop_index_VV ?_) | (with_reducible refine stop_index_P ?_) | (with_reducible refine stop_index_O ?_) | (with_reducible refine stop_index_H ?_)  | (with_reducible refine stop_str_B ?_) | (with_reducible refine stop_mark_B ?_) | (with_reducible refine stop_buildSlice ?_))
    refine (vright_any w S l p hp).mono ?_
    rintro e w1 ⟨rfl, hb⟩
    go_wp2_with (first | ((with_reducible apply wpList_unguard); rfl) | (with_reducible refine stop_make ?_) | ((with_reducible apply len_B); assumption) | ((with_reducible apply len_BB); assumption)  | ((with_reducible apply len_N); assumption) | ((with_reducible apply len_V); assumption) | ((with_reducible apply len_VV); assumption) | ((with_reducible apply len_P); assumption) | ((with_reducible apply len_O); assumption) | ((with_reducible apply len_H); assumption)  | (with_reducible refine stop_builtin ?_) | (with_reducible refine stop_slice ?_) | (with_reducible refine stop_index_B ?_) | (with_reducible refine stop_index_BB ?_)  | (with_reducible refine stop_index_N ?_) | (with_reducible refine stop_index_V ?_) | (with_reducible refine stop_index_VV ?_) | (with_reducible refine stop_index_P ?_) | (with_reducible refine stop_index_O ?_) | (with_reducible refine stop_index_H ?_)  | (with_reducible refine stop_str_B ?_) | (with_reducible refine stop_mark_B ?_) | (with_reducible refine stop_buildSlice ?_))
    go_ret
    rw [HR.out, decide_eq_false h0]
    exact ⟨rfl, hb⟩

theorem op_clo (w : World) (S : Nat → Prop) (y : OpR) (v : Value) (hv : Sl w S y.vec v) :
    Calls Tryd.prog 64 #[.agg #[.int .u64 (y.id.toNat : Int), v]] w fun e w' => e = .returned (.bool (!opRight y)) ∧ Below w.heap.size w w' := by
  obtain ⟨R, hR⟩ : ∃ R, R = opRight y := ⟨_, rfl⟩
  rw [← hR]
  unfold opRight at hR
  have HR := Lib.hid hR
  clear hR
  have hv0 := hv.old
  clear hv
  obtain ⟨av, nv, cv, rfl⟩ := Sl.shape hv0
  have hal := (Below.refl w.heap.size w).alloc (Nat.le_refl _) (.cells #[.int .u64 (y.id.toNat : Int), .slice av nv cv] 32)
  have hvx := hv0.below hal (Nat.le_refl _)
  by_cases h1 : 1099511627776 < y.id.toNat
  · have h1' : (1099511627776 : Int) < (y.id.toNat : Int) := by omega
    go_enter Tryd.func64, Tryd.ntmps64
    go_wp2_with (first | ((with_reducible apply wpList_unguard); rfl) | (with_reducible refine stop_make ?_) | ((with_reducible apply len_B); assumption) | ((with_reducible apply len_BB); assumption)  | ((with_reducible apply len_N); assumption) | ((with_reducible apply len_V); assumption) | ((with_reducible apply len_VV); assumption) | ((with_reducible apply len_P); assumption) | ((with_reducible apply len_O); assumption) | ((with_reducible apply len_H); assumption)  | (with_reducible refine stop_builtin ?_) | (with_reducible refine stop_slice ?_) | (with_reducible refine stop_index_B ?_) | (with_reducible refine stop_index_BB ?_)  | (with_reducible refine stop_index_N ?_) | (with_reducible refine stop_index_V ?_) | (with_reducible refine stop_index_VV ?_) | (with_reducible refine stop_index_P ?_) | (with_reducible refine stop_index_O ?_) | (with_reducible refine stop_index_H ?_)  | (with_reducible refine stop_str_B ?_) | (with_reducible refine stop_mark_B ?_) | (with_reducible refine stop_buildSlice ?_))
    go_ret
    rw [HR.out, decide_eq_false (by omega)]
    exact ⟨rfl, hal⟩
  · have h1' : ¬ (1099511627776 : Int) < (y.id.toNat : Int) := by omega
    go_enter Tryd.func64, Tryd.ntmps64
    go_wp2_with (first | ((with_reducible apply wpList_unguard); rfl) | (with_reducible refine stop_make ?_) | ((with_reducible apply len_B); assumption) | ((with_reducible apply len_BB); assumption)  | ((with_reducible apply len_N); assumption) | ((with_reducible apply len_V); assumption) | ((with_reducible apply len_VV); assumption) | ((with_reducible apply len_P); assumption) | ((with_reducible apply len_O); assumption) | ((with_reducible apply len_H); assumption)  | (with_reducible refine stop_builtin ?_) | (with_reducible refine stop_slice ?_) | (with_reducible refine stop_index_B ?_) | (with_reducible refine stop_index_BB ?_)  | (with_reducible refine stop_index_N ?_) | (with_reducible refine stop_index_V ?_) | (with_reducible refine stop_index_VV ?_) | (with_reducible refine stop_index_P ?_) | (with_reducible refine stop_index_O ?_) | (with_reducible refine stop_index_H ?_)  | (with_reducible refine stop_str_B ?_) | (with_reducible refine stop_mark_B ?_) | (with_reducible refine stop_buildSlice ?_))
    refine (bare_any _ _ _ _ hvx).mono ?_
    rintro e w1 ⟨rfl, hb⟩
    go_wp2_with (first | ((with_reducible apply wpList_unguard); rfl) | (with_reducible refine stop_make ?_) | ((with_reducible apply len_B); assumption) | ((with_reducible apply len_BB); assumption)  | ((with_reducible apply len_N); assumption) | ((with_reducible apply len_V); assumption) | ((with_reducible apply len_VV); assumption) | ((with_reducible apply len_P); assumption) | ((with_reducible apply len_O); assumption) | ((with_reducible apply len_H); assumption)  | (with_reducible refine stop_builtin ?_) | (with_reducible refine stop_slice ?_) | (with_reducible refine stop_index_B ?_) | (with_reducible refine stop_index_BB ?_)  | (with_reducible refine stop_index_N ?_) | (with_reducible refine stop_index_V ?_) | (with_reducible refine stop_index_VV ?_) | (with_reducible refine stop_index_P ?_) | (with_reducible refine stop_index_O ?_) | (with_reducible refine stop_index_H ?_)  | (with_reducible refine stop_str_B ?_) | (with_reducible refine stop_mark_B ?_) | (with_reducible refine stop_buildSlice ?_))
    go_ret
    rw [HR.out, decide_eq_true (by omega)]
    exact ⟨rfl, below_on hal hb hal.size⟩

theorem hit_clo (w : World) (S : Nat → Prop) (y : HitR) (v : Value) (hv : Sl w S y.vec v) :
    Calls Tryd.prog 66 #[.agg #[.int .u64 (y.id.toNat : Int), .int .u64 (y.dist.toNat : Int), v]] w fun e w' => e = .returned (.bool (!hitRight y)) ∧ Below w.heap.size w w' := by
  obtain ⟨R, hR⟩ : ∃ R, R = hitRight y := ⟨_, rfl⟩
  rw [← hR]
  unfold hitRight at hR
  have HR := Lib.hid hR
  clear hR
  have hv0 := hv.old
  clear hv
  obtain ⟨av, nv, cv, rfl⟩ := Sl.shape hv0
  have hal := (Below.refl w.heap.size w).alloc (Nat.le_refl _) (.cells #[.int .u64 (y.id.toNat : Int), .int .u64 (y.dist.toNat : Int), .slice av nv cv] 34)
  have hvx := hv0.below hal (Nat.le_refl _)
  by_cases h1 : 1099511627776 < y.id.toNat
  · have h1' : (1099511627776 : Int) < (y.id.toNat : Int) := by omega
    go_enter Tryd.func66, Tryd.ntmps66
    go_wp2_with (first | ((with_reducible apply wpList_unguard); rfl) | (with_reducible refine stop_make ?_) | ((with_reducible apply len_B); assumption) | ((with_reducible apply len_BB); assumption)  | ((with_reducible apply len_N); assumption) | ((with_reducible apply len_V); assumption) | ((with_reducible apply len_VV); assumption) | ((with_reducible apply len_P); assumption) | ((with_reducible apply len_O); assumption) | ((with_reducible apply len_H); assumption)  | (with_reducible refine stop_builtin ?_) | (with_reducible refine stop_slice ?_) | (with_reducible refine stop_index_B ?_) | (with_reducible refine stop_index_BB ?_)  | (with_reducible refine stop_index_N ?_) | (with_reducible refine stop_index_V ?_) | (with_reducible refine stop_index_VV ?_) | (with_reducible refine stop_index_P ?_) | (with_reducible refine stop_index_O ?_) | (with_reducible refine stop_index_H ?_)  | (with_reducible refine stop_str_B ?_) | (with_reducible refine stop_mark_B ?_) | (with_reducible refine stop_buildSlice ?_))
    go_ret
    rw [HR.out, decide_eq_false (by omega)]
    exact ⟨rfl, hal⟩
  · have h1' : ¬ (1099511627776 : Int) < (y.id.toNat : Int) := by omega
    go_enter Tryd.func66, Tryd.ntmps66
    go_wp2_with (first | ((with_reducible apply wpList_unguard); rfl) | (with_reducible refine stop_make ?_) | ((with_reducible apply len_B); assumption) | ((with_reducible apply len_BB); assumption)  | ((with_reducible apply len_N); assumption) | ((with_reducible apply len_V); assumption) | ((with_reducible apply len_VV); assumption) | ((with_reducible apply len_P); assumption) | ((with_reducible apply len_O); assumption) | ((with_reducible apply len_H); assumption)  | (with_reducible refine stop_builtin ?_) | (with_reducible refine stop_slice ?_) | (with_reducible refine stop_index_B ?_) | (with_reducible refine stop_index_BB ?_)  | (with_reducible refine stop_index_N ?_) | (with_reducible refine stop_index_V ?_) | (with_reducible refine stop_index_VV ?_) | (with_reducible refine stop_index_P ?_) | (with_reducible refine stop_index_O ?_) | (with_reducible refine stop_index_H ?_)  | (with_reducible refine stop_str_B ?_) | (with_reducible refine stop_mark_B ?_) | (with_reducible refine stop_buildSlice ?_))
    refine (vright_any _ _ _ _ hvx).mono ?_
    rintro e w1 ⟨rfl, hb⟩
    go_wp2_with (first | ((with_reducible apply wpList_unguard); rfl) | (with_reducible refine stop_make ?_) | ((with_reducible apply len_B); assumption) | ((with_reducible apply len_BB); assumption)  | ((with_reducible apply len_N); assumption) | ((with_reducible apply len_V); assumption) | ((with_reducible apply len_VV); assumption) | ((with_reducible apply len_P); assumption) | ((with_reducible apply len_O); assumption) | ((with_reducible apply len_H); assumption)  | (with_reducible refine stop_builtin ?_) | (with_reducible refine stop_slice ?_) | (with_reducible refine stop_index_B ?_) | (with_reducible refine stop_index_BB ?_)  | (with_reducible refine stop_index_N ?_) | (with_reducible refine stop_index_V ?_) | (with_reducible refine stop_index_VV ?_) | (with_reducible refine stop_index_P ?_) | (with_reducible refine stop_index_O ?_) | (with_reducible refine stop_index_H ?_)  | (with_reducible refine stop_str_B ?_) | (with_reducible refine stop_mark_B ?_) | (with_reducible refine stop_buildSlice ?_))
    go_ret
    rw [HR.out, decide_eq_true (by omega)]
    exact ⟨rfl, below_on hal hb hal.size⟩

theorem index_O (w : World) (S : Nat → Prop) (l : List OpR) (p : Value) (hp : Sl w S l p) :
    Calls Tryd.prog 81 #[p, .func (.func 64) #[] #[]] w fun e w' => ∃ k : Int, e = .returned (.int .i64 k) ∧ (decide (0 ≤ k) = !l.all opRight) ∧ Below w.heap.size w w' := by
  have hll : l.length ≤ 9223372036854775807 := hp.length_le
  have hp0 := hp.old
  clear hp
  go_enter Tryd.func81, Tryd.ntmps81
  go_wp2_with (first | ((with_reducible apply wpList_unguard); rfl) | (with_reducible refine stop_make ?_) | ((with_reducible apply len_B); assumption) | ((with_reducible apply len_BB); assumption)  | ((with_reducible apply len_N); assumption) | ((with_reducible apply len_V); assumption) | ((with_reducible apply len_VV); assumption) | ((with_reducible apply len_P); assumption) | ((with_reducible apply len_O); assumption) | ((with_reducible apply len_H); assumption)  | (with_reducible refine stop_builtin ?_) | (with_reducible refine stop_slice ?_) | (with_reducible refine stop_index_B ?_) | (with_reducible refine stop_index_BB ?_)  | (with_reducible refine stop_index_N ?_) | (with_reducible refine stop_index_V ?_) | (with_reducible refine stop_index_VV ?_) | (with_reducible refine stop_index_P ?_) | (with_reducible refine stop_index_O ?_) | (with_reducible refine stop_index_H ?_)  | (with_reducible refine stop_str_B ?_) | (with_reducible refine stop_mark_B ?_) | (with_reducible refine stop_buildSlice ?_))
  go_loopg [5, 8] (l.length + 1) (fun k x i wr => ∃ j : Nat, k = l.length - j + 1 ∧ j ≤ l.length ∧ i = .int .i64 j ∧ Below w.heap.size w wr ∧ (l.take j).all opRight = true)
  case atStart => exact ⟨0, by omega, by omega, rfl, Below.refl _ _, by simp⟩
  case round =>
    obtain ⟨j, hk, hj, rfl, hb, hall⟩ := hrel
    have Hk := Lib.hid hk
    have Hall := Lib.hid hall
    clear hk hall
    have hpr := hp0.below hb (Nat.le_refl _)
    by_cases hlt : j < l.length
    · go_wp2_with (first | ((with_reducible apply wpList_unguard); rfl) | (with_reducible refine stop_make ?_) | ((with_reducible apply len_B); assumption) | ((with_reducible apply len_BB); assumption)  | ((with_reducible apply len_N); assumption) | ((with_reducible apply len_V); assumption) | ((with_reducible apply len_VV); assumption) | ((with_reducible apply len_P); assumption) | ((with_reducible apply len_O); assumption) | ((with_reducible apply len_H); assumption)  | (with_reducible refine stop_builtin ?_) | (with_reducible refine stop_slice ?_) | (with_reducible refine stop_index_B ?_) | (with_reducible refine stop_index_BB ?_)  | (with_reducible refine stop_index_N ?_) | (with_reducible refine stop_index_V ?_) | (with_reducible refine stop_index_VV ?_) | (with_reducible refine stop_index_P ?_) | (with_reducible refine stop_index_O ?_) | (with_reducible refine stop_index_H ?_)  | (with_reducible refine stop_str_B ?_) | (with_reducible refine stop_mark_B ?_) | (with_reducible refine stop_buildSlice ?_))
      refine Stop.go (idx_O hpr rfl (by omega) (by omega) fun b o y v hy hv c0 c1 => ?_)
      have Hy := Lib.hid hy
      clear hy
      obtain ⟨av, nv, cv, rfl⟩ := Sl.shape hv
      go_wp2_with (first | ((with_reducible apply wpList_unguard); rfl) | (with_reducible refine stop_make ?_) | ((with_reducible apply len_B); assumption) | ((with_reducible apply len_BB); assumption)  | ((with_reducible apply len_N); assumption) | ((with_reducible apply len_V); assumption) | ((with_reducible apply len_VV); assumption) | ((with_reducible apply len_P); assumption) | ((with_reducible apply len_O); assumption) | ((with_reducible apply len_H); assumption)  | (with_reducible refine stop_builtin ?_) | (with_reducible refine stop_slice ?_) | (with_reducible refine stop_index_B ?_) | (with_reducible refine stop_index_BB ?_)  | (with_reducible refine stop_index_N ?_) | (with_reducible refine stop_index_V ?_) | (with_reducible refine stop_index_VV ?_) | (with_reducible refine stop_index_P ?_) | (with_reducible refine stop_index_O ?_) | (with_reducible refine stop_index_H ?_)  | (with_reducible refine stop_str_B ?_) | (with_reducible refine stop_mark_B ?_) | (with_reducible refine stop_buildSlice ?_))
      refine (op_clo wr _ y _ hv).mono ?_
      rintro e w2 ⟨rfl, hbn⟩
      have hb2 := below_on hb hbn hb.size
      by_cases hg : opRight y = true
      · rw [hg]
        simp only [Bool.not_true]
        go_wp2_with (first | ((with_reducible apply wpList_unguard); rfl) | (with_reducible refine stop_make ?_) | ((with_reducible apply len_B); assumption) | ((with_reducible apply len_BB); assumption)  | ((with_reducible apply len_N); assumption) | ((with_reducible apply len_V); assumption) | ((with_reducible apply len_VV); assumption) | ((with_reducible apply len_P); assumption) | ((with_reducible apply len_O); assumption) | ((with_reducible apply len_H); assumption)  | (with_reducible refine stop_builtin ?_) | (with_reducible refine stop_slice ?_) | (with_reducible refine stop_index_B ?_) | (with_reducible refine stop_index_BB ?_)  | (with_reducible refine stop_index_N ?_) | (with_reducible refine stop_index_V ?_) | (with_reducible refine stop_index_VV ?_) | (with_reducible refine stop_index_P ?_) | (with_reducible refine stop_index_O ?_) | (with_reducible refine stop_index_H ?_)  | (with_reducible refine stop_str_B ?_) | (with_reducible refine stop_mark_B ?_) | (with_reducible refine stop_buildSlice ?_))
        go_roundg (l.length - (j + 1) + 1)
        case measure => have := Hk.out; omega
        case rel => exact ⟨j + 1, by omega, by omega, by go_num, hb2, all_take_snoc opRight l j y (by simpa using Hy.out) Hall.out hg⟩
      · rw [Bool.not_eq_true] at hg
        rw [hg]
        simp only [Bool.not_false]
        go_wp2_with (first | ((with_reducible apply wpList_unguard); rfl) | (with_reducible refine stop_make ?_) | ((with_reducible apply len_B); assumption) | ((with_reducible apply len_BB); assumption)  | ((with_reducible apply len_N); assumption) | ((with_reducible apply len_V); assumption) | ((with_reducible apply len_VV); assumption) | ((with_reducible apply len_P); assumption) | ((with_reducible apply len_O); assumption) | ((with_reducible apply len_H); assumption)  | (with_reducible refine stop_builtin ?_) | (with_reducible refine stop_slice ?_) | (with_reducible refine stop_index_B ?_) | (with_reducible refine stop_index_BB ?_)  | (with_reducible refine stop_index_N ?_) | (with_reducible refine stop_index_V ?_) | (with_reducible refine stop_index_VV ?_) | (with_reducible refine stop_index_P ?_) | (with_reducible refine stop_index_O ?_) | (with_reducible refine stop_index_H ?_)  | (with_reducible refine stop_str_B ?_) | (with_reducible refine stop_mark_B ?_) | (with_reducible refine stop_buildSlice ?_))
        go_ret
        exact ⟨_, rfl, by rw [all_falsified opRight l j y (by simpa using Hy.out) hg]; simp, hb2⟩
    · rw [List.take_of_length_le (by omega)] at Hall
      go_wp2_with (first | ((with_reducible apply wpList_unguard); rfl) | (with_reducible refine stop_make ?_) | ((with_reducible apply len_B); assumption) | ((with_reducible apply len_BB); assumption)  | ((with_reducible apply len_N); assumption) | ((with_reducible apply len_V); assumption) | ((with_reducible apply len_VV); assumption) | ((with_reducible apply len_P); assumption) | ((with_reducible apply len_O); assumption) | ((with_reducible apply len_H); assumption)  | (with_reducible refine stop_builtin ?_) | (with_reducible refine stop_slice ?_) | (with_reducible refine stop_index_B ?_) | (with_reducible refine stop_index_BB ?_)  | (with_reducible refine stop_index_N ?_) | (with_reducible refine stop_index_V ?_) | (with_reducible refine stop_index_VV ?_) | (with_reducible refine stop_index_P ?_) | (with_reducible refine stop_index_O ?_) | (with_reducible refine stop_index_H ?_)  | (with_reducible refine stop_str_B ?_) | (with_reducible refine stop_mark_B ?_) | (with_reducible refine stop_buildSlice ?_))
      go_ret
      exact ⟨_, rfl, by rw [Hall.out]; simp, hb⟩

theorem contains_O (w : World) (S : Nat → Prop) (l : List OpR) (p : Value) (hp : Sl w S l p) :
    Calls Tryd.prog 63 #[p, .func (.func 64) #[] #[]] w fun e w' => e = .returned (.bool (!l.all opRight)) ∧ Below w.heap.size w w' := by
  go_enter Tryd.func63, Tryd.ntmps63
  go_wp2_with (first | ((with_reducible apply wpList_unguard); rfl) | (with_reducible refine stop_make ?_) | ((with_reducible apply len_B); assumption) | ((with_reducible apply len_BB); assumption)  | ((with_reducible apply len_N); assumption) | ((with_reducible apply len_V); assumption) | ((with_reducible apply len_VV); assumption) | ((with_reducible apply len_P); assumption) | ((with_reducible apply len_O); assumption) | ((with_reducible apply len_H); assumption)  | (with_reducible refine stop_builtin ?_) | (with_reducible refine stop_slice ?_) | (with_reducible refine stop_index_B ?_) | (with_reducible refine stop_index_BB ?_)  | (with_reducible refine stop_index_N ?_) | (with_reducible refine stop_index_V ?_) | (with_reducible refine stop_index_VV ?_) | (with_reducible refine stop_index_P ?_) | (with_reducible refine stop_index_O ?_) | (with_reducible refine stop_index_H ?_)  | (with_reducible refine stop_str_B ?_) | (with_reducible refine stop_mark_B ?_) | (with_reducible refine stop_buildSlice ?_))
  refine (index_O w S l p hp).mono ?_
  rintro e w1 ⟨k, rfl, hk, hb⟩
  have Hk := Lib.hid hk
  clear hk
  go_wp2_with (first | ((with_reducible apply wpList_unguard); rfl) | (with_reducible refine stop_make ?_) | ((with_reducible apply len_B); assumption) | ((with_reducible apply len_BB); assumption)  | ((with_reducible apply len_N); assumption) | ((with_reducible apply len_V); assumption) | ((with_reducible apply len_VV); assumption) | ((with_reducible apply len_P); assumption) | ((with_reducible apply len_O); assumption) | ((with_reducible apply len_H); assumption)  | (with_reducible refine stop_builtin ?_) | (with_reducible refine stop_slice ?_) | (with_reducible refine stop_index_B ?_) | (with_reducible refine stop_index_BB ?_)  | (with_reducible refine stop_index_N ?_) | (with_reducible refine stop_index_V ?_) | (with_reducible refine stop_index_VV ?_) | (with_reducible refine stop_index_P ?_) | (with_reducible refine stop_index_O ?_) | (with_reducible refine stop_index_H ?_)  | (with_reducible refine stop_str_B ?_) | (with_reducible refine stop_mark_B ?_) | (with_reducible refine stop_buildSlice ?_))
  go_ret
  rw [← Hk.out]
  exact ⟨rfl, hb⟩

theorem index_H (w : World) (S : Nat → Prop) (l : List HitR) (p : Value) (hp : Sl w S l p) :
    Calls Tryd.prog 82 #[p, .func (.func 66) #[] #[]] w fun e w' => ∃ k : Int, e = .returned (.int .i64 k) ∧ (decide (0 ≤ k) = !l.all hitRight) ∧ Below w.heap.size w w' := by
  have hll : l.length ≤ 9223372036854775807 := hp.length_le
  have hp0 := hp.old
  clear hp
  go_enter Tryd.func82, Tryd.ntmps82
  go_wp2_with (first | ((with_reducible apply wpList_unguard); rfl) | (with_reducible refine stop_make ?_) | ((with_reducible apply len_B); assumption) | ((with_reducible apply len_BB); assumption)  | ((with_reducible apply len_N); assumption) | ((with_reducible apply len_V); assumption) | ((with_reducible apply len_VV); assumption) | ((with_reducible apply len_P); assumption) | ((with_reducible apply len_O); assumption) | ((with_reducible apply len_H); assumption)  | (with_reducible refine stop_builtin ?_) | (with_reducible refine stop_slice ?_) | (with_reducible refine stop_index_B ?_) | (with_reducible refine stop_index_BB ?_)  | (with_reducible refine stop_index_N ?_) | (with_reducible refine stop_index_V ?_) | (with_reducible refine stop_index_VV ?_) | (with_reducible refine stop_index_P ?_) | (with_reducible refine stop_index_O ?_) | (with_reducible refine stop_index_H ?_)  | (with_reducible refine stop_str_B ?_) | (with_reducible refine stop_mark_B ?_) | (with_reducible refine stop_buildSlice ?_))
  go_loopg [5, 8] (l.length + 1) (fun k x i wr => ∃ j : Nat, k = l.length - j + 1 ∧ j ≤ l.length ∧ i = .int .i64 j ∧ Below w.heap.size w wr ∧ (l.take j).all hitRight = true)
  case atStart => exact ⟨0, by omega, by omega, rfl, Below.refl _ _, by simp⟩
  case round =>
    obtain ⟨j, hk, hj, rfl, hb, hall⟩ := hrel
    have Hk := Lib.hid hk
    have Hall := Lib.hid hall
    clear hk hall
    have hpr := hp0.below hb (Nat.le_refl _)
    by_cases hlt : j < l.length
    · go_wp2_with (first | ((with_reducible apply wpList_unguard); rfl) | (with_reducible refine stop_make ?_) | ((with_reducible apply len_B); assumption) | ((with_reducible apply len_BB); assumption)  | ((with_reducible apply len_N); assumption) | ((with_reducible apply len_V); assumption) | ((with_reducible apply len_VV); assumption) | ((with_reducible apply len_P); assumption) | ((with_reducible apply len_O); assumption) | ((with_reducible apply len_H); assumption)  | (with_reducible refine stop_builtin ?_) | (with_reducible refine stop_slice ?_) | (with_reducible refine stop_index_B ?_) | (with_reducible refine stop_index_BB ?_)  | (with_reducible refine stop_index_N ?_) | (with_reducible refine stop_index_V ?_) | (with_reducible refine stop_index_VV ?_) | (with_reducible refine stop_index_P ?_) | (with_reducible refine stop_index_O ?_) | (with_reducible refine stop_index_H ?_)  | (with_reducible refine stop_str_B ?_) | (with_reducible refine stop_mark_B ?_) | (with_reducible refine stop_buildSlice ?_))
      refine Stop.go (idx_H hpr rfl (by omega) (by omega) fun b o y v hy hv c0 c1 c2 => ?_)
      have Hy := Lib.hid hy
      clear hy
      obtain ⟨av, nv, cv, rfl⟩ := Sl.shape hv
      go_wp2_with (first | ((with_reducible apply wpList_unguard); rfl) | (with_reducible refine stop_make ?_) | ((with_reducible apply len_B); assumption) | ((with_reducible apply len_BB); assumption)  | ((with_reducible apply len_N); assumption) | ((with_reducible apply len_V); assumption) | ((with_reducible apply len_VV); assumption) | ((with_reducible apply len_P); assumption) | ((with_reducible apply len_O); assumption) | ((with_reducible apply len_H); assumption)  | (with_reducible refine stop_builtin ?_) | (with_reducible refine stop_slice ?_) | (with_reducible refine stop_index_B ?_) | (with_reducible refine stop_index_BB ?_)  | (with_reducible refine stop_index_N ?_) | (with_reducible refine stop_index_V ?_) | (with_reducible refine stop_index_VV ?_) | (with_reducible refine stop_index_P ?_) | (with_reducible refine stop_index_O ?_) | (with_reducible refine stop_index_H ?_)  | (with_reducible refine stop_str_B ?_) | (with_reducible refine stop_mark_B ?_) | (with_reducible refine stop_buildSlice ?_))
      refine (hit_clo wr _ y _ hv).mono ?_
      rintro e w2 ⟨rfl, hbn⟩
      have hb2 := below_on hb hbn hb.size
      by_cases hg : hitRight y = true
      · rw [hg]
        simp only [Bool.not_true]
        go_wp2_with (first | ((with_reducible apply wpList_unguard); rfl) | (with_reducible refine stop_make ?_) | ((with_reducible apply len_B); assumption) | ((with_reducible apply len_BB); assumption)  | ((with_reducible apply len_N); assumption) | ((with_reducible apply len_V); assumption) | ((with_reducible apply len_VV); assumption) | ((with_reducible apply len_P); assumption) | ((with_reducible apply len_O); assumption) | ((with_reducible apply len_H); assumption)  | (with_reducible refine stop_builtin ?_) | (with_reducible refine stop_slice ?_) | (with_reducible refine stop_index_B ?_) | (with_reducible refine stop_index_BB ?_)  | (with_reducible refine stop_index_N ?_) | (with_reducible refine stop_index_V ?_) | (with_reducible refine stop_index_VV ?_) | (with_reducible refine stop_index_P ?_) | (with_reducible refine stop_index_O ?_) | (with_reducible refine stop_index_H ?_)  | (with_reducible refine stop_str_B ?_) | (with_reducible refine stop_mark_B ?_) | (with_reducible refine stop_buildSlice ?_))
        go_roundg (l.length - (j + 1) + 1)
        case measure => have := Hk.out; omega
        case rel => exact ⟨j + 1, by omega, by omega, by go_num, hb2, all_take_snoc hitRight l j y (by simpa using Hy.out) Hall.out hg⟩
      · rw [Bool.not_eq_true] at hg
        rw [hg]
        simp only [Bool.not_false]
        go_wp2_with (first | ((with_reducible apply wpList_unguard); rfl) | (with_reducible refine stop_make ?_) | ((with_reducible apply len_B); assumption) | ((with_reducible apply len_BB); assumption)  | ((with_reducible apply len_N); assumption) | ((with_reducible apply len_V); assumption) | ((with_reducible apply len_VV); assumption) | ((with_reducible apply len_P); assumption) | ((with_reducible apply len_O); assumption) | ((with_reducible apply len_H); assumption)  | (with_reducible refine stop_builtin ?_) | (with_reducible refine stop_slice ?_) | (with_reducible refine stop_index_B ?_) | (with_reducible refine stop_index_BB ?_)  | (with_reducible refine stop_index_N ?_) | (with_reducible refine stop_index_V ?_) | (with_reducible refine stop_index_VV ?_) | (with_reducible refine stop_index_P ?_) | (with_reducible refine stop_index_O ?_) | (with_reducible refine stop_index_H ?_)  | (with_reducible refine stop_str_B ?_) | (with_reducible refine stop_mark_B ?_) | (with_reducible refine stop_buildSlice ?_))
        go_ret
        exact ⟨_, rfl, by rw [all_falsified hitRight l j y (by simpa using Hy.out) hg]; simp, hb2⟩
    · rw [List.take_of_length_le (by omega)] at Hall
      go_wp2_with (first | ((with_reducible apply wpList_unguard); rfl) | (with_reducible refine stop_make ?_) | ((with_reducible apply len_B); assumption) | ((with_reducible apply len_BB); assumption)  | ((with_reducible apply len_N); assumption) | ((with_reducible apply len_V); assumption) | ((with_reducible apply len_VV); assumption) | ((with_reducible apply len_P); assumption) | ((with_reducible apply len_O); assumption) | ((with_reducible apply len_H); assumption)  | (with_reducible refine stop_builtin ?_) | (with_reducible refine stop_slice ?_) | (with_reducible refine stop_index_B ?_) | (with_reducible refine stop_index_BB ?_)  | (with_reducible refine stop_index_N ?_) | (with_reducible refine stop_index_V ?_) | (with_reducible refine stop_index_VV ?_) | (with_reducible refine stop_index_P ?_) | (with_reducible refine stop_index_O ?_) | (with_reducible refine stop_index_H ?_)  | (with_reducible refine stop_str_B ?_) | (with_reducible refine stop_mark_B ?_) | (with_reducible refine stop_buildSlice ?_))
      go_ret
      exact ⟨_, rfl, by rw [Hall.out]; simp, hb⟩

theorem contains_H (w : World) (S : Nat → Prop) (l : List HitR) (p : Value) (hp : Sl w S l p) :
    Calls Tryd.prog 65 #[p, .func (.func 66) #[] #[]] w fun e w' => e = .returned (.bool (!l.all hitRight)) ∧ Below w.heap.size w w' := by
  go_enter Tryd.func65, Tryd.ntmps65
  go_wp2_with (first | ((with_reducible apply wpList_unguard); rfl) | (with_reducible refine stop_make ?_) | ((with_reducible apply len_B); assumption) | ((with_reducible apply len_BB); assumption)  | ((with_reducible apply len_N); assumption) | ((with_reducible apply len_V); assumption) | ((with_reducible apply len_VV); assumption) | ((with_reducible apply len_P); assumption) | ((with_reducible apply len_O); assumption) | ((with_reducible apply len_H); assumption)  | (with_reducible refine stop_builtin ?_) | (with_reducible refine stop_slice ?_) | (with_reducible refine stop_index_B ?_) | (with_reducible refine stop_index_BB ?_)  | (with_reducible refine stop_index_N ?_) | (with_reducible refine stop_index_V ?_) | (with_reducible refine stop_index_VV ?_) | (with_reducible refine stop_index_P ?_) | (with_reducible refine stop_index_O ?_) | (with_reducible refine stop_index_H ?_)  | (with_reducible refine stop_str_B ?_) | (with_reducible refine stop_mark_B ?_) | (with_reducible refine stop_buildSlice ?_))
  refine (index_H w S l p hp).mono ?_
  rintro e w1 ⟨k, rfl, hk, hb⟩
  have Hk := Lib.hid hk
  clear hk
  go_wp2_with (first | ((with_reducible apply wpList_unguard); rfl) | (with_reducible refine stop_make ?_) | ((with_reducible apply len_B); assumption) | ((with_reducible apply len_BB); assumption)  | ((with_reducible apply len_N); assumption) | ((with_reducible apply len_V); assumption) | ((with_reducible apply len_VV); assumption) | ((with_reducible apply len_P); assumption) | ((with_reducible apply len_O); assumption) | ((with_reducible apply len_H); assumption)  | (with_reducible refine stop_builtin ?_) | (with_reducible refine stop_slice ?_) | (with_reducible refine stop_index_B ?_) | (with_reducible refine stop_index_BB ?_)  | (with_reducible refine stop_index_N ?_) | (with_reducible refine stop_index_V ?_) | (with_reducible refine stop_index_VV ?_) | (with_reducible refine stop_index_P ?_) | (with_reducible refine stop_index_O ?_) | (with_reducible refine stop_index_H ?_)  | (with_reducible refine stop_str_B ?_) | (with_reducible refine stop_mark_B ?_) | (with_reducible refine stop_buildSlice ?_))
  go_ret
  rw [← Hk.out]
  exact ⟨rfl, hb⟩
end Go.Proofs.YtnkbfelnggompaaDoor
