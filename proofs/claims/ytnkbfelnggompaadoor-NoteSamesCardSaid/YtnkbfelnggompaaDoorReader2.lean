/- package scroll: the Reader: step, dead, Num, End, Left. -/
import Derived.Test.YtnkbfelnggompaaDoorReader
namespace Go.Arm
/-- What a Reader tells, and what it then has yet to read, with what went wrong. -/
def rnum (l : List UInt8) (e : Int) (most : Nat) : Nat × List UInt8 × Int :=
  if e ≠ 0 then (0, l, e) else if (taken l most).2.2 ≠ 0 then (0, l, (taken l most).2.2) else ((taken l most).1, (taken l most).2.1, 0)
def rend (l : List UInt8) (e : Int) : Int := if e ≠ 0 then e else if 0 < l.length then 4 else 0
end Go.Arm
namespace Go.Proofs.YtnkbfelnggompaaDoor
open Go Go.RowKit Go.Arm

theorem dead_any (w : World) (g : Nat) (S : Nat → Prop) (l : List UInt8) (e0 : Int) (hr : Rd w g S l e0) :
    Calls Tryd.prog 85 #[.pointer (some ⟨g, 0, none⟩)] w fun e w' => e = .returned (.bool (e0 != 0)) ∧ w = w' := by
  obtain ⟨v, a1, a2, a3⟩ := hr
  have c1 : w.cell? ⟨g, 1, none⟩ = some (.int .i64 e0) := by simp [World.cell?, a1]
  clear a1 a2 a3
  go_enter Tryd.func85, Tryd.ntmps85
  go_wp2_with (first | ((with_reducible apply wpList_unguard); rfl) | (with_reducible refine stop_make ?_) | ((with_reducible apply len_B); assumption) | ((with_reducible apply len_BB); assumption)  | ((with_reducible apply len_N); assumption) | ((with_reducible apply len_V); assumption) | ((with_reducible apply len_VV); assumption)  | (with_reducible refine stop_builtin ?_) | (with_reducible refine stop_slice ?_) | (with_reducible refine stop_index_B ?_) | (with_reducible refine stop_index_BB ?_)  | (with_reducible refine stop_index_N ?_) | (with_reducible refine stop_index_V ?_) | (with_reducible refine stop_index_VV ?_)  | (with_reducible refine stop_str_B ?_) | (with_reducible refine stop_mark_B ?_) | (with_reducible refine stop_buildSlice ?_))
  go_ret
  exact ⟨rfl, rfl⟩

theorem step_any (w : World) (g : Nat) (S : Nat → Prop) (l m : List UInt8) (p : Value) (e1 : Int) (hr : Rd w g S l 0) (hp : Sl w S m p) :
    Calls Tryd.prog 87 #[.pointer (some ⟨g, 0, none⟩), p, .int .i64 e1] w fun e w' => e = .returned (.bool (e1 == 0)) ∧ Rd w' g S (if e1 = 0 then m else l) e1 ∧ Only (· = g) w w' := by
  obtain ⟨L, hL⟩ : ∃ L, L = if e1 = 0 then m else l := ⟨_, rfl⟩
  rw [← hL]
  have HL := Lib.hid hL
  clear hL
  by_cases h0 : e1 = 0
  · subst h0
    obtain ⟨ao, nn, cap, rfl⟩ := Sl.shape hp
    have hLm : L = m := by
      have := HL.out
      rwa [if_pos rfl] at this
    subst hLm
    clear HL
    have hr' := hr
    obtain ⟨v, a1, a2, a3⟩ := hr'
    have c0 : w.cell? ⟨g, 0, none⟩ = some v := by simp [World.cell?, a1]
    have f0 : w.frozen? ⟨g, 0, none⟩ = false := by simp [World.frozen?, a1]
    have A1 := Lib.hid a1
    clear a1
    go_enter Tryd.func87, Tryd.ntmps87
    go_wp2_with (first | ((with_reducible apply wpList_unguard); rfl) | (with_reducible refine stop_make ?_) | ((with_reducible apply len_B); assumption) | ((with_reducible apply len_BB); assumption)  | ((with_reducible apply len_N); assumption) | ((with_reducible apply len_V); assumption) | ((with_reducible apply len_VV); assumption)  | (with_reducible refine stop_builtin ?_) | (with_reducible refine stop_slice ?_) | (with_reducible refine stop_index_B ?_) | (with_reducible refine stop_index_BB ?_)  | (with_reducible refine stop_index_N ?_) | (with_reducible refine stop_index_V ?_) | (with_reducible refine stop_index_VV ?_)  | (with_reducible refine stop_str_B ?_) | (with_reducible refine stop_mark_B ?_) | (with_reducible refine stop_buildSlice ?_))
    go_ret
    exact ⟨rfl, Rd.set_p A1.out hp a3, Only.of_set w ⟨g, 0, none⟩ _⟩
  · have hne : (e1 != 0) = true := by simpa using h0
    have heq : (e1 == 0) = false := beq_eq_false_iff_ne.2 h0
    rw [heq]
    go_enter Tryd.func87, Tryd.ntmps87
    go_wp2_with (first | ((with_reducible apply wpList_unguard); rfl) | (with_reducible refine stop_make ?_) | ((with_reducible apply len_B); assumption) | ((with_reducible apply len_BB); assumption)  | ((with_reducible apply len_N); assumption) | ((with_reducible apply len_V); assumption) | ((with_reducible apply len_VV); assumption)  | (with_reducible refine stop_builtin ?_) | (with_reducible refine stop_slice ?_) | (with_reducible refine stop_index_B ?_) | (with_reducible refine stop_index_BB ?_)  | (with_reducible refine stop_index_N ?_) | (with_reducible refine stop_index_V ?_) | (with_reducible refine stop_index_VV ?_)  | (with_reducible refine stop_str_B ?_) | (with_reducible refine stop_mark_B ?_) | (with_reducible refine stop_buildSlice ?_))
    refine (fail_any w g S l 0 e1 hr).mono ?_
    rintro e w1 ⟨⟨r, rfl⟩, h1, h2⟩
    rw [if_pos rfl] at h1
    go_wp2_with (first | ((with_reducible apply wpList_unguard); rfl) | (with_reducible refine stop_make ?_) | ((with_reducible apply len_B); assumption) | ((with_reducible apply len_BB); assumption)  | ((with_reducible apply len_N); assumption) | ((with_reducible apply len_V); assumption) | ((with_reducible apply len_VV); assumption)  | (with_reducible refine stop_builtin ?_) | (with_reducible refine stop_slice ?_) | (with_reducible refine stop_index_B ?_) | (with_reducible refine stop_index_BB ?_)  | (with_reducible refine stop_index_N ?_) | (with_reducible refine stop_index_V ?_) | (with_reducible refine stop_index_VV ?_)  | (with_reducible refine stop_str_B ?_) | (with_reducible refine stop_mark_B ?_) | (with_reducible refine stop_buildSlice ?_))
    go_ret
    have e := HL.out
    rw [if_neg h0] at e
    rw [e]
    exact ⟨rfl, h1, h2⟩

theorem num_any' (w : World) (g : Nat) (S : Nat → Prop) (l : List UInt8) (e0 : Int) (most : Nat) (hr : Rd w g S l e0) :
    Calls Tryd.prog 69 #[.pointer (some ⟨g, 0, none⟩), .int .u64 most] w fun e w' => e = .returned (.int .u64 (rnum l e0 most).1) ∧ Rd w' g S (rnum l e0 most).2.1 (rnum l e0 most).2.2 ∧ Only (· = g) w w' := by
  obtain ⟨R, hR⟩ : ∃ R, R = rnum l e0 most := ⟨_, rfl⟩
  rw [← hR]
  unfold rnum at hR
  have HR := Lib.hid hR
  clear hR
  by_cases h0 : e0 = 0
  · subst h0
    have hR : R = if (taken l most).2.2 ≠ 0 then (0, l, (taken l most).2.2) else ((taken l most).1, (taken l most).2.1, 0) := by
      have := HR.out
      rwa [if_neg (by decide)] at this
    have hr' := hr
    obtain ⟨v, a1, a2, a3⟩ := hr'
    have c0 : w.cell? ⟨g, 0, none⟩ = some v := by simp [World.cell?, a1]
    clear a1 HR
    obtain ⟨T, hT⟩ : ∃ T, T = taken l most := ⟨_, rfl⟩
    rw [← hT] at hR
    have HR := Lib.hid hR
    clear hR
    go_enter Tryd.func69, Tryd.ntmps69
    go_wp2_with (first | ((with_reducible apply wpList_unguard); rfl) | (with_reducible refine stop_make ?_) | ((with_reducible apply len_B); assumption) | ((with_reducible apply len_BB); assumption)  | ((with_reducible apply len_N); assumption) | ((with_reducible apply len_V); assumption) | ((with_reducible apply len_VV); assumption)  | (with_reducible refine stop_builtin ?_) | (with_reducible refine stop_slice ?_) | (with_reducible refine stop_index_B ?_) | (with_reducible refine stop_index_BB ?_)  | (with_reducible refine stop_index_N ?_) | (with_reducible refine stop_index_V ?_) | (with_reducible refine stop_index_VV ?_)  | (with_reducible refine stop_str_B ?_) | (with_reducible refine stop_mark_B ?_) | (with_reducible refine stop_buildSlice ?_))
    refine (dead_any w g S l 0 hr).mono ?_
    rintro e w1 ⟨rfl, rfl⟩
    rw [show ((0 : Int) != 0) = false by decide]
    go_wp2_with (first | ((with_reducible apply wpList_unguard); rfl) | (with_reducible refine stop_make ?_) | ((with_reducible apply len_B); assumption) | ((with_reducible apply len_BB); assumption)  | ((with_reducible apply len_N); assumption) | ((with_reducible apply len_V); assumption) | ((with_reducible apply len_VV); assumption)  | (with_reducible refine stop_builtin ?_) | (with_reducible refine stop_slice ?_) | (with_reducible refine stop_index_B ?_) | (with_reducible refine stop_index_BB ?_)  | (with_reducible refine stop_index_N ?_) | (with_reducible refine stop_index_V ?_) | (with_reducible refine stop_index_VV ?_)  | (with_reducible refine stop_str_B ?_) | (with_reducible refine stop_mark_B ?_) | (with_reducible refine stop_buildSlice ?_))
    refine (take_any w S l v most a2).mono ?_
    rintro e w1 ⟨u, nq, rfl, hu, rfl⟩
    rw [← hT] at hu ⊢
    clear hT
    go_wp2_with (first | ((with_reducible apply wpList_unguard); rfl) | (with_reducible refine stop_make ?_) | ((with_reducible apply len_B); assumption) | ((with_reducible apply len_BB); assumption)  | ((with_reducible apply len_N); assumption) | ((with_reducible apply len_V); assumption) | ((with_reducible apply len_VV); assumption)  | (with_reducible refine stop_builtin ?_) | (with_reducible refine stop_slice ?_) | (with_reducible refine stop_index_B ?_) | (with_reducible refine stop_index_BB ?_)  | (with_reducible refine stop_index_N ?_) | (with_reducible refine stop_index_V ?_) | (with_reducible refine stop_index_VV ?_)  | (with_reducible refine stop_str_B ?_) | (with_reducible refine stop_mark_B ?_) | (with_reducible refine stop_buildSlice ?_))
    refine (step_any (w.drewN nq) g S l T.2.1 u T.2.2 (hr.drewN nq) (hu.drewN nq)).mono ?_
    rintro e w2 ⟨rfl, h1, h2⟩
    have h2' := (Only.drewN (· = g) w nq).trans h2 (fun _ _ h => h)
    by_cases hE : T.2.2 = 0
    · rw [hE] at h1 ⊢
      rw [if_pos rfl] at h1
      rw [show ((0 : Int) == 0) = true by decide]
      have e := HR.out
      rw [if_neg (by simpa using hE)] at e
      have HE := Lib.hid e
      clear e hE HR
      go_wp2_with (first | ((with_reducible apply wpList_unguard); rfl) | (with_reducible refine stop_make ?_) | ((with_reducible apply len_B); assumption) | ((with_reducible apply len_BB); assumption)  | ((with_reducible apply len_N); assumption) | ((with_reducible apply len_V); assumption) | ((with_reducible apply len_VV); assumption)  | (with_reducible refine stop_builtin ?_) | (with_reducible refine stop_slice ?_) | (with_reducible refine stop_index_B ?_) | (with_reducible refine stop_index_BB ?_)  | (with_reducible refine stop_index_N ?_) | (with_reducible refine stop_index_V ?_) | (with_reducible refine stop_index_VV ?_)  | (with_reducible refine stop_str_B ?_) | (with_reducible refine stop_mark_B ?_) | (with_reducible refine stop_buildSlice ?_))
      go_ret
      rw [HE.out]
      exact ⟨rfl, h1, h2'⟩
    · rw [if_neg hE] at h1
      rw [show (T.2.2 == 0) = false from beq_eq_false_iff_ne.2 hE]
      have e := HR.out
      rw [if_pos hE] at e
      have HE := Lib.hid e
      clear e hE HR
      go_wp2_with (first | ((with_reducible apply wpList_unguard); rfl) | (with_reducible refine stop_make ?_) | ((with_reducible apply len_B); assumption) | ((with_reducible apply len_BB); assumption)  | ((with_reducible apply len_N); assumption) | ((with_reducible apply len_V); assumption) | ((with_reducible apply len_VV); assumption)  | (with_reducible refine stop_builtin ?_) | (with_reducible refine stop_slice ?_) | (with_reducible refine stop_index_B ?_) | (with_reducible refine stop_index_BB ?_)  | (with_reducible refine stop_index_N ?_) | (with_reducible refine stop_index_V ?_) | (with_reducible refine stop_index_VV ?_)  | (with_reducible refine stop_str_B ?_) | (with_reducible refine stop_mark_B ?_) | (with_reducible refine stop_buildSlice ?_))
      go_ret
      rw [HE.out]
      exact ⟨rfl, h1, h2'⟩
  · have hR := HR.out
    rw [if_pos h0] at hR
    have HR := Lib.hid hR
    clear hR
    go_enter Tryd.func69, Tryd.ntmps69
    go_wp2_with (first | ((with_reducible apply wpList_unguard); rfl) | (with_reducible refine stop_make ?_) | ((with_reducible apply len_B); assumption) | ((with_reducible apply len_BB); assumption)  | ((with_reducible apply len_N); assumption) | ((with_reducible apply len_V); assumption) | ((with_reducible apply len_VV); assumption)  | (with_reducible refine stop_builtin ?_) | (with_reducible refine stop_slice ?_) | (with_reducible refine stop_index_B ?_) | (with_reducible refine stop_index_BB ?_)  | (with_reducible refine stop_index_N ?_) | (with_reducible refine stop_index_V ?_) | (with_reducible refine stop_index_VV ?_)  | (with_reducible refine stop_str_B ?_) | (with_reducible refine stop_mark_B ?_) | (with_reducible refine stop_buildSlice ?_))
    refine (dead_any w g S l e0 hr).mono ?_
    rintro e w1 ⟨rfl, rfl⟩
    rw [show (e0 != 0) = true by simpa using h0]
    go_wp2_with (first | ((with_reducible apply wpList_unguard); rfl) | (with_reducible refine stop_make ?_) | ((with_reducible apply len_B); assumption) | ((with_reducible apply len_BB); assumption)  | ((with_reducible apply len_N); assumption) | ((with_reducible apply len_V); assumption) | ((with_reducible apply len_VV); assumption)  | (with_reducible refine stop_builtin ?_) | (with_reducible refine stop_slice ?_) | (with_reducible refine stop_index_B ?_) | (with_reducible refine stop_index_BB ?_)  | (with_reducible refine stop_index_N ?_) | (with_reducible refine stop_index_V ?_) | (with_reducible refine stop_index_VV ?_)  | (with_reducible refine stop_str_B ?_) | (with_reducible refine stop_mark_B ?_) | (with_reducible refine stop_buildSlice ?_))
    go_ret
    rw [HR.out]
    exact ⟨rfl, hr, Only.refl _ _⟩

theorem end_any (w : World) (g : Nat) (S : Nat → Prop) (l : List UInt8) (e0 : Int) (hr : Rd w g S l e0) :
    Calls Tryd.prog 45 #[.pointer (some ⟨g, 0, none⟩)] w fun e w' => e = .returned (.int .i64 (rend l e0)) ∧ w = w' := by
  obtain ⟨R, hR⟩ : ∃ R, R = rend l e0 := ⟨_, rfl⟩
  rw [← hR]
  unfold rend at hR
  have HR := Lib.hid hR
  clear hR
  obtain ⟨v, a1, a2, a3⟩ := hr
  have c0 : w.cell? ⟨g, 0, none⟩ = some v := by simp [World.cell?, a1]
  have c1 : w.cell? ⟨g, 1, none⟩ = some (.int .i64 e0) := by simp [World.cell?, a1]
  clear a1 a3
  by_cases h0 : e0 = 0
  · subst h0
    by_cases hl : 0 < l.length
    · go_enter Tryd.func45, Tryd.ntmps45
      go_wp2_with (first | ((with_reducible apply wpList_unguard); rfl) | (with_reducible refine stop_make ?_) | ((with_reducible apply len_B); assumption) | ((with_reducible apply len_BB); assumption)  | ((with_reducible apply len_N); assumption) | ((with_reducible apply len_V); assumption) | ((with_reducible apply len_VV); assumption)  | (with_reducible refine stop_builtin ?_) | (with_reducible refine stop_slice ?_) | (with_reducible refine stop_index_B ?_) | (with_reducible refine stop_index_BB ?_)  | (with_reducible refine stop_index_N ?_) | (with_reducible refine stop_index_V ?_) | (with_reducible refine stop_index_VV ?_)  | (with_reducible refine stop_str_B ?_) | (with_reducible refine stop_mark_B ?_) | (with_reducible refine stop_buildSlice ?_))
      go_ret
      have e := HR.out
      rw [if_neg (by decide), if_pos hl] at e
      rw [e]
      exact ⟨rfl, rfl⟩
    · go_enter Tryd.func45, Tryd.ntmps45
      go_wp2_with (first | ((with_reducible apply wpList_unguard); rfl) | (with_reducible refine stop_make ?_) | ((with_reducible apply len_B); assumption) | ((with_reducible apply len_BB); assumption)  | ((with_reducible apply len_N); assumption) | ((with_reducible apply len_V); assumption) | ((with_reducible apply len_VV); assumption)  | (with_reducible refine stop_builtin ?_) | (with_reducible refine stop_slice ?_) | (with_reducible refine stop_index_B ?_) | (with_reducible refine stop_index_BB ?_)  | (with_reducible refine stop_index_N ?_) | (with_reducible refine stop_index_V ?_) | (with_reducible refine stop_index_VV ?_)  | (with_reducible refine stop_str_B ?_) | (with_reducible refine stop_mark_B ?_) | (with_reducible refine stop_buildSlice ?_))
      go_ret
      have e := HR.out
      rw [if_neg (by decide), if_neg hl] at e
      rw [e]
      exact ⟨rfl, rfl⟩
  · have hne : (e0 != 0) = true := by simpa using h0
    go_enter Tryd.func45, Tryd.ntmps45
    go_wp2_with (first | ((with_reducible apply wpList_unguard); rfl) | (with_reducible refine stop_make ?_) | ((with_reducible apply len_B); assumption) | ((with_reducible apply len_BB); assumption)  | ((with_reducible apply len_N); assumption) | ((with_reducible apply len_V); assumption) | ((with_reducible apply len_VV); assumption)  | (with_reducible refine stop_builtin ?_) | (with_reducible refine stop_slice ?_) | (with_reducible refine stop_index_B ?_) | (with_reducible refine stop_index_BB ?_)  | (with_reducible refine stop_index_N ?_) | (with_reducible refine stop_index_V ?_) | (with_reducible refine stop_index_VV ?_)  | (with_reducible refine stop_str_B ?_) | (with_reducible refine stop_mark_B ?_) | (with_reducible refine stop_buildSlice ?_))
    go_ret
    have e := HR.out
    rw [if_pos h0] at e
    rw [e]
    exact ⟨rfl, rfl⟩
end Go.Proofs.YtnkbfelnggompaaDoor
