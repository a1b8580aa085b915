/- package scroll: take. -/
import Derived.Test.YtnkbfelnggompaaDoorPeek
namespace Go.Arm
/-- The next number, at most so great; what stands behind; the error. -/
def taken (l : List UInt8) (most : Nat) : Nat × List UInt8 × Int :=
  if (peek l).2.2 ≠ 0 then (0, [], (peek l).2.2) else if most < (peek l).1 then (0, [], 3) else ((peek l).1, l.drop (peek l).2.1, 0)
end Go.Arm
namespace Go.Proofs.YtnkbfelnggompaaDoor
open Go Go.RowKit Go.Arm

set_option maxRecDepth 100000 in
theorem take_any (w : World) (S : Nat → Prop) (l : List UInt8) (p : Value) (most : Nat) (hp : Sl w S l p) :
    Calls Tryd.prog 86 #[p, .int .u64 most] w fun e w' => ∃ v nq, e = .returned (.tuple #[.int .u64 (taken l most).1, v, .int .i64 (taken l most).2.2]) ∧ Sl w S (taken l most).2.1 v ∧ w' = w.drewN nq := by
  have hm : l.length ≤ 9223372036854775807 := hp.length_le
  have hsz := peek_size l
  obtain ⟨T, hT⟩ : ∃ T, T = taken l most := ⟨_, rfl⟩
  rw [← hT]
  unfold taken at hT
  have HT := Lib.hid hT
  clear hT
  go_enter Tryd.func86, Tryd.ntmps86
  go_wp2_with (first | ((with_reducible apply wpList_unguard); rfl) | (with_reducible refine stop_make ?_) | ((with_reducible apply len_B); assumption) | ((with_reducible apply len_BB); assumption)  | ((with_reducible apply len_N); assumption) | ((with_reducible apply len_V); assumption) | ((with_reducible apply len_VV); assumption)  | (with_reducible refine stop_builtin ?_) | (with_reducible refine stop_slice ?_) | (with_reducible refine stop_index_B ?_) | (with_reducible refine stop_index_BB ?_)  | (with_reducible refine stop_index_N ?_) | (with_reducible refine stop_index_V ?_) | (with_reducible refine stop_index_VV ?_)  | (with_reducible refine stop_str_B ?_) | (with_reducible refine stop_mark_B ?_) | (with_reducible refine stop_buildSlice ?_))
  refine (peek_any w S l p hp).mono ?_
  rintro e w1 ⟨rfl, rfl⟩
  have HT := HT
  obtain ⟨n, hn⟩ : ∃ n, n = (peek l).1 := ⟨_, rfl⟩
  obtain ⟨s, hs⟩ : ∃ s, s = (peek l).2.1 := ⟨_, rfl⟩
  obtain ⟨E, hE⟩ : ∃ E, E = (peek l).2.2 := ⟨_, rfl⟩
  have hT := HT.out
  rw [← hn, ← hs, ← hE] at hT ⊢
  rw [← hs] at hsz
  have HT2 := Lib.hid hT
  clear hT hn hs hE HT
  by_cases h0 : E = 0
  · subst h0
    by_cases hmo : most < n
    · go_wp2_with (first | ((with_reducible apply wpList_unguard); rfl) | (with_reducible refine stop_make ?_) | ((with_reducible apply len_B); assumption) | ((with_reducible apply len_BB); assumption)  | ((with_reducible apply len_N); assumption) | ((with_reducible apply len_V); assumption) | ((with_reducible apply len_VV); assumption)  | (with_reducible refine stop_builtin ?_) | (with_reducible refine stop_slice ?_) | (with_reducible refine stop_index_B ?_) | (with_reducible refine stop_index_BB ?_)  | (with_reducible refine stop_index_N ?_) | (with_reducible refine stop_index_V ?_) | (with_reducible refine stop_index_VV ?_)  | (with_reducible refine stop_str_B ?_) | (with_reducible refine stop_mark_B ?_) | (with_reducible refine stop_buildSlice ?_))
      go_ret3
      have e := HT2.out
      rw [if_neg (by decide), if_pos hmo] at e
      rw [e]
      exact ⟨_, 0, rfl, Sl.nil _ _, rfl⟩
    · obtain ⟨v1, hv1, hs1⟩ := hp.slice_run_l (P := Tryd.prog) rowB .i64 s (by omega) (by omega)
      go_wp2_with (first | ((with_reducible apply wpList_unguard); rfl) | (with_reducible refine stop_make ?_) | ((with_reducible apply len_B); assumption) | ((with_reducible apply len_BB); assumption)  | ((with_reducible apply len_N); assumption) | ((with_reducible apply len_V); assumption) | ((with_reducible apply len_VV); assumption)  | (with_reducible refine stop_builtin ?_) | (with_reducible refine stop_slice ?_) | (with_reducible refine stop_index_B ?_) | (with_reducible refine stop_index_BB ?_)  | (with_reducible refine stop_index_N ?_) | (with_reducible refine stop_index_V ?_) | (with_reducible refine stop_index_VV ?_)  | (with_reducible refine stop_str_B ?_) | (with_reducible refine stop_mark_B ?_) | (with_reducible refine stop_buildSlice ?_))
      go_quiet (fail)
      go_wp2_with (first | ((with_reducible apply wpList_unguard); rfl) | (with_reducible refine stop_make ?_) | ((with_reducible apply len_B); assumption) | ((with_reducible apply len_BB); assumption)  | ((with_reducible apply len_N); assumption) | ((with_reducible apply len_V); assumption) | ((with_reducible apply len_VV); assumption)  | (with_reducible refine stop_builtin ?_) | (with_reducible refine stop_slice ?_) | (with_reducible refine stop_index_B ?_) | (with_reducible refine stop_index_BB ?_)  | (with_reducible refine stop_index_N ?_) | (with_reducible refine stop_index_V ?_) | (with_reducible refine stop_index_VV ?_)  | (with_reducible refine stop_str_B ?_) | (with_reducible refine stop_mark_B ?_) | (with_reducible refine stop_buildSlice ?_))
      go_ret3
      have e := HT2.out
      rw [if_neg (by decide), if_neg hmo] at e
      rw [e]
      exact ⟨_, nq, rfl, hs1, rfl⟩
  · have hne : (E != 0) = true := by simpa using h0
    go_wp2_with (first | ((with_reducible apply wpList_unguard); rfl) | (with_reducible refine stop_make ?_) | ((with_reducible apply len_B); assumption) | ((with_reducible apply len_BB); assumption)  | ((with_reducible apply len_N); assumption) | ((with_reducible apply len_V); assumption) | ((with_reducible apply len_VV); assumption)  | (with_reducible refine stop_builtin ?_) | (with_reducible refine stop_slice ?_) | (with_reducible refine stop_index_B ?_) | (with_reducible refine stop_index_BB ?_)  | (with_reducible refine stop_index_N ?_) | (with_reducible refine stop_index_V ?_) | (with_reducible refine stop_index_VV ?_)  | (with_reducible refine stop_str_B ?_) | (with_reducible refine stop_mark_B ?_) | (with_reducible refine stop_buildSlice ?_))
    go_ret3
    have e := HT2.out
    rw [if_pos h0] at e
    rw [e]
    exact ⟨_, 0, rfl, Sl.nil _ _, rfl⟩
end Go.Proofs.YtnkbfelnggompaaDoor
