/- bytes.Clone. -/
import Derived.Test.YtnkbfelnggompaaDoorKit
import Derived.Test.YtnkbfelnggompaaDoorBits
namespace Go.Proofs.YtnkbfelnggompaaDoor
open Go Go.RowKit Go.Arm

/-- bytes.Clone -/
theorem clone_any (w : World) (S : Nat → Prop) (l : List UInt8) (p : Value) (hp : Sl w S l p) (hl : l.length ≤ 140737488355328) :
    Calls Tryd.prog 78 #[p] w fun e w' => ∃ v, e = .returned v ∧ OwnB w' w.heap.size l v ∧ Below w.heap.size w w' := by
  obtain ⟨ao, cap, cs, rfl, g1, g2, g3, g4, g5, g6⟩ := hp
  cases ao with
  | none =>
    obtain rfl := g3 rfl
    obtain rfl : l = [] := List.eq_nil_of_length_eq_zero (by omega)
    change Calls _ _ #[.slice none 0 0] _ _
    have hq := fun w => Lib.run_eql_slice_nil (P := Tryd.prog) w 45 5 none 0 0 0 0 Tryd.underlying45
    go_enter Tryd.func78, Tryd.ntmps78
    go_wp2_with (first | ((with_reducible apply wpList_unguard); rfl) | ((with_reducible apply len_B); assumption) | ((with_reducible apply len_BB); assumption)  | (with_reducible refine stop_builtin ?_) | (with_reducible refine stop_slice ?_) | (with_reducible refine stop_index_B ?_) | (with_reducible refine stop_index_BB ?_)  | (with_reducible refine stop_str_B ?_) | (with_reducible refine stop_mark_B ?_) | (with_reducible refine stop_buildSlice ?_))
    go_ret
    exact ⟨_, rfl, Own.nil _ _ _ _, Below.refl _ _⟩
  | some ad =>
    have hp : Sl w S l (.slice (some ad) l.length cap) := ⟨some ad, cap, cs, rfl, g1, g2, g3, g4, g5, g6⟩
    clear g1 g2 g3 g4 g5 g6
    have hq := fun w => Lib.run_eql_slice_nil (P := Tryd.prog) w 45 5 (some ad) l.length cap 0 0 Tryd.underlying45
    go_enter Tryd.func78, Tryd.ntmps78
    go_wp2_with (first | ((with_reducible apply wpList_unguard); rfl) | ((with_reducible apply len_B); assumption) | ((with_reducible apply len_BB); assumption)  | (with_reducible refine stop_builtin ?_) | (with_reducible refine stop_slice ?_) | (with_reducible refine stop_index_B ?_) | (with_reducible refine stop_index_BB ?_)  | (with_reducible refine stop_str_B ?_) | (with_reducible refine stop_mark_B ?_) | (with_reducible refine stop_buildSlice ?_))
    refine Stop.go (empty_B fun v hv1 hv2 => ?_)
    have hb0 := (Below.refl w.heap.size w).alloc (Nat.le_refl _) (.cells #[] 5)
    have hp1 := hp.below hb0 (Nat.le_refl _)
    generalize w.alloc (.cells #[] 5) = w1 at *
    go_wp2_with (first | ((with_reducible apply wpList_unguard); rfl) | ((with_reducible apply len_B); assumption) | ((with_reducible apply len_BB); assumption)  | (with_reducible refine stop_builtin ?_) | (with_reducible refine stop_slice ?_) | (with_reducible refine stop_index_B ?_) | (with_reducible refine stop_index_BB ?_)  | (with_reducible refine stop_str_B ?_) | (with_reducible refine stop_mark_B ?_) | (with_reducible refine stop_buildSlice ?_))
    refine Stop.go (app_B (l := []) hv1 hp1 (by simpa using hl) hb0.size fun v' w2 h1 h2 h3 => ?_)
    have hb1 := hb0.grown h2 hb0.size (fun k hk => (hv1.ge k hk).1)
    go_wp2_with (first | ((with_reducible apply wpList_unguard); rfl) | ((with_reducible apply len_B); assumption) | ((with_reducible apply len_BB); assumption)  | (with_reducible refine stop_builtin ?_) | (with_reducible refine stop_slice ?_) | (with_reducible refine stop_index_B ?_) | (with_reducible refine stop_index_BB ?_)  | (with_reducible refine stop_str_B ?_) | (with_reducible refine stop_mark_B ?_) | (with_reducible refine stop_buildSlice ?_))
    go_ret
    exact ⟨v', rfl, by simpa using h1, hb1⟩

end Go.Proofs.YtnkbfelnggompaaDoor
