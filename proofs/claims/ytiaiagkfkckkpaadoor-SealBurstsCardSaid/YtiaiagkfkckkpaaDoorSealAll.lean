/- package seal: Open, All. -/
import Derived.Test.YtiaiagkfkckkpaaDoorSealNext
namespace Go.Proofs.YtiaiagkfkckkpaaDoor
open Go Go.RowKit Go.Arm

/-- Open -/
theorem sopen_any (w : World) (S : Nat → Prop) (l : List UInt8) (p : Value) (hN : Nib w) (hp : Sl w S l p) (hl : l.length ≤ 140737488355328) :
    Calls Tryd.prog 21 #[p] w fun e w' => ∃ v, e = .returned (.tuple #[v, .int .i64 (opened l).2]) ∧ Sl w' (fun b => w.heap.size ≤ b) (opened l).1 v ∧ Below w.heap.size w w' := by
  go_enter Tryd.func21, Tryd.ntmps21
  go_wp2_with (first | ((with_reducible apply wpList_unguard); rfl) | ((with_reducible apply len_B); assumption) | ((with_reducible apply len_BB); assumption)  | (with_reducible refine stop_builtin ?_) | (with_reducible refine stop_slice ?_) | (with_reducible refine stop_index_B ?_) | (with_reducible refine stop_index_BB ?_)  | (with_reducible refine stop_str_B ?_) | (with_reducible refine stop_mark_B ?_) | (with_reducible refine stop_buildSlice ?_))
  refine (snext_any w S l p hN hp hl).mono ?_
  rintro e w1 ⟨v1, v2, rfl, h1, h2, hb⟩
  by_cases hc : (next l).2.2 = 0
  · have ho : opened l = if 0 < (next l).2.1.length then ([], 4) else ((next l).1, 0) := by rw [opened, if_neg (by simpa using hc)]
    have Ho := Lib.hid ho
    rw [hc]
    clear ho hc
    by_cases hr : 0 < (next l).2.1.length
    · go_wp2_with (first | ((with_reducible apply wpList_unguard); rfl) | ((with_reducible apply len_B); assumption) | ((with_reducible apply len_BB); assumption)  | (with_reducible refine stop_builtin ?_) | (with_reducible refine stop_slice ?_) | (with_reducible refine stop_index_B ?_) | (with_reducible refine stop_index_BB ?_)  | (with_reducible refine stop_str_B ?_) | (with_reducible refine stop_mark_B ?_) | (with_reducible refine stop_buildSlice ?_))
      go_ret2
      exact ⟨_, by rw [Ho.out, if_pos hr]; rfl, by rw [Ho.out, if_pos hr]; exact Sl.nil _ _, hb⟩
    · go_wp2_with (first | ((with_reducible apply wpList_unguard); rfl) | ((with_reducible apply len_B); assumption) | ((with_reducible apply len_BB); assumption)  | (with_reducible refine stop_builtin ?_) | (with_reducible refine stop_slice ?_) | (with_reducible refine stop_index_B ?_) | (with_reducible refine stop_index_BB ?_)  | (with_reducible refine stop_str_B ?_) | (with_reducible refine stop_mark_B ?_) | (with_reducible refine stop_buildSlice ?_))
      go_ret2
      exact ⟨_, by rw [Ho.out, if_neg hr]; rfl, by rw [Ho.out, if_neg hr]; exact h1, hb⟩
  · have hn : ((next l).2.2 != 0) = true := by simpa using hc
    have ho : opened l = ([], (next l).2.2) := by rw [opened, if_pos hc]
    have Ho := Lib.hid ho
    clear hc ho
    go_wp2_with (first | ((with_reducible apply wpList_unguard); rfl) | ((with_reducible apply len_B); assumption) | ((with_reducible apply len_BB); assumption)  | (with_reducible refine stop_builtin ?_) | (with_reducible refine stop_slice ?_) | (with_reducible refine stop_index_B ?_) | (with_reducible refine stop_index_BB ?_)  | (with_reducible refine stop_str_B ?_) | (with_reducible refine stop_mark_B ?_) | (with_reducible refine stop_buildSlice ?_))
    go_ret2
    exact ⟨_, by rw [Ho.out]; rfl, by rw [Ho.out]; exact Sl.nil _ _, hb⟩

/-- All -/
theorem sall_any (w : World) (S : Nat → Prop) (l : List UInt8) (p : Value) (hN : Nib w) (hp : Sl w S l p) (hl : l.length ≤ 1000000) :
    Calls Tryd.prog 23 #[p] w fun e w' => ∃ v, e = .returned (.tuple #[v, .int .i64 ((l.length : Int) - (all l).2.length)]) ∧ OwnBB w' w.heap.size (all l).1 v ∧ Below w.heap.size w w' := by
  go_enter Tryd.func23, Tryd.ntmps23
  go_wp2_with (first | ((with_reducible apply wpList_unguard); rfl) | ((with_reducible apply len_B); assumption) | ((with_reducible apply len_BB); assumption)  | (with_reducible refine stop_builtin ?_) | (with_reducible refine stop_slice ?_) | (with_reducible refine stop_index_B ?_) | (with_reducible refine stop_index_BB ?_)  | (with_reducible refine stop_str_B ?_) | (with_reducible refine stop_mark_B ?_) | (with_reducible refine stop_buildSlice ?_))
  go_loopg [4, 5] (l.length + 1) (fun k v i wr => ∃ (at_ : Nat) (done : List (List UInt8)), k = l.length - at_ + 1 ∧ at_ ≤ l.length ∧ i = .int .i64 at_ ∧ OwnBB wr w.heap.size done v ∧ done ++ (all (l.drop at_)).1 = (all l).1 ∧ (all (l.drop at_)).2 = (all l).2 ∧ done.length ≤ at_ ∧ Below w.heap.size w wr)
  case atStart => exact ⟨0, [], by omega, by omega, rfl, OwnR.nil _ _ _, by simp, by simp, by simp, Below.refl _ _⟩
  case round =>
    obtain ⟨at_, done, hk, hat, rfl, hv, he1, he2, hlen, hb⟩ := hrel
    obtain ⟨cur, hcur⟩ : ∃ cur, cur = l.drop at_ := ⟨_, rfl⟩
    have hcl : cur.length = l.length - at_ := by rw [hcur, List.length_drop]
    rw [← hcur] at he1 he2
    have He1 := Lib.hid he1
    have He2 := Lib.hid he2
    have Hk := Lib.hid hk
    have Hcur := Lib.hid hcur
    have Hcl := Lib.hid hcl
    clear he1 he2 hk hcur hcl
    have hs := hb.size
    have hp1 := hp.below hb (Nat.le_refl _)
    have hN1 := hN.below hb (Nat.le_refl _)
    go_wp2_with (first | ((with_reducible apply wpList_unguard); rfl) | ((with_reducible apply len_B); assumption) | ((with_reducible apply len_BB); assumption)  | (with_reducible refine stop_builtin ?_) | (with_reducible refine stop_slice ?_) | (with_reducible refine stop_index_B ?_) | (with_reducible refine stop_index_BB ?_)  | (with_reducible refine stop_str_B ?_) | (with_reducible refine stop_mark_B ?_) | (with_reducible refine stop_buildSlice ?_))
    refine Stop.go (wpList_slice_l rowB hp1 rfl (by omega) (by omega) fun u hu => ?_)
    rw [show l.drop (Int.toNat (at_ : Int)) = cur by rw [Hcur.out]; simp] at hu
    go_wp2_with (first | ((with_reducible apply wpList_unguard); rfl) | ((with_reducible apply len_B); assumption) | ((with_reducible apply len_BB); assumption)  | (with_reducible refine stop_builtin ?_) | (with_reducible refine stop_slice ?_) | (with_reducible refine stop_index_B ?_) | (with_reducible refine stop_index_BB ?_)  | (with_reducible refine stop_str_B ?_) | (with_reducible refine stop_mark_B ?_) | (with_reducible refine stop_buildSlice ?_))
    refine (snext_any wr S cur _ hN1 hu (by have := Hcl.out; omega)).mono ?_
    rintro e w1 ⟨v1, v2, rfl, h1, h2, hb1⟩
    have hs1 := hb1.size
    have hv1 := hv.below hb1 (Nat.le_refl _)
    clear hp1 hN1
    by_cases hc : (next cur).2.2 = 0
    · have hnl := next_len cur hc
      have Hnl := Lib.hid hnl
      have Hc := Lib.hid hc
      have hbl : (next cur).1.length + 6 ≤ l.length - at_ := by have := Hcl.out; omega
      rw [hc]
      clear hnl hc
      go_wp2_with (first | ((with_reducible apply wpList_unguard); rfl) | ((with_reducible apply len_B); assumption) | ((with_reducible apply len_BB); assumption)  | (with_reducible refine stop_builtin ?_) | (with_reducible refine stop_slice ?_) | (with_reducible refine stop_index_B ?_) | (with_reducible refine stop_index_BB ?_)  | (with_reducible refine stop_str_B ?_) | (with_reducible refine stop_mark_B ?_) | (with_reducible refine stop_buildSlice ?_))
      refine Stop.go (push_BB (hv1 : OwnBB w1 _ _ _) (fun _ => rfl) (fun _ => rfl) h1 ?_ (by omega) (by omega) fun u' v' w2 h3 h4 h5 => ?_)
      · intro b hb hlt e
        have := (hv.ge b e).2
        omega
      have hs2 := h4.size
      have hb2 : Below w.heap.size w w2 := (hb.trans (hb1.mono hs)).grown h4 (by omega) (fun k hk => (hv.ge k hk).1)
      have h1' := h1.grown h4 (fun b hb e => by have := (hv.ge b e).2; omega)
      go_wp2_with (first | ((with_reducible apply wpList_unguard); rfl) | ((with_reducible apply len_B); assumption) | ((with_reducible apply len_BB); assumption)  | (with_reducible refine stop_builtin ?_) | (with_reducible refine stop_slice ?_) | (with_reducible refine stop_index_B ?_) | (with_reducible refine stop_index_BB ?_)  | (with_reducible refine stop_str_B ?_) | (with_reducible refine stop_mark_B ?_) | (with_reducible refine stop_buildSlice ?_))
      go_roundg (l.length - (at_ + (6 + (next cur).1.length)) + 1)
      case measure => have := Hk.out; omega
      case rel =>
        have hg := all_good cur Hc.out
        have hd : l.drop (at_ + (6 + (next cur).1.length)) = (next cur).2.1 := by rw [Hnl.out.2, Hcur.out, List.drop_drop]
        refine ⟨at_ + (6 + (next cur).1.length), _, rfl, by omega, by go_num, h3, by rw [hd, ← He1.out, hg]; simp, by rw [hd, ← He2.out, hg], by simp; omega, hb2⟩
    · have hn : ((next cur).2.2 != 0) = true := by simpa using hc
      have Hc := Lib.hid hc
      clear hc
      go_wp2_with (first | ((with_reducible apply wpList_unguard); rfl) | ((with_reducible apply len_B); assumption) | ((with_reducible apply len_BB); assumption)  | (with_reducible refine stop_builtin ?_) | (with_reducible refine stop_slice ?_) | (with_reducible refine stop_index_B ?_) | (with_reducible refine stop_index_BB ?_)  | (with_reducible refine stop_str_B ?_) | (with_reducible refine stop_mark_B ?_) | (with_reducible refine stop_buildSlice ?_))
      go_ret2
      have hg := all_bad cur Hc.out
      have e1 := He1.out
      have e2 := He2.out
      rw [hg] at e1 e2
      have e3 : ((l.length : Int) - (cur.length : Int)) = (at_ : Int) := by have := Hcl.out; omega
      refine ⟨_, by rw [← e2]; show _ = Ending.returned (.tuple #[_, .int .i64 ((l.length : Int) - (cur.length : Int))]); rw [e3]; rfl, by rw [← e1]; simpa using hv1, hb.trans (hb1.mono hs)⟩

end Go.Proofs.YtiaiagkfkckkpaaDoor
