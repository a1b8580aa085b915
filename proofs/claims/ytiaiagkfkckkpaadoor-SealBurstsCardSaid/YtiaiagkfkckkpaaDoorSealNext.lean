/- package seal: Next, Open, All. -/
import Derived.Test.YtiaiagkfkckkpaaDoorSeal
namespace Go.Proofs.YtiaiagkfkckkpaaDoor
open Go Go.RowKit Go.Arm

/-- Next -/
theorem snext_any (w : World) (S : Nat → Prop) (l : List UInt8) (p : Value) (hN : Nib w) (hp : Sl w S l p) (hl : l.length ≤ 140737488355328) :
    Calls Tryd.prog 19 #[p] w (NextPost w l) := by
  by_cases h6 : l.length < 6
  · go_enter Tryd.func19, Tryd.ntmps19
    go_wp2_with (first | ((with_reducible apply wpList_unguard); rfl) | ((with_reducible apply len_B); assumption) | ((with_reducible apply len_BB); assumption)  | (with_reducible refine stop_builtin ?_) | (with_reducible refine stop_slice ?_) | (with_reducible refine stop_index_B ?_) | (with_reducible refine stop_index_BB ?_)  | (with_reducible refine stop_str_B ?_) | (with_reducible refine stop_mark_B ?_) | (with_reducible refine stop_buildSlice ?_))
    go_ret3
    exact NextPost.bad (by rw [next, if_pos h6]) (Below.refl _ _)
  · obtain ⟨b4, o4, y4, hy4, hx4, hc4⟩ := hp.index_run (P := Tryd.prog) rowB .i64 4 (by omega) (by omega)
    obtain ⟨b5, o5, y5, hy5, hx5, hc5⟩ := hp.index_run (P := Tryd.prog) rowB .i64 5 (by omega) (by omega)
    obtain ⟨n, hn⟩ : ∃ n, n = num ((l.take 6).drop 4) := ⟨_, rfl⟩
    have hn' : n = y4.toNat + 256 * y5.toNat := by rw [hn, num_two l 4 y4 y5 hy4 hy5]
    have hb4 := y4.toNat_lt
    have hb5 := y5.toNat_lt
    have Hn := Lib.hid hn
    have Hn' := Lib.hid hn'
    clear hn hn' hy4 hy5
    go_enter Tryd.func19, Tryd.ntmps19
    go_wp2_with (first | ((with_reducible apply wpList_unguard); rfl) | ((with_reducible apply len_B); assumption) | ((with_reducible apply len_BB); assumption)  | (with_reducible refine stop_builtin ?_) | (with_reducible refine stop_slice ?_) | (with_reducible refine stop_index_B ?_) | (with_reducible refine stop_index_BB ?_)  | (with_reducible refine stop_str_B ?_) | (with_reducible refine stop_mark_B ?_) | (with_reducible refine stop_buildSlice ?_))
    go_quiet (fail)
    rw [or_two, ← Hn'.out]
    have hn2 : n < 65536 := by have := Hn'.out; omega
    have hbd := below_draws w.heap.size w nq
    have hp1 := hp.drewN nq
    have hN1 := hN.drewN nq
    have hz1 : w.heap.size = (w.drewN nq).heap.size := rfl
    generalize w.drewN nq = w1 at *
    clear hx4 hx5 hc4 hc5 hb4 hb5 hp hN
    by_cases hbig : 4096 < n
    · go_wp2_with (first | ((with_reducible apply wpList_unguard); rfl) | ((with_reducible apply len_B); assumption) | ((with_reducible apply len_BB); assumption)  | (with_reducible refine stop_builtin ?_) | (with_reducible refine stop_slice ?_) | (with_reducible refine stop_index_B ?_) | (with_reducible refine stop_index_BB ?_)  | (with_reducible refine stop_str_B ?_) | (with_reducible refine stop_mark_B ?_) | (with_reducible refine stop_buildSlice ?_))
      go_ret3
      exact NextPost.bad (by rw [next, if_neg h6, ← Hn.out, if_pos hbig]) hbd
    · by_cases hsh : l.length < 6 + n
      · go_wp2_with (first | ((with_reducible apply wpList_unguard); rfl) | ((with_reducible apply len_B); assumption) | ((with_reducible apply len_BB); assumption)  | (with_reducible refine stop_builtin ?_) | (with_reducible refine stop_slice ?_) | (with_reducible refine stop_index_B ?_) | (with_reducible refine stop_index_BB ?_)  | (with_reducible refine stop_str_B ?_) | (with_reducible refine stop_mark_B ?_) | (with_reducible refine stop_buildSlice ?_))
        go_ret3
        exact NextPost.bad (by rw [next, if_neg h6, ← Hn.out, if_neg hbig, if_pos hsh]) hbd
      · obtain ⟨b0, o0, y0, hy0, hx0, hc0⟩ := hp1.index_run (P := Tryd.prog) rowB .i64 0 (by omega) (by omega)
        obtain ⟨b1, o1, y1, hy1, hx1, hc1⟩ := hp1.index_run (P := Tryd.prog) rowB .i64 1 (by omega) (by omega)
        obtain ⟨b2, o2, y2, hy2, hx2, hc2⟩ := hp1.index_run (P := Tryd.prog) rowB .i64 2 (by omega) (by omega)
        obtain ⟨b3, o3, y3, hy3, hx3, hc3⟩ := hp1.index_run (P := Tryd.prog) rowB .i64 3 (by omega) (by omega)
        have Hm := Lib.hid (num_four l y0 y1 y2 y3 hy0 hy1 hy2 hy3)
        have g0 := y0.toNat_lt
        have g1 := y1.toNat_lt
        have g2 := y2.toNat_lt
        have g3 := y3.toNat_lt
        clear hy0 hy1 hy2 hy3
        go_wp2_with (first | ((with_reducible apply wpList_unguard); rfl) | ((with_reducible apply len_B); assumption) | ((with_reducible apply len_BB); assumption)  | (with_reducible refine stop_builtin ?_) | (with_reducible refine stop_slice ?_) | (with_reducible refine stop_index_B ?_) | (with_reducible refine stop_index_BB ?_)  | (with_reducible refine stop_str_B ?_) | (with_reducible refine stop_mark_B ?_) | (with_reducible refine stop_buildSlice ?_))
        go_quiet (fail)
        rw [or_four, ← Hm.out]
        have hbd2 := below_draws w1.heap.size w1 nq
        have hp2 := hp1.drewN nq
        have hN2 := hN1.drewN nq
        have hz2 : w1.heap.size = (w1.drewN nq).heap.size := rfl
        generalize w1.drewN nq = w2 at *
        have hb2 := hbd.trans (hbd2.mono (by omega))
        clear hx0 hx1 hx2 hx3 hc0 hc1 hc2 hc3 g0 g1 g2 g3 hp1 hN1 hbd hbd2
        obtain ⟨m1, hm1⟩ : ∃ m1, m1 = num (l.take 4) := ⟨_, rfl⟩
        rw [← hm1]
        have Hm1 := Lib.hid hm1
        clear hm1
        go_wp2_with (first | ((with_reducible apply wpList_unguard); rfl) | ((with_reducible apply len_B); assumption) | ((with_reducible apply len_BB); assumption)  | (with_reducible refine stop_builtin ?_) | (with_reducible refine stop_slice ?_) | (with_reducible refine stop_index_B ?_) | (with_reducible refine stop_index_BB ?_)  | (with_reducible refine stop_str_B ?_) | (with_reducible refine stop_mark_B ?_) | (with_reducible refine stop_buildSlice ?_))
        refine Stop.go (wpList_slice_lh rowB hp2 rfl rfl (by omega) (by omega) (by omega) fun u hu => ?_)
        rw [show (List.drop (Int.toNat 4) (List.take (Int.toNat (6 + (n : Int))) l)) = (l.take (6 + n)).drop 4 by rw [show Int.toNat (6 + (n : Int)) = 6 + n by omega]; rfl] at hu
        go_wp2_with (first | ((with_reducible apply wpList_unguard); rfl) | ((with_reducible apply len_B); assumption) | ((with_reducible apply len_BB); assumption)  | (with_reducible refine stop_builtin ?_) | (with_reducible refine stop_slice ?_) | (with_reducible refine stop_index_B ?_) | (with_reducible refine stop_index_BB ?_)  | (with_reducible refine stop_str_B ?_) | (with_reducible refine stop_mark_B ?_) | (with_reducible refine stop_buildSlice ?_))
        refine Stop.go (build_BB (S := S) [(l.take (6 + n)).drop 4] [u] rfl rfl (rds_cons hu rds_nil) (by simp) fun q w3 k1 k2 k3 k4 => ?_)
        have hs3 := k2.size
        have hp3 := hp2.grown0 k2
        have hN3 := hN2.grown k2 (by simp)
        have hb3 := hb2.grown0 k2 (by omega)
        go_wp2_with (first | ((with_reducible apply wpList_unguard); rfl) | ((with_reducible apply len_B); assumption) | ((with_reducible apply len_BB); assumption)  | (with_reducible refine stop_builtin ?_) | (with_reducible refine stop_slice ?_) | (with_reducible refine stop_index_B ?_) | (with_reducible refine stop_index_BB ?_)  | (with_reducible refine stop_str_B ?_) | (with_reducible refine stop_mark_B ?_) | (with_reducible refine stop_buildSlice ?_))
        refine (ssum_any w3 _ _ q hN3 k1.slGe).mono ?_
        rintro e w4 ⟨rfl, rfl⟩
        rw [show [(l.take (6 + n)).drop 4].flatten = (l.take (6 + n)).drop 4 by simp]
        obtain ⟨s1, hs1'⟩ : ∃ s1, s1 = (sum ((l.take (6 + n)).drop 4)).toNat := ⟨_, rfl⟩
        rw [← hs1']
        have Hs1 := Lib.hid hs1'
        clear hs1'
        by_cases hsum : s1 = m1
        · have hc : ((s1 : Int) != (m1 : Int)) = false := by simp [hsum]
          have Hsum := Lib.hid hsum
          clear hsum hu k1 k3 k4 k2
          obtain ⟨v3, hv3, hs3'⟩ := hp3.slice_run (P := Tryd.prog) rowB .i64 .i64 6 (6 + n) (by omega) (by omega) (by omega)
          obtain ⟨v4, hv4, hs4⟩ := hp3.slice_run_l (P := Tryd.prog) rowB .i64 (6 + n) (by omega) (by omega)
          go_wp2_with (first | ((with_reducible apply wpList_unguard); rfl) | ((with_reducible apply len_B); assumption) | ((with_reducible apply len_BB); assumption)  | (with_reducible refine stop_builtin ?_) | (with_reducible refine stop_slice ?_) | (with_reducible refine stop_index_B ?_) | (with_reducible refine stop_index_BB ?_)  | (with_reducible refine stop_str_B ?_) | (with_reducible refine stop_mark_B ?_) | (with_reducible refine stop_buildSlice ?_))
          have hw1 : IntKind.i64.wrap (6 + (n : Int)) = 6 + n := IntWalk.i64_in _ (by omega)
          go_region_with (first
            | (go_at_call_of 27 v3; refine (clone_any w3.drew S _ v3 hs3'.drew (by simp; omega)).mono ?_; rintro e w5 ⟨u3, rfl, hu3, hb5⟩; have hs4' := hs4.drew.below hb5 (Nat.le_refl _))
            | (go_at_call_of 27 v4; refine (clone_any _ S _ v4 hs4' (by simp; omega)).mono ?_; rintro e w6 ⟨u4, rfl, hu4, hb6⟩))
          all_goals
            go_wp2_with (first | ((with_reducible apply wpList_unguard); rfl) | ((with_reducible apply len_B); assumption) | ((with_reducible apply len_BB); assumption)  | (with_reducible refine stop_builtin ?_) | (with_reducible refine stop_slice ?_) | (with_reducible refine stop_index_B ?_) | (with_reducible refine stop_index_BB ?_)  | (with_reducible refine stop_str_B ?_) | (with_reducible refine stop_mark_B ?_) | (with_reducible refine stop_buildSlice ?_))
            go_ret3
            have hnx : next l = ((l.take (6 + n)).drop 6, l.drop (6 + n), 0) := by
              rw [next, if_neg h6, ← Hn.out, if_neg hbig, if_neg hsh, ← Hs1.out, ← Hm1.out, if_neg (by have := Hsum.out; omega)]
            have z5 := hb5.size
            have z6 := hb6.size
            have e1 : (6 + (n : Int)).toNat = 6 + n := by omega
            rw [e1] at hu3 hu4
            simp at z5
            refine ⟨u3, u4, by rw [hnx]; rfl, ?_, ?_, ?_⟩
            · rw [hnx]; exact ((hu3.below hb6 (Nat.le_refl _)).sl').wide fun b hb _ => by simp at hb ⊢; omega
            · rw [hnx]; exact hu4.sl'.wide fun b hb _ => by omega
            · exact (hb3.drew.trans (hb5.mono (by simp; omega))).trans (hb6.mono (by omega))
        · have hc : ((s1 : Int) != (m1 : Int)) = true := by simp; omega
          go_wp2_with (first | ((with_reducible apply wpList_unguard); rfl) | ((with_reducible apply len_B); assumption) | ((with_reducible apply len_BB); assumption)  | (with_reducible refine stop_builtin ?_) | (with_reducible refine stop_slice ?_) | (with_reducible refine stop_index_B ?_) | (with_reducible refine stop_index_BB ?_)  | (with_reducible refine stop_str_B ?_) | (with_reducible refine stop_mark_B ?_) | (with_reducible refine stop_buildSlice ?_))
          go_ret3
          exact NextPost.bad (by rw [next, if_neg h6, ← Hn.out, if_neg hbig, if_neg hsh, ← Hs1.out, ← Hm1.out, if_pos hsum]) hb3

end Go.Proofs.YtiaiagkfkckkpaaDoor
