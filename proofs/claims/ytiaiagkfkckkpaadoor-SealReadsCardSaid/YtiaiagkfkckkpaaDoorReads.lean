/- SealReads: the walk. -/
import Derived.Test.YtiaiagkfkckkpaaDoorLaw01a
import Derived.Test.YtiaiagkfkckkpaaDoorSealMath
import Derived.Test.YtiaiagkfkckkpaaDoorWide
namespace Go.Proofs.YtiaiagkfkckkpaaDoor
open Go Go.RowKit Go.Arm

theorem sealReads_true (w : World) {l : List UInt8} {p : Value} (hN : Nib w) (hp : Sl w (· < w.heap.size) l p) :
    Calls Tryd.prog 5 #[p] w fun e w' => e = .returned (.bool true) ∧ Below w.heap.size w w' := by
  go_enter Tryd.func5, Tryd.ntmps5
  go_wp2_with (first | ((with_reducible apply wpList_unguard); rfl) | ((with_reducible apply len_B); assumption) | ((with_reducible apply len_BB); assumption)  | (with_reducible refine stop_builtin ?_) | (with_reducible refine stop_slice ?_) | (with_reducible refine stop_index_B ?_) | (with_reducible refine stop_index_BB ?_)  | (with_reducible refine stop_str_B ?_) | (with_reducible refine stop_mark_B ?_) | (with_reducible refine stop_buildSlice ?_))
  refine (awake_any w hN).mono ?_
  rintro e w1 ⟨rfl, hb1⟩
  have hN1 := hN.below hb1 (Nat.le_refl _)
  have hp1 := hp.below hb1 (Nat.le_refl _)
  have hs1 := hb1.size
  go_wp2_with (first | ((with_reducible apply wpList_unguard); rfl) | ((with_reducible apply len_B); assumption) | ((with_reducible apply len_BB); assumption)  | (with_reducible refine stop_builtin ?_) | (with_reducible refine stop_slice ?_) | (with_reducible refine stop_index_B ?_) | (with_reducible refine stop_index_BB ?_)  | (with_reducible refine stop_str_B ?_) | (with_reducible refine stop_mark_B ?_) | (with_reducible refine stop_buildSlice ?_))
  refine (cut_any w1 _ l p 5000 hp1 (by omega) (by omega)).mono ?_
  rintro e w2 ⟨c, rfl, hc, hb2⟩
  obtain ⟨m, hm⟩ : ∃ m, m = l.take (Int.toNat 5000) := ⟨_, rfl⟩
  have hml : m.length ≤ 5000 := by rw [hm]; simp; omega
  rw [← hm] at hc
  have hb2' := hb1.trans (hb2.mono hs1)
  have hs2 := hb2'.size
  have hN2 := hN1.below hb2 (Nat.le_refl _)
  have hcs : Sl w2 (· < w2.heap.size) m c := hc.sl'.old
  have hNl := hN2.lt
  clear hm hc hp1 hb2 hs1 hb1 hN1
  go_wp2_with (first | ((with_reducible apply wpList_unguard); rfl) | ((with_reducible apply len_B); assumption) | ((with_reducible apply len_BB); assumption)  | (with_reducible refine stop_builtin ?_) | (with_reducible refine stop_slice ?_) | (with_reducible refine stop_index_B ?_) | (with_reducible refine stop_index_BB ?_)  | (with_reducible refine stop_str_B ?_) | (with_reducible refine stop_mark_B ?_) | (with_reducible refine stop_buildSlice ?_))
  refine (copy_any w2 _ m c hcs (by omega)).mono ?_
  rintro e w3 ⟨d, rfl, hd, hb3⟩
  have hb3' := hb2'.trans (hb3.mono hs2)
  have hs3 := hb3'.size
  have hN3 := hN2.below hb3 (Nat.le_refl _)
  have hcs3 := hcs.below hb3 (Nat.le_refl _)
  clear hb2' hcs hN2
  go_wp2_with (first | ((with_reducible apply wpList_unguard); rfl) | ((with_reducible apply len_B); assumption) | ((with_reducible apply len_BB); assumption)  | (with_reducible refine stop_builtin ?_) | (with_reducible refine stop_slice ?_) | (with_reducible refine stop_index_B ?_) | (with_reducible refine stop_index_BB ?_)  | (with_reducible refine stop_str_B ?_) | (with_reducible refine stop_mark_B ?_) | (with_reducible refine stop_buildSlice ?_))
  refine Stop.go (build_B ([165] : List UInt8) [.int .u8 165] rfl rfl (by rfl) (by simp) fun u w4 k1 k2 k3 k4 => ?_)
  have hb4 := hb3'.grown0 k2 (by omega)
  have hd4 := hd.grown0 k2
  have hcs4 := hcs3.grown0 k2
  have hN4 := hN3.grown k2 (by simp)
  have hsz3 := hb3.size
  go_wp2_with (first | ((with_reducible apply wpList_unguard); rfl) | ((with_reducible apply len_B); assumption) | ((with_reducible apply len_BB); assumption)  | (with_reducible refine stop_builtin ?_) | (with_reducible refine stop_slice ?_) | (with_reducible refine stop_index_B ?_) | (with_reducible refine stop_index_BB ?_)  | (with_reducible refine stop_str_B ?_) | (with_reducible refine stop_mark_B ?_) | (with_reducible refine stop_buildSlice ?_))
  refine Stop.go (app_B hd4 k1.sl' (by simp; omega) (by omega) fun q0 w5 g1 g2 g3 => ?_)
  have hdl : ∀ k, d.ownBlock = some k → w2.heap.size ≤ k := fun k hk => (hd.ge k hk).1
  have g2 : w4.grownBy w5 d.ownBlock := g2
  have hb5 := hb4.grown g2 (by omega) (fun k hk => Nat.le_trans hs2 (hdl k hk))
  have hcs5 := hcs4.grown g2 (fun b hb e => absurd (hdl b e) (by omega))
  have hN5 := hN4.grown g2 (fun e => absurd (hdl _ e) (by omega))
  have hq0 := g1.sl'
  have hs5 := hb5.size
  have hc5 : Sl w5 (· < w5.heap.size) m c := hcs5.old
  obtain ⟨M, hM⟩ : ∃ M, M = m ++ [165] := ⟨_, rfl⟩
  have hMl : M.length = m.length + 1 := by rw [hM]; simp
  have hMt : M.take m.length = m := by rw [hM]; exact List.take_left' rfl
  have hMg : M[m.length]? = some 165 := by rw [hM]; simp
  rw [← hM] at hq0
  clear g1 g2 g3 hd hd4 k1 k2 k3 k4 hcs4 hcs3 hN4 hN3 hb4 hb3' hb3 hM hcs5
  have HMt := Lib.hid hMt
  have HMg := Lib.hid hMg
  clear hMt hMg
  go_wp2_with (first | ((with_reducible apply wpList_unguard); rfl) | ((with_reducible apply len_B); assumption) | ((with_reducible apply len_BB); assumption)  | (with_reducible refine stop_builtin ?_) | (with_reducible refine stop_slice ?_) | (with_reducible refine stop_index_B ?_) | (with_reducible refine stop_index_BB ?_)  | (with_reducible refine stop_str_B ?_) | (with_reducible refine stop_mark_B ?_) | (with_reducible refine stop_buildSlice ?_))
  refine Stop.go (wpList_slice_wide rowB hq0 rfl (by omega) (by omega) fun q hq => ?_)
  have hq : Wide w5 (fun b => w2.heap.size ≤ b) M m.length q := hq
  have hqs := hq.sl
  rw [HMt.out] at hqs
  go_wp2_with (first | ((with_reducible apply wpList_unguard); rfl) | ((with_reducible apply len_B); assumption) | ((with_reducible apply len_BB); assumption)  | (with_reducible refine stop_builtin ?_) | (with_reducible refine stop_slice ?_) | (with_reducible refine stop_index_B ?_) | (with_reducible refine stop_index_BB ?_)  | (with_reducible refine stop_str_B ?_) | (with_reducible refine stop_mark_B ?_) | (with_reducible refine stop_buildSlice ?_))
  refine (snext_any w5 _ m q hN5 hqs (by omega)).mono ?_
  rintro e w6 ⟨a1, b1, rfl, ha1, hb1, hb6⟩
  have hb6' := hb5.trans (hb6.mono hs5)
  have hs6 := hb6'.size
  have hc6 := hc5.below hb6 (Nat.le_refl _)
  have hq6 := hq.below hb6 (Nat.le_refl _)
  have hqs6 := hqs.below hb6 (Nat.le_refl _)
  have hN6 := hN5.below hb6 (Nat.le_refl _)
  go_wp2_with (first | ((with_reducible apply wpList_unguard); rfl) | ((with_reducible apply len_B); assumption) | ((with_reducible apply len_BB); assumption)  | (with_reducible refine stop_builtin ?_) | (with_reducible refine stop_slice ?_) | (with_reducible refine stop_index_B ?_) | (with_reducible refine stop_index_BB ?_)  | (with_reducible refine stop_str_B ?_) | (with_reducible refine stop_mark_B ?_) | (with_reducible refine stop_buildSlice ?_))
  refine (rnext_any w6 _ m c hc6 (by omega)).mono ?_
  rintro e w7 ⟨a2, b2, rfl, ha2, hb2, hb7⟩
  have hb7' := hb6'.trans (hb7.mono hs6)
  have hs7 := hb7'.size
  have hc7 := hc6.below hb7 (Nat.le_refl _)
  have hq7 := hq6.below hb7 (Nat.le_refl _)
  have hqs7 := hqs6.below hb7 (Nat.le_refl _)
  have hN7 := hN6.below hb7 (Nat.le_refl _)
  have ha1' := ha1.below hb7 (Nat.le_refl _)
  have hb1' := hb1.below hb7 (Nat.le_refl _)
  obtain ⟨A, hA⟩ : ∃ A, A = (next m).1 := ⟨_, rfl⟩
  obtain ⟨B, hB⟩ : ∃ B, B = (next m).2.1 := ⟨_, rfl⟩
  obtain ⟨E, hE⟩ : ∃ E, E = (next m).2.2 := ⟨_, rfl⟩
  rw [← hA] at ha1' ha2
  rw [← hB] at hb1' hb2
  rw [← hE]
  have hop : opened m = if E ≠ 0 then ([], E) else if 0 < B.length then ([], 4) else (A, 0) := by rw [hA, hB, hE]; rfl
  have Hop := Lib.hid hop
  clear hA hB hE hop ha1 hb1 hq hqs hqs6 hc5 hc6 hN5 hN6 hq0 hq6 hb5 hb6 hb6' hb7
  go_wp2_with (first | ((with_reducible apply wpList_unguard); rfl) | ((with_reducible apply len_B); assumption) | ((with_reducible apply len_BB); assumption)  | (with_reducible refine stop_builtin ?_) | (with_reducible refine stop_slice ?_) | (with_reducible refine stop_index_B ?_) | (with_reducible refine stop_index_BB ?_)  | (with_reducible refine stop_str_B ?_) | (with_reducible refine stop_mark_B ?_) | (with_reducible refine stop_buildSlice ?_))
  refine (same_any w7 _ _ A A a1 a2 ha1' ha2).mono ?_
  rintro e w8 ⟨rfl, rfl⟩
  rw [beq_self_eq_true]
  go_wp2_with (first | ((with_reducible apply wpList_unguard); rfl) | ((with_reducible apply len_B); assumption) | ((with_reducible apply len_BB); assumption)  | (with_reducible refine stop_builtin ?_) | (with_reducible refine stop_slice ?_) | (with_reducible refine stop_index_B ?_) | (with_reducible refine stop_index_BB ?_)  | (with_reducible refine stop_str_B ?_) | (with_reducible refine stop_mark_B ?_) | (with_reducible refine stop_buildSlice ?_))
  refine (same_any w7 _ _ B B b1 b2 hb1' hb2).mono ?_
  rintro e w8 ⟨rfl, rfl⟩
  rw [beq_self_eq_true]
  go_wp2_with (first | ((with_reducible apply wpList_unguard); rfl) | ((with_reducible apply len_B); assumption) | ((with_reducible apply len_BB); assumption)  | (with_reducible refine stop_builtin ?_) | (with_reducible refine stop_slice ?_) | (with_reducible refine stop_index_B ?_) | (with_reducible refine stop_index_BB ?_)  | (with_reducible refine stop_str_B ?_) | (with_reducible refine stop_mark_B ?_) | (with_reducible refine stop_buildSlice ?_))
  refine (same_any w7 _ _ m m q c hqs7 hc7).mono ?_
  rintro e w8 ⟨rfl, rfl⟩
  rw [beq_self_eq_true]
  go_wp2_with (first | ((with_reducible apply wpList_unguard); rfl) | ((with_reducible apply len_B); assumption) | ((with_reducible apply len_BB); assumption)  | (with_reducible refine stop_builtin ?_) | (with_reducible refine stop_slice ?_) | (with_reducible refine stop_index_B ?_) | (with_reducible refine stop_index_BB ?_)  | (with_reducible refine stop_str_B ?_) | (with_reducible refine stop_mark_B ?_) | (with_reducible refine stop_buildSlice ?_))
  refine Stop.go (wpList_slice_back rowB hq7 rfl (by omega) (by omega) fun r hr => ?_)
  have hr : Sl w7 (fun b => w2.heap.size ≤ b) M r := by
    have := hr
    rwa [show Int.toNat ((m.length : Int) + 1) = M.length by omega, List.take_length] at this
  go_wp2_with (first | ((with_reducible apply wpList_unguard); rfl) | ((with_reducible apply len_B); assumption) | ((with_reducible apply len_BB); assumption)  | (with_reducible refine stop_builtin ?_) | (with_reducible refine stop_slice ?_) | (with_reducible refine stop_index_B ?_) | (with_reducible refine stop_index_BB ?_)  | (with_reducible refine stop_str_B ?_) | (with_reducible refine stop_mark_B ?_) | (with_reducible refine stop_buildSlice ?_))
  refine Stop.go (idx_B hr rfl (by omega) (by omega) fun b o y hy hcell => ?_)
  have hy2 : y = 165 := by
    have h := HMg.out
    rw [show Int.toNat (m.length : Int) = m.length by omega, h] at hy
    exact (Option.some.inj hy).symm
  subst hy2
  go_wp2_with (first | ((with_reducible apply wpList_unguard); rfl) | ((with_reducible apply len_B); assumption) | ((with_reducible apply len_BB); assumption)  | (with_reducible refine stop_builtin ?_) | (with_reducible refine stop_slice ?_) | (with_reducible refine stop_index_B ?_) | (with_reducible refine stop_index_BB ?_)  | (with_reducible refine stop_str_B ?_) | (with_reducible refine stop_mark_B ?_) | (with_reducible refine stop_buildSlice ?_))
  refine (sopen_any w7 _ m q hN7 hqs7 (by omega)).mono ?_
  rintro e w8 ⟨x, rfl, hx, hb8⟩
  have hb8' := hb7'.trans (hb8.mono hs7)
  have ha2' := ha2.below hb8 (Nat.le_refl _)
  have hb2' := hb2.below hb8 (Nat.le_refl _)
  clear hcell hy hr hq7 hqs7 hc7 ha1' hb1' hb2 ha2 hb8
  by_cases hE0 : E = 0
  · subst hE0
    have ho : opened m = if 0 < B.length then ([], 4) else (A, 0) := Hop.out
    by_cases hBl : 0 < B.length
    · rw [if_pos hBl] at ho
      rw [ho] at hx ⊢
      dsimp only at hx ⊢
      clear ho
      go_wp2_with (first | ((with_reducible apply wpList_unguard); rfl) | ((with_reducible apply len_B); assumption) | ((with_reducible apply len_BB); assumption)  | (with_reducible refine stop_builtin ?_) | (with_reducible refine stop_slice ?_) | (with_reducible refine stop_index_B ?_) | (with_reducible refine stop_index_BB ?_)  | (with_reducible refine stop_str_B ?_) | (with_reducible refine stop_mark_B ?_) | (with_reducible refine stop_buildSlice ?_))
      go_ret
      exact ⟨rfl, hb8'⟩
    · rw [if_neg hBl] at ho
      rw [ho] at hx ⊢
      dsimp only at hx ⊢
      clear ho
      have hB0 : (B.length : Int) = 0 := by omega
      go_wp2_with (first | ((with_reducible apply wpList_unguard); rfl) | ((with_reducible apply len_B); assumption) | ((with_reducible apply len_BB); assumption)  | (with_reducible refine stop_builtin ?_) | (with_reducible refine stop_slice ?_) | (with_reducible refine stop_index_B ?_) | (with_reducible refine stop_index_BB ?_)  | (with_reducible refine stop_str_B ?_) | (with_reducible refine stop_mark_B ?_) | (with_reducible refine stop_buildSlice ?_))
      refine (same_any w8 _ _ A A x a2 hx ha2').mono ?_
      rintro e w9 ⟨rfl, rfl⟩
      rw [beq_self_eq_true]
      go_wp2_with (first | ((with_reducible apply wpList_unguard); rfl) | ((with_reducible apply len_B); assumption) | ((with_reducible apply len_BB); assumption)  | (with_reducible refine stop_builtin ?_) | (with_reducible refine stop_slice ?_) | (with_reducible refine stop_index_B ?_) | (with_reducible refine stop_index_BB ?_)  | (with_reducible refine stop_str_B ?_) | (with_reducible refine stop_mark_B ?_) | (with_reducible refine stop_buildSlice ?_))
      go_ret
      exact ⟨rfl, hb8'⟩
  · have ho := Hop.out
    rw [if_pos hE0] at ho
    rw [ho] at hx ⊢
    dsimp only at hx ⊢
    clear ho
    have hne : (E != 0) = true := by simpa using hE0
    go_wp2_with (first | ((with_reducible apply wpList_unguard); rfl) | ((with_reducible apply len_B); assumption) | ((with_reducible apply len_BB); assumption)  | (with_reducible refine stop_builtin ?_) | (with_reducible refine stop_slice ?_) | (with_reducible refine stop_index_B ?_) | (with_reducible refine stop_index_BB ?_)  | (with_reducible refine stop_str_B ?_) | (with_reducible refine stop_mark_B ?_) | (with_reducible refine stop_buildSlice ?_))
    go_ret
    exact ⟨rfl, hb8'⟩

end Go.Proofs.YtiaiagkfkckkpaaDoor
