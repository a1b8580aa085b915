/- SealCuts: the walk. -/
import Derived.Test.YtiaiagkfkckkpaaDoorLaw01a
import Derived.Test.YtiaiagkfkckkpaaDoorSealMath
namespace Go.Proofs.YtiaiagkfkckkpaaDoor
open Go Go.RowKit Go.Arm

theorem sealCuts_walk (w : World) (S : Nat → Prop) (l : List UInt8) (p : Value) (k : Nat) (hN : Nib w) (hp : Sl w S l p) (hk : k < 65536) :
    Calls Tryd.prog 9 #[p, .int .u16 k] w fun e w' => e = .returned (.bool true) ∧ Below w.heap.size w w' := by
  go_enter Tryd.func9, Tryd.ntmps9
  go_wp2_with (first | ((with_reducible apply wpList_unguard); rfl) | ((with_reducible apply len_B); assumption) | ((with_reducible apply len_BB); assumption)  | (with_reducible refine stop_builtin ?_) | (with_reducible refine stop_slice ?_) | (with_reducible refine stop_index_B ?_) | (with_reducible refine stop_index_BB ?_)  | (with_reducible refine stop_str_B ?_) | (with_reducible refine stop_mark_B ?_) | (with_reducible refine stop_buildSlice ?_))
  refine (awake_any w hN).mono ?_
  rintro e w1 ⟨rfl, hb1⟩
  have hN1 := hN.below hb1 (Nat.le_refl _)
  have hp1 := hp.below hb1 (Nat.le_refl _)
  have hs1 := hb1.size
  go_wp2_with (first | ((with_reducible apply wpList_unguard); rfl) | ((with_reducible apply len_B); assumption) | ((with_reducible apply len_BB); assumption)  | (with_reducible refine stop_builtin ?_) | (with_reducible refine stop_slice ?_) | (with_reducible refine stop_index_B ?_) | (with_reducible refine stop_index_BB ?_)  | (with_reducible refine stop_str_B ?_) | (with_reducible refine stop_mark_B ?_) | (with_reducible refine stop_buildSlice ?_))
  refine (cut_any w1 S l p 600 hp1 (by omega) (by omega)).mono ?_
  rintro e w2 ⟨c, rfl, hc, hb2⟩
  obtain ⟨m, hm⟩ : ∃ m, m = l.take (Int.toNat 600) := ⟨_, rfl⟩
  have hml : m.length ≤ 600 := by rw [hm]; simp; omega
  rw [← hm] at hc
  clear hm
  have hs2 := hb2.size
  have hN2 := hN1.below hb2 (Nat.le_refl _)
  go_wp2_with (first | ((with_reducible apply wpList_unguard); rfl) | ((with_reducible apply len_B); assumption) | ((with_reducible apply len_BB); assumption)  | (with_reducible refine stop_builtin ?_) | (with_reducible refine stop_slice ?_) | (with_reducible refine stop_index_B ?_) | (with_reducible refine stop_index_BB ?_)  | (with_reducible refine stop_str_B ?_) | (with_reducible refine stop_mark_B ?_) | (with_reducible refine stop_buildSlice ?_))
  refine Stop.go (build_BB (S := fun b => w1.heap.size ≤ b) [m] [c] rfl rfl (rds_cons hc.sl' rds_nil) (by simp) fun q w3 k1 k2 k3 k4 => ?_)
  have hN3 := hN2.grown k2 (by simp)
  have hb3 := (hb1.trans (hb2.mono hs1)).grown0 k2 (by omega)
  have hs3 := hb3.size
  go_wp2_with (first | ((with_reducible apply wpList_unguard); rfl) | ((with_reducible apply len_B); assumption) | ((with_reducible apply len_BB); assumption)  | (with_reducible refine stop_builtin ?_) | (with_reducible refine stop_slice ?_) | (with_reducible refine stop_index_B ?_) | (with_reducible refine stop_index_BB ?_)  | (with_reducible refine stop_str_B ?_) | (with_reducible refine stop_mark_B ?_) | (with_reducible refine stop_buildSlice ?_))
  refine (sframe_any w3 _ [m] q hN3 k1.slGe (by simp) (by simp; omega)).mono ?_
  rintro e w4 ⟨f, rfl, hf, hb4⟩
  rw [show [m].flatten = m by simp] at hf
  have hs4 := hb4.size
  have hN4 := hN3.below hb4 (Nat.le_refl _)
  have hb4' := hb3.trans (hb4.mono (by omega))
  have hfs : Sl w4 (· < w4.heap.size) (frame m) f := hf.sl'.old
  have hfl := frame_len m
  obtain ⟨F, hF⟩ : ∃ F, F = frame m := ⟨_, rfl⟩
  rw [← hF] at hfs hfl
  have HF := Lib.hid hF
  have Hfl := Lib.hid hfl
  clear hF hf hfl k1 k2 k3 k4 hc
  have hFl : F.length ≤ 606 := by have := Hfl.out; omega
  have hFl2 : 6 ≤ F.length := by have := Hfl.out; omega
  have hFne : ¬ F = [] := by intro e; rw [e] at hFl2; simp at hFl2
  have HFne := Lib.hid hFne
  have hF0 : ¬ (F.length : Int) = 0 := by omega
  go_wp2_with (first | ((with_reducible apply wpList_unguard); rfl) | ((with_reducible apply len_B); assumption) | ((with_reducible apply len_BB); assumption)  | (with_reducible refine stop_builtin ?_) | (with_reducible refine stop_slice ?_) | (with_reducible refine stop_index_B ?_) | (with_reducible refine stop_index_BB ?_)  | (with_reducible refine stop_str_B ?_) | (with_reducible refine stop_mark_B ?_) | (with_reducible refine stop_buildSlice ?_))
  have hrl : k % F.length < F.length := Nat.mod_lt _ (by omega)
  obtain ⟨G, hG⟩ : ∃ G, G = F.take (((k : Int) % (F.length : Int)).toNat) := ⟨_, rfl⟩
  have hGn : next G = ([], [], 2) := by
    rw [hG, HF.out, show (((k : Int) % ((frame m).length : Int)).toNat) = k % (frame m).length by omega]
    exact next_cut m (by omega) _ (by rw [← HF.out]; exact hrl)
  have hGa : all G = ([], G) := by
    rw [hG, HF.out, show (((k : Int) % ((frame m).length : Int)).toNat) = k % (frame m).length by omega]
    exact all_cut m (by omega) _ (by rw [← HF.out]; exact hrl)
  have hGl : G.length ≤ 606 := by rw [hG]; simp; omega
  have HGn := Lib.hid hGn
  have HGa := Lib.hid hGa
  have HG := Lib.hid hG
  clear hGn hGa hG
  refine Stop.go (wpList_slice_h rowB hfs rfl (Int.emod_nonneg _ hF0) (by omega) fun g1 hg1 => ?_)
  rw [← HG.out] at hg1
  go_wp2_with (first | ((with_reducible apply wpList_unguard); rfl) | ((with_reducible apply len_B); assumption) | ((with_reducible apply len_BB); assumption)  | (with_reducible refine stop_builtin ?_) | (with_reducible refine stop_slice ?_) | (with_reducible refine stop_index_B ?_) | (with_reducible refine stop_index_BB ?_)  | (with_reducible refine stop_str_B ?_) | (with_reducible refine stop_mark_B ?_) | (with_reducible refine stop_buildSlice ?_))
  refine (snext_any w4 _ G g1 hN4 hg1 (by omega)).mono ?_
  rintro e w5 ⟨v1, v2, rfl, hv1, hv2, hb5⟩
  rw [HGn.out]
  have hs5 := hb5.size
  have hN5 := hN4.below hb5 (Nat.le_refl _)
  have hfs5 := hfs.below hb5 (Nat.le_refl _)
  have hb5' := hb4'.trans (hb5.mono (by omega))
  clear hv1 hv2
  go_wp2_with (first | ((with_reducible apply wpList_unguard); rfl) | ((with_reducible apply len_B); assumption) | ((with_reducible apply len_BB); assumption)  | (with_reducible refine stop_builtin ?_) | (with_reducible refine stop_slice ?_) | (with_reducible refine stop_index_B ?_) | (with_reducible refine stop_index_BB ?_)  | (with_reducible refine stop_str_B ?_) | (with_reducible refine stop_mark_B ?_) | (with_reducible refine stop_buildSlice ?_))
  refine Stop.go (wpList_slice_h rowB hfs5 rfl (Int.emod_nonneg _ hF0) (by omega) fun g2 hg2 => ?_)
  rw [← HG.out] at hg2
  go_wp2_with (first | ((with_reducible apply wpList_unguard); rfl) | ((with_reducible apply len_B); assumption) | ((with_reducible apply len_BB); assumption)  | (with_reducible refine stop_builtin ?_) | (with_reducible refine stop_slice ?_) | (with_reducible refine stop_index_B ?_) | (with_reducible refine stop_index_BB ?_)  | (with_reducible refine stop_str_B ?_) | (with_reducible refine stop_mark_B ?_) | (with_reducible refine stop_buildSlice ?_))
  refine (sall_any w5 _ G g2 hN5 hg2 (by omega)).mono ?_
  rintro e w6 ⟨v3, rfl, hv3, hb6⟩
  rw [HGa.out] at hv3 ⊢
  have hb6' := hb5'.trans (hb6.mono (by omega))
  have hv3s := hv3.sl
  dsimp only at hv3s ⊢
  have hz : (G.length : Int) - G.length = 0 := by omega
  rw [hz]
  clear hv3
  go_wp2_with (first | ((with_reducible apply wpList_unguard); rfl) | ((with_reducible apply len_B); assumption) | ((with_reducible apply len_BB); assumption)  | (with_reducible refine stop_builtin ?_) | (with_reducible refine stop_slice ?_) | (with_reducible refine stop_index_B ?_) | (with_reducible refine stop_index_BB ?_)  | (with_reducible refine stop_str_B ?_) | (with_reducible refine stop_mark_B ?_) | (with_reducible refine stop_buildSlice ?_))
  go_ret
  exact ⟨rfl, hb6'⟩

theorem sealCuts_true (w : World) {l : List UInt8} {p : Value} {n : Nat} (hN : Nib w) (hp : Sl w (· < w.heap.size) l p) (hk : n < 65536) :
    Calls Tryd.prog 9 #[p, .int .u16 n] w fun e w' => e = .returned (.bool true) ∧ Below w.heap.size w w' :=
  sealCuts_walk w _ l p n hN hp hk

end Go.Proofs.YtiaiagkfkckkpaaDoor
