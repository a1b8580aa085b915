/- armillarylaw12: NoteUnpacks. -/
import Derived.Test.YtjkffjngamagkaaDoorNoteBodies
import Derived.Test.YtjkffjngamagkaaDoorWide
namespace Go.Arm
open Go.RowKit
theorem Wide.only {α : Type} [Rep α] {w w' : World} {S F : Nat → Prop} {l : List α} {k : Nat} {v : Value} (h : Wide w S l k v) (ho : Only F w w') (hS : ∀ b, S b → b < w.heap.size → ¬ F b) : Wide w' S l k v := by
  obtain ⟨ao, cap, rfl, h1, h2, h3⟩ := h
  exact ⟨ao, cap, rfl, h1, h2, h3.only ho hS⟩
end Go.Arm
namespace Go.Proofs.YtjkffjngamagkaaDoor
open Go Go.RowKit Go.Arm
set_option maxHeartbeats 4000000 in
set_option maxRecDepth 100000 in
theorem noteUnpacks_any (w : World) (hN : Srt w) (hB : Nib w) (S : Nat → Prop) (l : List UInt8) (p : Value) (hp : Sl w S l p) :
    Calls Tryd.prog 3 #[p] w fun e w' => e = .returned (.bool true) ∧ Below w.heap.size w w' := by
  go_enter Tryd.func3, Tryd.ntmps3
  go_wp2_with (fail)
  refine (awake12_any w hN hB).mono ?_
  rintro e w1 ⟨rfl, hb1⟩
  have hp1 := hp.below hb1 (Nat.le_refl _)
  have hs1 := hb1.size
  clear hp
  go_wp2_with (first | (with_reducible refine stop_store ?_) | (with_reducible refine stop_box ?_) | (with_reducible refine stop_alloc ?_) | (with_reducible refine stop_load_N ?_) | (with_reducible refine stop_load_R ?_) | ((with_reducible apply wpList_unguard); rfl) | ((with_reducible apply len_B); assumption)  | (with_reducible refine stop_builtin ?_) | (with_reducible refine stop_slice ?_) | (with_reducible refine stop_index_B ?_)  | (with_reducible refine stop_buildSlice ?_))
  refine (cut_any w1 _ l p 2000 hp1 (by omega) (by omega)).mono ?_
  rintro e w2 ⟨c, rfl, hc, hb2⟩
  obtain ⟨m, hm⟩ : ∃ m, m = l.take (Int.toNat 2000) := ⟨_, rfl⟩
  have hml : m.length ≤ 2000 := by rw [hm]; simp; omega
  rw [← hm] at hc
  have hb2' := hb1.trans (hb2.mono hs1)
  have hs2 := hb2'.size
  have hcs : Sl w2 (fun b => w1.heap.size ≤ b ∧ b < w2.heap.size) m c := hc.sl'.wide fun b h1 h2 => ⟨h1, h2⟩
  clear hm hc hp1 hb2 hs1 hb1
  go_wp2_with (first | (with_reducible refine stop_store ?_) | (with_reducible refine stop_box ?_) | (with_reducible refine stop_alloc ?_) | (with_reducible refine stop_load_N ?_) | (with_reducible refine stop_load_R ?_) | ((with_reducible apply wpList_unguard); rfl) | ((with_reducible apply len_B); assumption)  | (with_reducible refine stop_builtin ?_) | (with_reducible refine stop_slice ?_) | (with_reducible refine stop_index_B ?_)  | (with_reducible refine stop_buildSlice ?_))
  refine (copy_any w2 _ m c hcs (by omega)).mono ?_
  rintro e w3 ⟨d, rfl, hd, hb3⟩
  have hb3' := hb2'.trans (hb3.mono hs2)
  have hcs3 := hcs.below hb3 (Nat.le_refl _)
  clear hb2' hcs
  go_wp2_with (first | (with_reducible refine stop_store ?_) | (with_reducible refine stop_box ?_) | (with_reducible refine stop_alloc ?_) | (with_reducible refine stop_load_N ?_) | (with_reducible refine stop_load_R ?_) | ((with_reducible apply wpList_unguard); rfl) | ((with_reducible apply len_B); assumption)  | (with_reducible refine stop_builtin ?_) | (with_reducible refine stop_slice ?_) | (with_reducible refine stop_index_B ?_)  | (with_reducible refine stop_buildSlice ?_))
  refine Stop.go (build_B ([165] : List UInt8) [.int .u8 165] rfl rfl (by rfl) (by simp) fun u w4 k1 k2 k3 k4 => ?_)
  have hb4 := hb3'.grown0 k2 (by have := hb3.size; omega)
  have hd4 := hd.grown0 k2
  have hcs4 := hcs3.grown0 k2
  have hsz3 := hb3.size
  have hsz4 : w3.heap.size ≤ w4.heap.size := k2.size
  go_wp2_with (first | (with_reducible refine stop_store ?_) | (with_reducible refine stop_box ?_) | (with_reducible refine stop_alloc ?_) | (with_reducible refine stop_load_N ?_) | (with_reducible refine stop_load_R ?_) | ((with_reducible apply wpList_unguard); rfl) | ((with_reducible apply len_B); assumption)  | (with_reducible refine stop_builtin ?_) | (with_reducible refine stop_slice ?_) | (with_reducible refine stop_index_B ?_)  | (with_reducible refine stop_buildSlice ?_))
  refine Stop.go (app_B hd4 k1.sl' (by simp; omega) (by omega) fun q0 w5 g1 g2 g3 => ?_)
  have hdl : ∀ k, d.ownBlock = some k → w2.heap.size ≤ k := fun k hk => (hd.ge k hk).1
  have g2 : w4.grownBy w5 d.ownBlock := g2
  have hb5 := hb4.grown g2 (by omega) (fun k hk => Nat.le_trans hs2 (hdl k hk))
  have hc5 := hcs4.grown g2 (fun b hb e => absurd (hdl b e) (by have := hb.2; omega))
  have hq0 := g1.sl'
  have hs5 := hb5.size
  have hs45 : w4.heap.size ≤ w5.heap.size := g2.size
  obtain ⟨M, hM⟩ : ∃ M, M = m ++ [165] := ⟨_, rfl⟩
  have hMl : M.length = m.length + 1 := by rw [hM]; simp
  have hMt : M.take m.length = m := by rw [hM]; exact List.take_left' rfl
  have hMg : M[m.length]? = some 165 := by rw [hM]; simp
  rw [← hM] at hq0
  clear g1 g2 g3 hd hd4 k1 k2 k3 k4 hcs4 hcs3 hb4 hb3' hb3 hM
  have HMt := Lib.hid hMt
  have HMg := Lib.hid hMg
  clear hMt hMg
  go_wp2_with (first | (with_reducible refine stop_store ?_) | (with_reducible refine stop_box ?_) | (with_reducible refine stop_alloc ?_) | (with_reducible refine stop_load_N ?_) | (with_reducible refine stop_load_R ?_) | ((with_reducible apply wpList_unguard); rfl) | ((with_reducible apply len_B); assumption)  | (with_reducible refine stop_builtin ?_) | (with_reducible refine stop_slice ?_) | (with_reducible refine stop_index_B ?_)  | (with_reducible refine stop_buildSlice ?_))
  refine Stop.go (wpList_slice_wide rowB hq0 rfl (by omega) (by omega) fun q hq => ?_)
  have hq0 : Wide w5 (fun b => w2.heap.size ≤ b) M m.length q := hq
  have hq : Wide w5 (fun b => w2.heap.size ≤ b ∧ b < w5.heap.size) M m.length q := by
    obtain ⟨ao, cap, e1, e2, e3, e4⟩ := hq0
    exact ⟨ao, cap, e1, e2, e3, e4.wide fun b h1 h2 => ⟨h1, h2⟩⟩
  have hqs := hq.sl
  rw [HMt.out] at hqs
  clear hq0
  go_wp2_with (first | (with_reducible refine stop_store ?_) | (with_reducible refine stop_box ?_) | (with_reducible refine stop_alloc ?_) | (with_reducible refine stop_load_N ?_) | (with_reducible refine stop_load_R ?_) | ((with_reducible apply wpList_unguard); rfl) | ((with_reducible apply len_B); assumption)  | (with_reducible refine stop_builtin ?_) | (with_reducible refine stop_slice ?_) | (with_reducible refine stop_index_B ?_)  | (with_reducible refine stop_buildSlice ?_))
  refine (nunpack_any w5 _ m q (hB.below hb5 (Nat.le_refl _)) (hN.below hb5 (Nat.le_refl _)) hqs (by omega)).mono ?_
  rintro e w6 ⟨V, rfl, hV, hb6⟩
  have hru := fun w S p h => runpack_any w S m p h (by omega)
  rw [nunp_eq] at hru
  obtain ⟨U, hU⟩ : ∃ U, U = nunp plim m := ⟨_, rfl⟩
  rw [← hU] at hru hV ⊢
  clear hU
  obtain ⟨n, c1⟩ := U
  have hV : Nt w6 (fun b => w5.heap.size ≤ b) n V := hV
  have ha6 := below_on hb5 hb6 hb5.size
  have hc6 := hc5.below hb6 (Nat.le_refl _)
  have hq6 := hq.below hb6 (Nat.le_refl _)
  have hs6 := hb6.size
  clear hc5 hq hqs hb6 hb5
  obtain ⟨vp, vo, vv, vh, rfl, y1, y2, y3, y4⟩ := nt_shape hV
  have one1 := noteV_one n y1 y2 y3 y4
  go_wp2_with (first | (with_reducible refine stop_store ?_) | (with_reducible refine stop_box ?_) | (with_reducible refine stop_alloc ?_) | (with_reducible refine stop_load_N ?_) | (with_reducible refine stop_load_R ?_) | ((with_reducible apply wpList_unguard); rfl) | ((with_reducible apply len_B); assumption)  | (with_reducible refine stop_builtin ?_) | (with_reducible refine stop_slice ?_) | (with_reducible refine stop_index_B ?_)  | (with_reducible refine stop_buildSlice ?_))
  refine Stop.go (blk_alloc (z := .agg zeroCells) (cs := zeroCells) (zero_run (by kernel_rfl)) rfl fun b4 w7 k7 hb7 ha7 => ?_)
  go_wp2_with (first | (with_reducible refine stop_store ?_) | (with_reducible refine stop_box ?_) | (with_reducible refine stop_alloc ?_) | (with_reducible refine stop_load_N ?_) | (with_reducible refine stop_load_R ?_) | ((with_reducible apply wpList_unguard); rfl) | ((with_reducible apply len_B); assumption)  | (with_reducible refine stop_builtin ?_) | (with_reducible refine stop_slice ?_) | (with_reducible refine stop_index_B ?_)  | (with_reducible refine stop_buildSlice ?_))
  refine Stop.go (blk_store_all (cs' := (noteV n vp vo vv vh).cells) k7 rfl rfl (by kernel_rfl) rfl one1 fun w8 k8 o8 z8 => ?_)
  have hbx8 : Box w8 b4 n vp vo vv vh := k8
  have s67 := ha7.size
  have s78 := o8.size
  have o68 : Only (fun b => w6.heap.size ≤ b) w6 w8 := (Only.of_below ha7).trans o8 fun b hb e => by omega
  have hV8 := hV.keep (S' := fun b => w5.heap.size ≤ b) fun b hb hlt => ⟨o68.block b hlt (by omega), hb⟩
  have hc8 := hc6.only o68 fun b hb hlt => by omega
  have hq8 := hq6.only o68 fun b hb hlt => by omega
  have ha8 := below_only ha6 o68 fun b hb => by have := ha6.size; omega
  clear k7 ha7 k8 o8 z8 hV hc6 hq6 ha6
  go_wp2_with (first | (with_reducible refine stop_store ?_) | (with_reducible refine stop_box ?_) | (with_reducible refine stop_alloc ?_) | (with_reducible refine stop_load_N ?_) | (with_reducible refine stop_load_R ?_) | ((with_reducible apply wpList_unguard); rfl) | ((with_reducible apply len_B); assumption)  | (with_reducible refine stop_builtin ?_) | (with_reducible refine stop_slice ?_) | (with_reducible refine stop_index_B ?_)  | (with_reducible refine stop_buildSlice ?_))
  refine (hru w8 _ c hc8).mono ?_
  rintro e w9 ⟨V2, rfl, hV2, hb9⟩
  have hV2 : Nt w9 (fun b => w8.heap.size ≤ b) n V2 := hV2
  have hbx9 := hbx8.below hb9 (Blk.lt hbx8)
  have hV9 := hV8.below hb9 (Nat.le_refl _)
  have hc9 := hc8.below hb9 (Nat.le_refl _)
  have hq9 := hq8.below hb9 (Nat.le_refl _)
  have ha9 := below_on ha8 hb9 ha8.size
  have b4lt := Blk.lt hbx8
  have s9 := hb9.size
  clear hbx8 hV8 hc8 hq8 ha8 hb9 hru
  obtain ⟨up, uo, uv, uh, rfl, z1, z2, z3, z4⟩ := nt_shape hV2
  have one2 := noteV_one n z1 z2 z3 z4
  go_wp2_with (first | (with_reducible refine stop_store ?_) | (with_reducible refine stop_box ?_) | (with_reducible refine stop_alloc ?_) | (with_reducible refine stop_load_N ?_) | (with_reducible refine stop_load_R ?_) | ((with_reducible apply wpList_unguard); rfl) | ((with_reducible apply len_B); assumption)  | (with_reducible refine stop_builtin ?_) | (with_reducible refine stop_slice ?_) | (with_reducible refine stop_index_B ?_)  | (with_reducible refine stop_buildSlice ?_))
  refine Stop.go (blk_alloc (z := .agg zeroCells) (cs := zeroCells) (zero_run (by kernel_rfl)) rfl fun b6 w10 k10 hb10 ha10 => ?_)
  go_wp2_with (first | (with_reducible refine stop_store ?_) | (with_reducible refine stop_box ?_) | (with_reducible refine stop_alloc ?_) | (with_reducible refine stop_load_N ?_) | (with_reducible refine stop_load_R ?_) | ((with_reducible apply wpList_unguard); rfl) | ((with_reducible apply len_B); assumption)  | (with_reducible refine stop_builtin ?_) | (with_reducible refine stop_slice ?_) | (with_reducible refine stop_index_B ?_)  | (with_reducible refine stop_buildSlice ?_))
  refine Stop.go (blk_store_all (cs' := (noteV n up uo uv uh).cells) k10 rfl rfl (by kernel_rfl) rfl one2 fun w11 k11 o11 z11 => ?_)
  have hbr11 : RBox w11 b6 n up uo uv uh := k11
  have o911 : Only (fun b => w9.heap.size ≤ b) w9 w11 := (Only.of_below ha10).trans o11 fun b hb e => by omega
  have hbn11 := hbx9.only o911 (by omega)
  have hV11 := hV9.keep (S' := fun b => w5.heap.size ≤ b) fun b hb hlt => ⟨o911.block b hlt (by omega), hb⟩
  have hU11 := hV2.keep (S' := fun b => w5.heap.size ≤ b) fun b hb hlt => ⟨o911.block b hlt (by omega), by have := hb; omega⟩
  have hc11 := hc9.only o911 fun b hb hlt => by omega
  have hq11 := hq9.only o911 fun b hb hlt => by omega
  have ha11 := below_only ha9 o911 fun b hb => by have := ha9.size; omega
  clear k10 ha10 k11 o11 z11 hV9 hc9 hq9 ha9 hV2 hbx9 o68
  go_wp2_with (first | (with_reducible refine stop_store ?_) | (with_reducible refine stop_box ?_) | (with_reducible refine stop_alloc ?_) | (with_reducible refine stop_load_N ?_) | (with_reducible refine stop_load_R ?_) | ((with_reducible apply wpList_unguard); rfl) | ((with_reducible apply len_B); assumption)  | (with_reducible refine stop_builtin ?_) | (with_reducible refine stop_slice ?_) | (with_reducible refine stop_index_B ?_)  | (with_reducible refine stop_buildSlice ?_))
  refine Stop.go (load_N hbn11 rfl ?_)
  go_wp2_with (first | (with_reducible refine stop_store ?_) | (with_reducible refine stop_box ?_) | (with_reducible refine stop_alloc ?_) | (with_reducible refine stop_load_N ?_) | (with_reducible refine stop_load_R ?_) | ((with_reducible apply wpList_unguard); rfl) | ((with_reducible apply len_B); assumption)  | (with_reducible refine stop_builtin ?_) | (with_reducible refine stop_slice ?_) | (with_reducible refine stop_index_B ?_)  | (with_reducible refine stop_buildSlice ?_))
  refine Stop.go (load_R hbr11 rfl ?_)
  go_wp2_with (first | (with_reducible refine stop_store ?_) | (with_reducible refine stop_box ?_) | (with_reducible refine stop_alloc ?_) | (with_reducible refine stop_load_N ?_) | (with_reducible refine stop_load_R ?_) | ((with_reducible apply wpList_unguard); rfl) | ((with_reducible apply len_B); assumption)  | (with_reducible refine stop_builtin ?_) | (with_reducible refine stop_slice ?_) | (with_reducible refine stop_index_B ?_)  | (with_reducible refine stop_buildSlice ?_))
  refine (rsame_any w11 _ _ n n _ _ hV11 hU11).mono ?_
  rintro e w12 ⟨rfl, hb12⟩
  have eT : (n == n) = true := by simp
  rw [eT]
  clear eT
  have hc12 := hc11.below hb12 (Nat.le_refl _)
  have hq12 := hq11.below hb12 (Nat.le_refl _)
  have ha12 := below_on ha11 hb12 ha11.size
  have hqs12 := hq12.sl
  rw [HMt.out] at hqs12
  clear hV11 hU11 hc11 hq11 ha11 hbr11 hbn11 hb12 o911
  go_wp2_with (first | (with_reducible refine stop_store ?_) | (with_reducible refine stop_box ?_) | (with_reducible refine stop_alloc ?_) | (with_reducible refine stop_load_N ?_) | (with_reducible refine stop_load_R ?_) | ((with_reducible apply wpList_unguard); rfl) | ((with_reducible apply len_B); assumption)  | (with_reducible refine stop_builtin ?_) | (with_reducible refine stop_slice ?_) | (with_reducible refine stop_index_B ?_)  | (with_reducible refine stop_buildSlice ?_))
  refine (same_any w12 _ _ m m q c hqs12 hc12).mono ?_
  rintro e w13 ⟨rfl, rfl⟩
  rw [beq_self_eq_true]
  go_wp2_with (first | (with_reducible refine stop_store ?_) | (with_reducible refine stop_box ?_) | (with_reducible refine stop_alloc ?_) | (with_reducible refine stop_load_N ?_) | (with_reducible refine stop_load_R ?_) | ((with_reducible apply wpList_unguard); rfl) | ((with_reducible apply len_B); assumption)  | (with_reducible refine stop_builtin ?_) | (with_reducible refine stop_slice ?_) | (with_reducible refine stop_index_B ?_)  | (with_reducible refine stop_buildSlice ?_))
  refine Stop.go (wpList_slice_back rowB hq12 rfl (by omega) (by omega) fun r hr => ?_)
  have hr : Sl w12 (fun b => w2.heap.size ≤ b ∧ b < w5.heap.size) M r := by
    have := hr
    rwa [show Int.toNat ((m.length : Int) + 1) = M.length by omega, List.take_length] at this
  go_wp2_with (first | (with_reducible refine stop_store ?_) | (with_reducible refine stop_box ?_) | (with_reducible refine stop_alloc ?_) | (with_reducible refine stop_load_N ?_) | (with_reducible refine stop_load_R ?_) | ((with_reducible apply wpList_unguard); rfl) | ((with_reducible apply len_B); assumption)  | (with_reducible refine stop_builtin ?_) | (with_reducible refine stop_slice ?_) | (with_reducible refine stop_index_B ?_)  | (with_reducible refine stop_buildSlice ?_))
  refine Stop.go (idx_B hr rfl (by omega) (by omega) fun b o y hy hcell => ?_)
  have hy2 : y = 165 := by
    have h := HMg.out
    rw [show Int.toNat (m.length : Int) = m.length by omega, h] at hy
    exact (Option.some.inj hy).symm
  subst hy2
  go_wp2_with (fail)
  go_ret
  exact ⟨rfl, ha12⟩
theorem noteUnpacks_true (w : World) (hN : Srt w) (hB : Nib w) {S : Nat → Prop} {l : List UInt8} {p : Value} (hp : Sl w S l p) :
    Calls Tryd.prog 3 #[p] w fun e w' => e = .returned (.bool true) ∧ Below w.heap.size w w' := noteUnpacks_any w hN hB S l p hp
end Go.Proofs.YtjkffjngamagkaaDoor
