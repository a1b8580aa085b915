/- armillarylaw12: NoteCuts. -/
import Derived.Test.YtjkffjngamagkaaDoorNoteShape
import Derived.Test.YtjkffjngamagkaaDoorRefFewN
import Derived.Test.YtjkffjngamagkaaDoorRefPack
namespace Go.Arm
open Go.RowKit
theorem opened_cut (l : List UInt8) (hl : l.length ≤ 4096) (k : Nat) (hk : k < (frame l).length) : opened ((frame l).take k) = ([], 2) := by
  rw [opened, next_cut l hl k hk]
  rfl
theorem opened_more (l m : List UInt8) (hl : l.length ≤ 4096) (hm : 0 < m.length) : opened (frame l ++ m) = ([], 4) := by
  rw [opened, next_frame l m hl]
  simp [hm]
end Go.Arm
namespace Go.Proofs.YtjkffjngamagkaaDoor
open Go Go.RowKit Go.Arm
theorem nunp_bad {L : Lim} {l : List UInt8} {c : Int} (h : opened l = ([], c)) (hc : c ≠ 0) : nunp L l = (zeroN, c) := by
  unfold nunp
  rw [h]
  simp [hc]
set_option maxHeartbeats 4000000 in
set_option maxRecDepth 100000 in
theorem noteCuts_any (w : World) (hN : Srt w) (hB : Nib w) (S S' : Nat → Prop) (n0 : NoteR) (V : Value) (hV : Nt w S n0 V) (k : Nat) (hk : k < 65536) (l : List UInt8) (p : Value) (hp : Sl w S' l p) :
    Calls Tryd.prog 6 #[V, .int .u16 (k : Int), p] w fun e w' => e = .returned (.bool true) ∧ Below w.heap.size w w' := by
  have hV0 := hV.old
  clear hV
  obtain ⟨vp, vo, vv, vh, hVe, y1, y2, y3, y4⟩ := nt_shape hV0
  go_enter Tryd.func6, Tryd.ntmps6
  subst hVe
  go_wp2_with (first | ((with_reducible apply wpList_unguard); rfl) | ((with_reducible (first | apply len_B)); assumption) | ((with_reducible refine stop_if kX ?_ ?_); rfl))
  refine Stop.go (box_R rfl fun b w1 bx1 hbg ha1 => ?_)
  have hV1 := hV0.below ha1 (Nat.le_refl _)
  have hp1 := hp.below ha1 (Nat.le_refl _)
  clear hV0 hp y1 y2 y3 y4
  go_wp2_with (first | ((with_reducible apply wpList_unguard); rfl) | ((with_reducible (first | apply len_B)); assumption) | ((with_reducible refine stop_if kX ?_ ?_); rfl))
  refine (awake12_any w1 (hN.below ha1 (Nat.le_refl _)) (hB.below ha1 (Nat.le_refl _))).mono ?_
  rintro e w2 ⟨rfl, hb2⟩
  have hV2 := hV1.below hb2 (Nat.le_refl _)
  have hp2 := hp1.below hb2 (Nat.le_refl _)
  have bx2 := bx1.below hb2 (Blk.lt bx1)
  have ha2 := below_on ha1 hb2 ha1.size
  clear hV1 hp1 bx1 hb2 ha1
  go_wp2_with (first | ((with_reducible apply wpList_unguard); rfl) | ((with_reducible (first | apply len_B)); assumption) | ((with_reducible refine stop_if kX ?_ ?_); rfl))
  refine Stop.go (load_R bx2 rfl ?_)
  go_wp2_with (first | ((with_reducible apply wpList_unguard); rfl) | ((with_reducible (first | apply len_B)); assumption) | ((with_reducible refine stop_if kX ?_ ?_); rfl))
  refine (rfewn_any w2 _ n0 _ hV2).mono ?_
  rintro e w3 ⟨V3, rfl, hV3, hb3⟩
  generalize fewN n0 = n at *
  have hp3 := hp2.below hb3 (Nat.le_refl _)
  have ha3 := below_on ha2 hb3 ha2.size
  clear hV2 hp2 bx2 hb3 ha2
  go_wp2_with (first | ((with_reducible apply wpList_unguard); rfl) | ((with_reducible (first | apply len_B)); assumption) | ((with_reducible refine stop_if kX ?_ ?_); rfl))
  refine (rpack_any w3 _ n _ hV3).mono ?_
  rintro e w4 ⟨pv, rfl, hpv, hb4⟩
  have hnl : nright n = true → (encNote n).length ≤ 4096 := fun h => encNote_len (nright_fair h)
  have hp4 := (hp3.below hb4 (Nat.le_refl _)).old
  have ha4 := below_on ha3 hb4 ha3.size
  have s34 := hb4.size
  clear hV3 hp3 hb4 ha3
  cases hnr : nright n
  · rw [hnr] at hpv
    simp only [Bool.false_eq_true, if_false] at hpv ⊢
    clear hnl hnr
    go_wp2_with (first | ((with_reducible apply wpList_unguard); rfl) | ((with_reducible (first | apply len_B)); assumption) | ((with_reducible refine stop_if kX ?_ ?_); rfl))
    go_ret
    exact ⟨rfl, ha4⟩
  have hl := hnl hnr
  rw [hnr] at hpv
  simp only [if_true] at hpv ⊢
  clear hnl hnr
  generalize encNote n = c at *
  have hfl : (frame c).length = 6 + c.length := frame_len c
  have hcut := fun j hj => opened_cut c hl j hj
  have hmore := fun m hm => opened_more c m hl hm
  obtain ⟨F, hF⟩ : ∃ F, F = frame c := ⟨_, rfl⟩
  rw [← hF] at hpv hcut hmore hfl
  have HC := Lib.hid hcut
  have HM := Lib.hid hmore
  have hF6 : 6 ≤ F.length := by omega
  have hFl : F.length ≤ 4102 := by omega
  clear hF hcut hmore hfl
  have hpf := hpv.sl'
  have hm0 : ¬ F = [] := by rintro rfl; simp at hF6
  clear hpv
  obtain ⟨j, hj, hjl⟩ : ∃ j : Nat, (k : Int) % (F.length : Int) = j ∧ j < F.length := ⟨k % F.length, by simp, Nat.mod_lt _ (by omega)⟩
  go_wp2_with (first | ((with_reducible apply wpList_unguard); rfl) | ((with_reducible (first | apply len_B)); assumption) | ((with_reducible refine stop_if kX ?_ ?_); rfl))
  rw [hj]
  clear hj
  refine Stop.go (wpList_slice_h rowB hpf rfl (by omega) (by omega) fun v hv => ?_)
  have hu := nunp_bad (L := plim) (HC.out j hjl) (by decide)
  have hv : Sl w4 (fun b => w3.heap.size ≤ b) (F.take j) v := hv
  have hvl : (F.take j).length ≤ 4102 := by rw [List.length_take]; omega
  generalize F.take j = G at *
  clear hjl
  go_wp2_with (first | ((with_reducible apply wpList_unguard); rfl) | ((with_reducible (first | apply len_B)); assumption) | ((with_reducible refine stop_if kX ?_ ?_); rfl))
  refine (nunpack_any w4 _ G v (hB.below ha4 (Nat.le_refl _)) (hN.below ha4 (Nat.le_refl _)) hv (by omega)).mono ?_
  rw [hu]
  rintro e w5 ⟨V5, rfl, hV5, hb5⟩
  have hV5 : Nt w5 (fun b => w4.heap.size ≤ b) zeroN V5 := hV5
  have hpf5 := hpf.below hb5 (Nat.le_refl _)
  have hp5 := hp4.below hb5 (Nat.le_refl _)
  have ha5 := below_on ha4 hb5 ha4.size
  have s45 := hb5.size
  clear hu hv hvl hb5 hpf hp4 ha4
  obtain ⟨ap, ao, av, ah, rfl, x1, x2, x3, x4⟩ := nt_shape hV5
  have one := noteV_one zeroN x1 x2 x3 x4
  go_wp2_with (first | ((with_reducible apply wpList_unguard); rfl) | ((with_reducible (first | apply len_B)); assumption) | ((with_reducible refine stop_if kX ?_ ?_); rfl))
  refine Stop.go (blk_alloc (z := .agg zeroCells) (cs := zeroCells) (zero_run (by kernel_rfl)) rfl fun d w6 k6 hd6 ha6 => ?_)
  go_wp2_with (first | ((with_reducible apply wpList_unguard); rfl) | ((with_reducible (first | apply len_B)); assumption) | ((with_reducible refine stop_if kX ?_ ?_); rfl))
  refine Stop.go (blk_store_all (cs' := (noteV zeroN ap ao av ah).cells) k6 rfl rfl (by kernel_rfl) rfl one fun w7 k7 o7 z7 => ?_)
  have o57 : Only (fun k => w5.heap.size ≤ k) w5 w7 := (Only.of_below ha6).trans o7 fun k hk e => by omega
  have hpf7 := hpf5.only o57 fun b hb hlt => by omega
  have hp7 := hp5.only o57 fun b hb hlt => by omega
  have ha7 := below_only ha5 o57 fun b hb => by have := ha5.size; omega
  have s57 := o57.size
  have ha7s := ha7.size
  clear k6 ha6 k7 o7 z7 hV5 one x1 x2 x3 x4 hpf5 hp5 ha5 o57
  go_wp2_with (first | ((with_reducible apply wpList_unguard); rfl) | ((with_reducible (first | apply len_B)); assumption) | ((with_reducible refine stop_if kX ?_ ?_); rfl))
  refine (copy_any w7 _ F pv hpf7 (by omega)).mono ?_
  rintro e w8 ⟨q, rfl, hq, hb8⟩
  have hp8 := hp7.below hb8 (Nat.le_refl _)
  have ha8 := below_on ha7 hb8 ha7.size
  have s78 := hb8.size
  clear hpf7 hp7 ha7 hb8
  go_wp2_with (first | ((with_reducible apply wpList_unguard); rfl) | ((with_reducible (first | apply len_B)); assumption) | ((with_reducible refine stop_if kX ?_ ?_); rfl))
  refine (cut_any w8 _ l p 20 hp8 (by decide) (by decide)).mono ?_
  rintro e w9 ⟨c9, rfl, hc9, hb9⟩
  have hcl : (l.take (Int.toNat 20)).length ≤ 20 := by rw [List.length_take]; exact Nat.min_le_left _ _
  generalize l.take (Int.toNat 20) = m at *
  have hq9 := hq.below hb9 (Nat.le_refl _)
  have ha9 := below_on ha8 hb9 ha8.size
  have s89 := hb9.size
  have hqlt : ∀ b, q.ownBlock = some b → b < w8.heap.size := fun b hb => (hq.ge b hb).2
  clear hp8 ha8 hb9 hq
  go_wp2_with (first | ((with_reducible apply wpList_unguard); rfl) | ((with_reducible (first | apply len_B)); assumption) | ((with_reducible refine stop_if kX ?_ ?_); rfl))
  refine Stop.go (build_B ([0] : List UInt8) [.int .u8 0] rfl rfl (by rfl) (by simp) fun u w10 k1 k2 k3 k4 => ?_)
  have hq10 := hq9.grown0 k2
  have hc10 := hc9.grown0 k2
  have ha10 := ha9.grown0 k2 (by have := ha9.size; omega)
  have s910 : w9.heap.size ≤ w10.heap.size := k2.size
  clear hq9 hc9 ha9 k2 k3 k4
  go_wp2_with (first | ((with_reducible apply wpList_unguard); rfl) | ((with_reducible (first | apply len_B)); assumption) | ((with_reducible refine stop_if kX ?_ ?_); rfl))
  refine Stop.go (app_B hc10 k1.sl' (by simp; omega) (by omega) fun x w11 g1 g2 g3 => ?_)
  have g2 : w10.grownBy w11 c9.ownBlock := g2
  have ha7s : w.heap.size ≤ w8.heap.size := by omega
  have hcge : ∀ b, c9.ownBlock = some b → w8.heap.size ≤ b := fun b hb => (hc10.ge b hb).1
  have hq11 : OwnB w11 w7.heap.size F q := hq10.keep (fun _ h => h.elim) fun b hb => g2.block b (hq10.ge b hb).2 (fun e => by have := hcge b e.symm; have := hqlt b hb; omega)
  have ha11 := ha10.grown g2 ha10.size (fun b hb => by have := hcge b hb; have := ha7s; omega)
  have hx11 := g1.sl'
  have s1011 : w10.heap.size ≤ w11.heap.size := g2.size
  obtain ⟨M, hM⟩ : ∃ M : List UInt8, M = m ++ [0] := ⟨_, rfl⟩
  have hMl : M.length ≤ 21 := by rw [hM]; simp; omega
  have hM0 : 0 < M.length := by rw [hM]; simp
  rw [← hM] at hx11
  clear hM hcge hqlt hq10 hc10 ha10 g1 g2 g3 k1 hcl
  go_wp2_with (first | ((with_reducible apply wpList_unguard); rfl) | ((with_reducible (first | apply len_B)); assumption) | ((with_reducible refine stop_if kX ?_ ?_); rfl))
  refine Stop.go (app_B hq11 hx11 (by omega) (by omega) fun y w12 i1 i2 i3 => ?_)
  have i2 : w11.grownBy w12 q.ownBlock := i2
  have ha12 := ha11.grown i2 ha11.size (fun b hb => by have := (hq11.ge b hb).1; omega)
  have hy := i1.sl'
  have hu2 := nunp_bad (L := plim) (HM.out M hM0) (by decide)
  have hyl : (F ++ M).length ≤ 5000 := by rw [List.length_append]; omega
  generalize F ++ M = G2 at *
  clear hq11 hx11 ha11 i1 i2 i3 HM HC hMl hM0
  go_wp2_with (first | ((with_reducible apply wpList_unguard); rfl) | ((with_reducible (first | apply len_B)); assumption) | ((with_reducible refine stop_if kX ?_ ?_); rfl))
  refine (nunpack_any w12 _ G2 y (hB.below ha12 (Nat.le_refl _)) (hN.below ha12 (Nat.le_refl _)) hy (by omega)).mono ?_
  rw [hu2]
  rintro e w13 ⟨V13, rfl, hV13, hb13⟩
  have hV13 : Nt w13 (fun b => w12.heap.size ≤ b) zeroN V13 := hV13
  have ha13 := below_on ha12 hb13 ha12.size
  clear hu2 hy hyl hb13 ha12
  obtain ⟨bp, bo, bv, bh, rfl, z1, z2, z3, z4⟩ := nt_shape hV13
  have one2 := noteV_one zeroN z1 z2 z3 z4
  go_wp2_with (first | ((with_reducible apply wpList_unguard); rfl) | ((with_reducible (first | apply len_B)); assumption) | ((with_reducible refine stop_if kX ?_ ?_); rfl))
  refine Stop.go (blk_alloc (z := .agg zeroCells) (cs := zeroCells) (zero_run (by kernel_rfl)) rfl fun d2 w14 k14 hd14 ha14 => ?_)
  go_wp2_with (first | ((with_reducible apply wpList_unguard); rfl) | ((with_reducible (first | apply len_B)); assumption) | ((with_reducible refine stop_if kX ?_ ?_); rfl))
  refine Stop.go (blk_store_all (cs' := (noteV zeroN bp bo bv bh).cells) k14 rfl rfl (by kernel_rfl) rfl one2 fun w15 k15 o15 z15 => ?_)
  have o35 : Only (fun k => w13.heap.size ≤ k) w13 w15 := (Only.of_below ha14).trans o15 fun k hk e => by omega
  have ha15 := below_only ha13 o35 fun b hb => by have := ha13.size; omega
  clear k14 ha14 k15 o15 z15 hV13 one2 z1 z2 z3 z4 ha13 o35
  go_wp2_with (fail)
  go_ret
  exact ⟨rfl, ha15⟩
theorem noteCuts_true (w : World) (hN : Srt w) (hB : Nib w) {S S' : Nat → Prop} {n0 : NoteR} {V : Value} {n : Nat} {l : List UInt8} {p : Value} (hV : Nt w S n0 V) (hk : n < 65536) (hp : Sl w S' l p) :
    Calls Tryd.prog 6 #[V, .int .u16 (n : Int), p] w fun e w' => e = .returned (.bool true) ∧ Below w.heap.size w w' := noteCuts_any w hN hB S S' n0 V hV n hk l p hp
end Go.Proofs.YtjkffjngamagkaaDoor
