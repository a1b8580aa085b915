/- package caller: Batches, Questions. -/
import Derived.Test.YtjkffjngamagkaaDoorCal5
namespace Go.Arm
open Go.RowKit
theorem map_take_snoc {α β : Type} (f : α → β) (l : List α) (j : Nat) (x : α) (h : l[j]? = some x) : (l.take (j + 1)).map f = (l.take j).map f ++ [f x] := by
 obtain ⟨hlt, rfl⟩ := List.getElem?_eq_some_iff.1 h
 rw [List.take_succ_eq_append_getElem hlt, List.map_append]
 rfl
end Go.Arm
namespace Go.Proofs.YtjkffjngamagkaaDoor
open Go Go.RowKit Go.Arm
theorem cloneV_any (w : World) (S : Nat → Prop) (l : List Int32) (p : Value) (hp : Sl w S l p) (hl : l.length ≤ 1000000) :
  Calls Tryd.prog 87 #[p] w fun e w' => ∃ v, e = .returned v ∧ Own w' w.heap.size 21 (fun _ => False) l v ∧ Below w.heap.size w w' := by
 obtain ⟨ao, cap, cs, rfl, g1, g2, g3, g4, g5, g6⟩ := hp
 cases ao with
 | none =>
  obtain rfl := g3 rfl
  obtain rfl : l = [] := List.eq_nil_of_length_eq_zero (by omega)
  change Calls _ _ #[.slice none 0 0] _ _
  have hq := fun w => Lib.run_eql_slice_nil (P := Tryd.prog) w 30 21 none 0 0 0 0 Tryd.underlying30
  go_enter Tryd.func87, Tryd.ntmps87
  go_wp2_with (first | ((with_reducible apply ugZ); rfl) | ((with_reducible (first | apply len_B | apply len_BB | apply len_N | apply len_V | apply len_VV)); assumption) | ((with_reducible refine stop_if kS ?_ ?_); rfl))
  go_ret
  exact ⟨_, rfl, Own.nil _ _ _ _, Below.refl _ _⟩
 | some ad =>
  have hp : Sl w S l (.slice (some ad) l.length cap) := ⟨some ad, cap, cs, rfl, g1, g2, g3, g4, g5, g6⟩
  clear g1 g2 g3 g4 g5 g6
  have hq := fun w => Lib.run_eql_slice_nil (P := Tryd.prog) w 30 21 (some ad) l.length cap 0 0 Tryd.underlying30
  go_enter Tryd.func87, Tryd.ntmps87
  go_wp2_with (first | ((with_reducible apply ugZ); rfl) | ((with_reducible (first | apply len_B | apply len_BB | apply len_N | apply len_V | apply len_VV)); assumption) | ((with_reducible refine stop_if kS ?_ ?_); rfl))
  refine Stop.go (build_V (S := fun _ => False) ([] : List Int32) [] rfl rfl rds_V (by simp) fun v w1 hv1 k2 k3 k4 => ?_)
  have hb0 := below_of_grown k2 (Nat.le_refl _) (by simp)
  have hp1 := hp.grown0 k2
  go_wp2_with (first | ((with_reducible apply ugZ); rfl) | ((with_reducible (first | apply len_B | apply len_BB | apply len_N | apply len_V | apply len_VV)); assumption) | ((with_reducible refine stop_if kS ?_ ?_); rfl))
  refine Stop.go (app_V (l := []) hv1 hp1 (by simp; omega) hb0.size fun v' w2 h1 h2 h3 => ?_)
  have hb1 := hb0.grown h2 hb0.size (fun k hk => (hv1.ge k hk).1)
  go_wp2_with (first | ((with_reducible apply ugZ); rfl) | ((with_reducible (first | apply len_B | apply len_BB | apply len_N | apply len_V | apply len_VV)); assumption) | ((with_reducible refine stop_if kS ?_ ?_); rfl))
  go_ret
  exact ⟨v', rfl, by simpa using h1, hb1⟩
set_option maxHeartbeats 4000000 in
set_option maxRecDepth 100000 in
theorem batches_any (w : World) (base : Nat) (M S : Nat → Prop) (g : Nat) (c : CallR) (hC : CalP w base M S g c) (hF : Fr w base M S) (hOk : c.Ok) :
  Calls Tryd.prog 41 #[.pointer (some ⟨g, 0, none⟩)] w fun e w' => ∃ v, e = .returned v ∧ Sl w' (fun k => w.heap.size ≤ k ∧ k < w'.heap.size) (c.B.map WantR.bat) v ∧ Below w.heap.size w w' := by
 obtain ⟨hB6, _, _, _⟩ := hOk
 obtain ⟨vb, vq, bs, qs, hg, hgb, hMg, hvb, hMvb, hvq, hMvq, hEb, hEq⟩ := hC
 have hMlt : ∀ k, M k → k < w.heap.size := fun k hk => (hF k hk).2.1
 have hvs := hvb.sl'
 have HLB := Lib.hid hEb.1
 have hbl : bs.length ≤ 64 := by have := hEb.1; omega
 go_enter Tryd.func41, Tryd.ntmps41
 go_wp2_with (first | ((with_reducible apply ugZ); rfl) | ((with_reducible (first | apply len_B | apply len_PB | apply len_PQ | apply len_L | apply len_Bat | apply len_Qst | apply len_H)); assumption) | ((with_reducible refine stop_ig kC ?_ ?_); rfl))
 refine Stop.go (blk_load vb onePBs hg rfl rfl ?_)
 go_wp2_with (first | ((with_reducible apply ugZ); rfl) | ((with_reducible (first | apply len_B | apply len_PB | apply len_PQ | apply len_L | apply len_Bat | apply len_Qst | apply len_H)); assumption) | ((with_reducible refine stop_ig kC ?_ ?_); rfl))
 go_loopg [3, 5, 13] (bs.length + 1) (fun k x3 x5 i wr => ∃ (j : Nat) (D : List BatR), k = bs.length - j + 1 ∧ j ≤ bs.length ∧ i = .int .i64 j ∧ D = (c.B.take j).map WantR.bat ∧ D.length ≤ j ∧ OwnG wr w.heap.size 90 D x3 ∧ Below w.heap.size w wr)
 case atStart => exact ⟨0, [], by omega, by omega, rfl, rfl, Nat.le_refl _, OwnG.nil _ _ _, Below.refl _ _⟩
 case round =>
  obtain ⟨j, D, hk, hj, rfl, hD, hDl, ho, hbr⟩ := hrel
  have Hk := Lib.hid hk
  have HD := Lib.hid hD
  clear hk hD
  have hpr := hvs.below hbr (Nat.le_refl _)
  have swr := hbr.size
  by_cases hlt : j < bs.length
  ·go_wp2_with (first | ((with_reducible apply ugZ); rfl) | ((with_reducible (first | apply len_B | apply len_PB | apply len_PQ | apply len_L | apply len_Bat | apply len_Qst | apply len_H)); assumption) | ((with_reducible refine stop_ig kC ?_ ?_); rfl))
   refine Stop.go (idx_PB hpr rfl (by omega) (by omega) fun b o y hy hc => ?_)
   have hy : bs[j]? = some y := by simpa using hy
   obtain ⟨z, hz⟩ : ∃ z, c.B[j]? = some z := ⟨_, List.getElem?_eq_getElem (by have := HLB.out; omega)⟩
   have hylt := hMlt y (hEb.2.2.1 y (List.mem_of_getElem? hy)).2
   obtain ⟨v, hbk, _⟩ := (hEb.2.2.2 j y z hy hz).keep (w' := wr) (S' := (· < w.heap.size)) (hbr.block y hylt) fun k hk hlt => ⟨hbr.block k hlt, hlt⟩
   have hsn := map_take_snoc WantR.bat c.B j z hz
   have HSN := Lib.hid hsn
   clear hy hz hsn hpr
   go_wp2_with (first | ((with_reducible apply ugZ); rfl) | ((with_reducible (first | apply len_B | apply len_PB | apply len_PQ | apply len_L | apply len_Bat | apply len_Qst | apply len_H)); assumption) | ((with_reducible refine stop_ig kC ?_ ?_); rfl))
   refine Stop.go (cell_load onePB hc rfl ?_)
   go_wp2_with (first | ((with_reducible apply ugZ); rfl) | ((with_reducible (first | apply len_B | apply len_PB | apply len_PQ | apply len_L | apply len_Bat | apply len_Qst | apply len_H)); assumption) | ((with_reducible refine stop_ig kC ?_ ?_); rfl))
   refine Stop.go (blk_load_sub [.int .u64 (z.note.batch.toNat : Int), .bool z.over, .int .i64 z.code, .int .u64 (z.stamp.toNat : Int)] Tryd.underlying90 rfl (by kernel_rfl) hbk rfl rfl ?_)
   go_wp2_with (first | ((with_reducible apply ugZ); rfl) | ((with_reducible (first | apply len_B | apply len_PB | apply len_PQ | apply len_L | apply len_Bat | apply len_Qst | apply len_H)); assumption) | ((with_reducible refine stop_ig kC ?_ ?_); rfl))
   refine Stop.go (wpList_lit1 (α := BatR) (S := fun _ => False) rowBat rfl (by decide) (by decide) z.bat rfl rfl fun v9 w9 m1 m2 m3 m4 => ?_)
   have olt : ∀ k, u3.ownBlock = some k → w.heap.size ≤ k ∧ k < wr.heap.size := fun k hk => ho.ge k hk
   have hB9 := hbr.grown0 m2 hbr.size
   have ho9 := ho.grown0 m2
   have m1 := m1.sl'
   clear m2 m3 m4 hc hbk
   go_wp2_with (first | ((with_reducible apply ugZ); rfl) | ((with_reducible (first | apply len_B | apply len_PB | apply len_PQ | apply len_L | apply len_Bat | apply len_Qst | apply len_H)); assumption) | ((with_reducible refine stop_ig kC ?_ ?_); rfl))
   refine Stop.go (wpList_appendG (α := BatR) (B := w.heap.size) (l := D) (m := [z.bat]) rowBat rfl (by decide) ho9 m1 (fun b hb _ => ⟨by omega, fun e => by have := (olt b e).2; omega⟩) (by simp only [maxLen, List.length_singleton]; omega) (by simp only [List.length_singleton]; omega) hB9.size fun v10 w10 g1 g2 g3 => ?_)
   have g2 : w9.grownBy w10 u3.ownBlock := g2
   have hB10 := hB9.grown g2 hB9.size (fun k hk => (olt k hk).1)
   clear ho9 m1 hB9 g2 g3 olt ho hbr
   go_wp2_with (fail)
   go_roundg (bs.length - (j + 1) + 1)
   case measure => have := Hk.out; omega
   case rel => exact ⟨j + 1, D ++ [z.bat], by omega, by omega, by go_num, by rw [HSN.out, HD.out], by simp; omega, g1, hB10⟩
  ·have HDB : Hid (D = c.B.map WantR.bat) := Lib.hid (by rw [HD.out, List.take_of_length_le (by have := HLB.out; omega)])
   go_wp2_with (fail)
   go_ret
   rw [← HDB.out]
   exact ⟨_, rfl, ho.sl, hbr⟩
set_option maxHeartbeats 8000000 in
set_option maxRecDepth 100000 in
theorem questions_any (w : World) (base : Nat) (M S : Nat → Prop) (g : Nat) (c : CallR) (hC : CalP w base M S g c) (hF : Fr w base M S) (hOk : c.Ok) :
  Calls Tryd.prog 42 #[.pointer (some ⟨g, 0, none⟩)] w fun e w' => ∃ v, e = .returned v ∧ Sl w' (fun k => w.heap.size ≤ k ∧ k < w'.heap.size) (c.Q.map WantR.qst) v ∧ Below w.heap.size w w' := by
 obtain ⟨_, hQ6, _, hH⟩ := hOk
 obtain ⟨vb, vq, bs, qs, hg, hgb, hMg, hvb, hMvb, hvq, hMvq, hEb, hEq⟩ := hC
 have hMlt : ∀ k, M k → k < w.heap.size := fun k hk => (hF k hk).2.1
 have hvs := hvq.sl'
 have HLB := Lib.hid hEq.1
 have hbl : qs.length ≤ 64 := by have := hEq.1; omega
 have HH := Lib.hid hH
 clear hH
 go_enter Tryd.func42, Tryd.ntmps42
 go_wp2_with (first | ((with_reducible apply ugZ); rfl) | ((with_reducible (first | apply len_B | apply len_PB | apply len_PQ | apply len_L | apply len_Bat | apply len_Qst | apply len_H)); assumption) | ((with_reducible refine stop_ig kC ?_ ?_); rfl))
 refine Stop.go (blk_load vq onePQs hg rfl rfl ?_)
 go_wp2_with (first | ((with_reducible apply ugZ); rfl) | ((with_reducible (first | apply len_B | apply len_PB | apply len_PQ | apply len_L | apply len_Bat | apply len_Qst | apply len_H)); assumption) | ((with_reducible refine stop_ig kC ?_ ?_); rfl))
 go_loopg [3, 5, 6, 8, 16] (qs.length + 1) (fun k x3 x5 x6 x8 i wr => ∃ (j : Nat) (D : List QstR), k = qs.length - j + 1 ∧ j ≤ qs.length ∧ i = .int .i64 j ∧ D = (c.Q.take j).map WantR.qst ∧ D.length ≤ j ∧ OwnG wr w.heap.size 94 D x3 ∧ Below w.heap.size w wr)
 case atStart => exact ⟨0, [], by omega, by omega, rfl, rfl, Nat.le_refl _, OwnG.nil _ _ _, Below.refl _ _⟩
 case round =>
  obtain ⟨j, D, hk, hj, rfl, hD, hDl, ho, hbr⟩ := hrel
  have Hk := Lib.hid hk
  have HD := Lib.hid hD
  clear hk hD
  have hpr := hvs.below hbr (Nat.le_refl _)
  have swr := hbr.size
  by_cases hlt : j < qs.length
  ·go_wp2_with (first | ((with_reducible apply ugZ); rfl) | ((with_reducible (first | apply len_B | apply len_PB | apply len_PQ | apply len_L | apply len_Bat | apply len_Qst | apply len_H)); assumption) | ((with_reducible refine stop_ig kC ?_ ?_); rfl))
   refine Stop.go (idx_PQ hpr rfl (by omega) (by omega) fun b o y hy hc => ?_)
   have hy : qs[j]? = some y := by simpa using hy
   obtain ⟨z, hz⟩ : ∃ z, c.Q[j]? = some z := ⟨_, List.getElem?_eq_getElem (by have := HLB.out; omega)⟩
   have hylt := hMlt y (hEq.2.2.1 y (List.mem_of_getElem? hy)).2
   obtain ⟨vh, v, hbk, hvh, _⟩ := (hEq.2.2.2 j y z hy hz).keep (w' := wr) (S' := (· < w.heap.size)) (hbr.block y hylt) fun k hk hlt => ⟨hbr.block k hlt, hlt⟩
   have hsn := map_take_snoc WantR.qst c.Q j z hz
   have HSN := Lib.hid hsn
   have hzh := HH.out z (List.mem_of_getElem? hz)
   have hhl := hzh.1
   have HV := Lib.hid hzh.2
   clear hy hz hsn hpr hzh
   go_wp2_with (first | ((with_reducible apply ugZ); rfl) | ((with_reducible (first | apply len_B | apply len_PB | apply len_PQ | apply len_L | apply len_Bat | apply len_Qst | apply len_H)); assumption) | ((with_reducible refine stop_ig kC ?_ ?_); rfl))
   refine Stop.go (cell_load onePQ hc rfl ?_)
   go_wp2_with (first | ((with_reducible apply ugZ); rfl) | ((with_reducible (first | apply len_B | apply len_PB | apply len_PQ | apply len_L | apply len_Bat | apply len_Qst | apply len_H)); assumption) | ((with_reducible refine stop_ig kC ?_ ?_); rfl))
   refine Stop.go (blk_load_sub [.int .u64 (z.note.query.toNat : Int), .bool z.over, .int .i64 z.code, .int .u64 (z.stamp.toNat : Int), vh] Tryd.underlying94 rfl (by kernel_rfl) hbk rfl rfl ?_)
   obtain ⟨ha, hn, hcp, rfl⟩ := Sl.shape hvh
   go_wp2_with (first | ((with_reducible apply ugZ); rfl) | ((with_reducible (first | apply len_B | apply len_PB | apply len_PQ | apply len_L | apply len_Bat | apply len_Qst | apply len_H)); assumption) | ((with_reducible refine stop_ig kC ?_ ?_); rfl))
   refine Stop.go (blk_alloc (z := .agg #[.int .u64 0, .bool false, .int .i64 0, .int .u64 0, .slice none 0 0]) (cs := #[.int .u64 0, .bool false, .int .i64 0, .int .u64 0, .slice none 0 0]) (zero_run (by kernel_rfl)) rfl fun bx w1 hx hxge hb1 => ?_)
   go_wp2_with (first | ((with_reducible apply ugZ); rfl) | ((with_reducible (first | apply len_B | apply len_PB | apply len_PQ | apply len_L | apply len_Bat | apply len_Qst | apply len_H)); assumption) | ((with_reducible refine stop_ig kC ?_ ?_); rfl))
   refine Stop.go (blk_store_all (cs' := #[.int .u64 (z.note.query.toNat : Int), .bool z.over, .int .i64 z.code, .int .u64 (z.stamp.toNat : Int), .slice ha hn hcp]) hx rfl rfl (by kernel_rfl) rfl (by simp [Value.oneCell']) fun w2 hx2 o2 s2 => ?_)
   go_wp2_with (first | ((with_reducible apply ugZ); rfl) | ((with_reducible (first | apply len_B | apply len_PB | apply len_PQ | apply len_L | apply len_Bat | apply len_Qst | apply len_H)); assumption) | ((with_reducible refine stop_ig kC ?_ ?_); rfl))
   refine Stop.go (blk_store (.slice none 0 0) oneH hx2 rfl rfl rfl rfl (by simp) fun w3 hx3 o3 s3 => ?_)
   have hx3 : Blk w3 bx 94 #[.int .u64 (z.note.query.toNat : Int), .bool z.over, .int .i64 z.code, .int .u64 (z.stamp.toNat : Int), .slice none 0 0] := hx3
   have hb3 : Below wr.heap.size wr w3 := (hb1.trans (o2.below (by have := hb1.size; omega) (by rintro k rfl; exact hxge))).trans (o3.below (by have := hb1.size; omega) (by rintro k rfl; exact hxge))
   have hbk3 := hbk.below hb3 (by omega)
   have hvh3 := hvh.below hb3 (Nat.le_refl _)
   have hxl := hx3.lt
   have s13 := hb3.size
   have hB3 := below_on hbr hb3 hbr.size
   have hol : ∀ k, u3.ownBlock = some k → w.heap.size ≤ k ∧ k < wr.heap.size := fun k hk => ho.ge k hk
   have hbr0 := hbr
   clear hx hb1 hx2 o2 o3 s2 s3 hbk hvh hbr hc
   go_wp2_with (first | ((with_reducible apply ugZ); rfl) | ((with_reducible (first | apply len_B | apply len_PB | apply len_PQ | apply len_L | apply len_Bat | apply len_Qst | apply len_H)); assumption) | ((with_reducible refine stop_ig kC ?_ ?_); rfl))
   refine Stop.go (blk_load (.slice ha hn hcp) oneH hbk3 rfl rfl ?_)
   go_wp2_with (first | ((with_reducible apply ugZ); rfl) | ((with_reducible (first | apply len_B | apply len_PB | apply len_PQ | apply len_L | apply len_Bat | apply len_Qst | apply len_H)); assumption) | ((with_reducible refine stop_ig kC ?_ ?_); rfl))
   have hhl' : (z.hits.length : Int) ≤ 16 := by omega
   clear hhl hbk3
   obtain ⟨wo, rfl⟩ : ∃ wo : World, wo = wr := ⟨_, rfl⟩
   go_loopg [8, 31] (z.hits.length + 1) (fun k x8 i wq => ∃ (m : Nat) (E : List HitR) (v : Value), k = z.hits.length - m + 1 ∧ m ≤ z.hits.length ∧ i = .int .i64 m ∧ E = z.hits.take m ∧ E.length ≤ m ∧ OwnG wq w3.heap.size 114 E v ∧ Blk wq bx 94 #[.int .u64 (z.note.query.toNat : Int), .bool z.over, .int .i64 z.code, .int .u64 (z.stamp.toNat : Int), v] ∧ Only (fun k => k = bx ∨ w3.heap.size ≤ k) w3 wq)
   case atStart => exact ⟨0, [], .slice none 0 0, by omega, by omega, rfl, rfl, Nat.le_refl _, OwnG.nil _ _ _, hx3, Only.refl _ _⟩
   case round =>
    obtain ⟨m, E, ve, hkm, hm, rfl, hE, hEl, hoe, hxq, hoq⟩ := hrel
    have HKM := Lib.hid hkm
    have HE := Lib.hid hE
    clear hkm hE
    have sq := hoq.size
    have hvhq := hvh3.only hoq (fun b hb hlt => by omega)
    by_cases hltm : m < z.hits.length
    ·go_wp2_with (first | ((with_reducible apply ugZ); rfl) | ((with_reducible (first | apply len_B | apply len_PB | apply len_PQ | apply len_L | apply len_Bat | apply len_Qst | apply len_H)); assumption) | ((with_reducible refine stop_ig kC ?_ ?_); rfl))
     refine Stop.go (idx_H hvhq rfl (by omega) (by omega) fun bh oh y yv hy hyv c0 c1 c2 => ?_)
     have hy : z.hits[m]? = some y := by simpa using hy
     have hyl := HV.out y (List.mem_of_getElem? hy)
     have hyt : z.hits.take (m + 1) = z.hits.take m ++ [y] := by have := map_take_snoc id z.hits m y hy; simpa using this
     have HYT := Lib.hid hyt
     clear hy hyt
     obtain ⟨ya, yn, yc, rfl⟩ := Sl.shape hyv
     go_wp2_with (first | ((with_reducible apply ugZ); rfl) | ((with_reducible (first | apply len_B | apply len_PB | apply len_PQ | apply len_L | apply len_Bat | apply len_Qst | apply len_H)); assumption) | ((with_reducible refine stop_ig kC ?_ ?_); rfl))
     refine Stop.go (cells_load [.int .u64 (y.id.toNat : Int), .int .u64 (y.dist.toNat : Int), .slice ya yn yc] Tryd.underlying114 rfl (by kernel_rfl) rfl (cells3 c0 c1 c2) ?_)
     go_wp2_with (first | ((with_reducible apply ugZ); rfl) | ((with_reducible (first | apply len_B | apply len_PB | apply len_PQ | apply len_L | apply len_Bat | apply len_Qst | apply len_H)); assumption) | ((with_reducible refine stop_ig kC ?_ ?_); rfl))
     refine Stop.go (blk_alloc (z := .agg #[.int .u64 0, .int .u64 0, .slice none 0 0]) (cs := #[.int .u64 0, .int .u64 0, .slice none 0 0]) (zero_run (by kernel_rfl)) rfl fun bt w4 ht htge hb4 => ?_)
     go_wp2_with (first | ((with_reducible apply ugZ); rfl) | ((with_reducible (first | apply len_B | apply len_PB | apply len_PQ | apply len_L | apply len_Bat | apply len_Qst | apply len_H)); assumption) | ((with_reducible refine stop_ig kC ?_ ?_); rfl))
     refine Stop.go (blk_store_all (cs' := #[.int .u64 (y.id.toNat : Int), .int .u64 (y.dist.toNat : Int), .slice ya yn yc]) ht rfl rfl (by kernel_rfl) rfl (by simp [Value.oneCell']) fun w5 ht5 o5 s5 => ?_)
     have hb5 : Below wr.heap.size wr w5 := hb4.trans (o5.below hb4.size (by rintro k rfl; exact htge))
     have hyv5 := hyv.below hb5 (Nat.le_refl _)
     have s45 := hb5.size
     have hbtl := ht5.lt
     clear ht hb4 o5 s5 c0 c1 c2 hyv hvhq
     go_wp2_with (first | ((with_reducible apply ugZ); rfl) | ((with_reducible (first | apply len_B | apply len_PB | apply len_PQ | apply len_L | apply len_Bat | apply len_Qst | apply len_H)); assumption) | ((with_reducible refine stop_ig kC ?_ ?_); rfl))
     refine Stop.go (blk_load (.slice ya yn yc) oneV ht5 rfl rfl ?_)
     go_wp2_with (first | ((with_reducible apply ugZ); rfl) | ((with_reducible (first | apply len_B | apply len_PB | apply len_PQ | apply len_L | apply len_Bat | apply len_Qst | apply len_H)); assumption) | ((with_reducible refine stop_ig kC ?_ ?_); rfl))
     refine (cloneV_any w5 _ y.vec _ hyv5 (by omega)).mono ?_
     rintro e w6 ⟨cv, rfl, hcv, hb6⟩
     have ht6 := ht5.below hb6 hbtl
     have hb6' := below_on hb5 hb6 hb5.size
     have s56 := hb6.size
     have hcne := own_ne hcv ht6 (by decide)
     obtain ⟨ca, cn, cc, rfl⟩ := Own.shape hcv
     have HCNE := Lib.hid hcne
     clear ht5 hb5 hyv5 hb6 hcne
     go_wp2_with (first | ((with_reducible apply ugZ); rfl) | ((with_reducible (first | apply len_B | apply len_PB | apply len_PQ | apply len_L | apply len_Bat | apply len_Qst | apply len_H)); assumption) | ((with_reducible refine stop_ig kC ?_ ?_); rfl))
     refine Stop.go (blk_store (.slice ca cn cc) oneV ht6 rfl rfl rfl rfl (by simp) fun w7 ht7 o7 s7 => ?_)
     have ht7 : Blk w7 bt 114 #[.int .u64 (y.id.toNat : Int), .int .u64 (y.dist.toNat : Int), .slice ca cn cc] := ht7
     have hb7 : Below wr.heap.size wr w7 := hb6'.trans (o7.below hb6'.size (by rintro k rfl; exact htge))
     have hcv7 := (hcv.only o7 (fun b hb e => HCNE.out (e ▸ hb))).sl'
     have hoe7 := OwnG.below hoe hb7 (Nat.le_refl _)
     have hxlt := hxq.lt
     have hx7 := hxq.below hb7 hxlt
     have velt : ∀ k, ve.ownBlock = some k → w3.heap.size ≤ k ∧ k < wr.heap.size := fun k hk => hoe.ge k hk
     have s7' := hb7.size
     have s57 : w5.heap.size ≤ w7.heap.size := by have := o7.size; omega
     clear hcv ht6 hb6' o7 s7 hoe hxq HCNE
     go_wp2_with (first | ((with_reducible apply ugZ); rfl) | ((with_reducible (first | apply len_B | apply len_PB | apply len_PQ | apply len_L | apply len_Bat | apply len_Qst | apply len_H)); assumption) | ((with_reducible refine stop_ig kC ?_ ?_); rfl))
     refine Stop.go (blk_load ve oneH hx7 rfl rfl ?_)
     go_wp2_with (first | ((with_reducible apply ugZ); rfl) | ((with_reducible (first | apply len_B | apply len_PB | apply len_PQ | apply len_L | apply len_Bat | apply len_Qst | apply len_H)); assumption) | ((with_reducible refine stop_ig kC ?_ ?_); rfl))
     refine Stop.go (blk_load_all Tryd.underlying114 rfl (by kernel_rfl) ht7 rfl ?_)
     go_wp2_with (first | ((with_reducible apply ugZ); rfl) | ((with_reducible (first | apply len_B | apply len_PB | apply len_PQ | apply len_L | apply len_Bat | apply len_Qst | apply len_H)); assumption) | ((with_reducible refine stop_ig kC ?_ ?_); rfl))
     refine Stop.go (wpList_lit1 (α := HitR) (S := fun k => w5.heap.size ≤ k) rowH rfl (by decide) (by decide) y rfl ⟨.slice ca cn cc, rfl, hcv7⟩ fun v8 w8 m1 m2 m3 m4 => ?_)
     have hoe8 := hoe7.grown0 m2
     have hx8 := hx7.grown m2 (by simp)
     have m1 : Sl w8 (fun k => w5.heap.size ≤ k) [y] v8 := m1.sl (fun k h _ => h) fun k hk => by rw [m3] at hk; cases hk; exact s57
     have o78 := Only.of_grown m2
     have s78 := o78.size
     clear ht7 hcv7 hoe7 hx7 m2 m3 m4
     go_wp2_with (first | ((with_reducible apply ugZ); rfl) | ((with_reducible (first | apply len_B | apply len_PB | apply len_PQ | apply len_L | apply len_Bat | apply len_Qst | apply len_H)); assumption) | ((with_reducible refine stop_ig kC ?_ ?_); rfl))
     refine Stop.go (wpList_appendG (α := HitR) (B := w3.heap.size) (l := E) (m := [y]) rowH rfl (by decide) hoe8 m1 (fun b hb _ => ⟨by omega, fun e => by have := (velt b e).2; omega⟩) (by simp only [maxLen, List.length_singleton]; omega) (by simp only [List.length_singleton]; omega) (by omega) fun v9 w9 g1 g2 g3 => ?_)
     have g2 : w8.grownBy w9 ve.ownBlock := g2
     have hx9 := hx8.grown g2 (fun e => by have := (velt bx e).1; omega)
     have o89 := Only.of_grown g2
     have s89 := o89.size
     obtain ⟨pa, pn, pc, rfl⟩ := Own.shape g1
     clear hoe8 m1 g2 g3 hx8
     go_wp2_with (first | ((with_reducible apply ugZ); rfl) | ((with_reducible (first | apply len_B | apply len_PB | apply len_PQ | apply len_L | apply len_Bat | apply len_Qst | apply len_H)); assumption) | ((with_reducible refine stop_ig kC ?_ ?_); rfl))
     refine Stop.go (blk_store (.slice pa pn pc) oneH hx9 rfl rfl rfl rfl (by simp) fun w10 hx10 o10 s10 => ?_)
     have hx10 : Blk w10 bx 94 #[.int .u64 (z.note.query.toNat : Int), .bool z.over, .int .i64 z.code, .int .u64 (z.stamp.toNat : Int), .slice pa pn pc] := hx10
     have hoe10 := OwnG.only g1 o10 (fun b hb _ e => by omega)
     have oAll : Only (fun k => k = bx ∨ w3.heap.size ≤ k) w3 w10 := (((hoq.trans ((Only.of_below hb7).mono (G := fun k => k = bx ∨ w3.heap.size ≤ k) fun k _ h => .inr (by omega)) (fun _ _ h => h)).trans (o78.mono (G := fun k => k = bx ∨ w3.heap.size ≤ k) fun k _ h => by cases h) (fun _ _ h => h)).trans (o89.mono (G := fun k => k = bx ∨ w3.heap.size ≤ k) fun k _ h => .inr (velt k h).1) (fun _ _ h => h)).trans (o10.mono (G := fun k => k = bx ∨ w3.heap.size ≤ k) fun k _ h => .inl h) (fun _ _ h => h)
     clear hx9 g1 o10 o78 o89 hb7 hoq velt
     go_wp2_with (fail)
     go_roundg (z.hits.length - (m + 1) + 1)
     case measure => have := HKM.out; omega
     case rel => exact ⟨m + 1, E ++ [y], .slice pa pn pc, by omega, by omega, by go_num, by rw [HYT.out, HE.out], by simp; omega, hoe10, hx10, oAll⟩
    ·have e : E = z.hits := by rw [HE.out, List.take_of_length_le (by omega)]
     subst e
     have hbw : Below wo.heap.size wo wr := hb3.trans (hoq.below s13 (by rintro k (rfl | h) <;> omega))
     have how := OwnG.below ho hbw (Nat.le_refl _)
     have hBw := below_on hbr0 hbw hbr0.size
     have hves := hoe.sl
     obtain ⟨va, vn, vc, rfl⟩ := Own.shape hoe
     have swr2 := hBw.size
     have s3r := hoq.size
     clear HE hoe hoq hbw hvh3 hvhq HKM
     go_wp2_with (first | ((with_reducible apply ugZ); rfl) | ((with_reducible (first | apply len_B | apply len_PB | apply len_PQ | apply len_L | apply len_Bat | apply len_Qst | apply len_H)); assumption) | ((with_reducible refine stop_ig kC ?_ ?_); rfl))
     refine Stop.go (blk_load_all Tryd.underlying94 rfl (by kernel_rfl) hxq rfl ?_)
     go_wp2_with (first | ((with_reducible apply ugZ); rfl) | ((with_reducible (first | apply len_B | apply len_PB | apply len_PQ | apply len_L | apply len_Bat | apply len_Qst | apply len_H)); assumption) | ((with_reducible refine stop_ig kC ?_ ?_); rfl))
     refine Stop.go (wpList_lit1 (α := QstR) (S := fun k => wo.heap.size ≤ k) rowQst rfl (by decide) (by decide) z.qst rfl ⟨.slice va vn vc, rfl, hves.wide fun b hb _ => by omega⟩ fun v8 w8 m1 m2 m3 m4 => ?_)
     have how8 := how.grown0 m2
     have hB8 := hBw.grown0 m2 hBw.size
     have m1 : Sl w8 (fun k => wo.heap.size ≤ k) [z.qst] v8 := m1.sl (fun k h _ => h) fun k hk => by rw [m3] at hk; cases hk; omega
     clear hves how hBw m2 m3 m4 hxq
     go_wp2_with (first | ((with_reducible apply ugZ); rfl) | ((with_reducible (first | apply len_B | apply len_PB | apply len_PQ | apply len_L | apply len_Bat | apply len_Qst | apply len_H)); assumption) | ((with_reducible refine stop_ig kC ?_ ?_); rfl))
     refine Stop.go (wpList_appendG (α := QstR) (B := w.heap.size) (l := D) (m := [z.qst]) rowQst rfl (by decide) how8 m1 (fun b hb _ => ⟨by omega, fun e => by have := (hol b e).2; omega⟩) (by simp only [maxLen, List.length_singleton]; omega) (by simp only [List.length_singleton]; omega) hB8.size fun v9 w9 g1 g2 g3 => ?_)
     have g2 : w8.grownBy w9 u3.ownBlock := g2
     have hB9 := hB8.grown g2 hB8.size (fun k hk => (hol k hk).1)
     clear how8 m1 hB8 g2 g3
     go_wp2_with (fail)
     go_roundg (qs.length - (j + 1) + 1)
     case measure => have := Hk.out; omega
     case rel => exact ⟨j + 1, D ++ [z.qst], by omega, by omega, by go_num, by rw [HSN.out, HD.out], by simp; omega, g1, hB9⟩
  ·have HDB : Hid (D = c.Q.map WantR.qst) := Lib.hid (by rw [HD.out, List.take_of_length_le (by have := HLB.out; omega)])
   go_wp2_with (fail)
   go_ret
   rw [← HDB.out]
   exact ⟨_, rfl, ho.sl, hbr⟩
end Go.Proofs.YtjkffjngamagkaaDoor
