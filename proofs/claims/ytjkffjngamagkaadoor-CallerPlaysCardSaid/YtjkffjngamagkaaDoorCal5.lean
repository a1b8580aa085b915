/- package caller: Wake, Idle. -/
import Derived.Test.YtjkffjngamagkaaDoorCal4
namespace Go.Arm
open Go.RowKit
theorem letsOf_snoc (self : Int) (l : List WantR) (j : Nat) (x : WantR) (h : l[j]? = some x) : letsOf self (l.take (j + 1)) = letsOf self (l.take j) ++ if x.over then [] else [letOf self x.note] := by
 obtain ⟨hlt, rfl⟩ := List.getElem?_eq_some_iff.1 h
 rw [List.take_succ_eq_append_getElem hlt]
 unfold letsOf
 rw [List.filter_append, List.map_append]
 cases hx : l[j].over <;> simp [hx]
theorem letsOf_len (self : Int) (l : List WantR) : (letsOf self l).length ≤ l.length := by
 unfold letsOf
 rw [List.length_map]
 exact List.length_filter_le _ _
structure CallR.Ok (c : CallR) : Prop where
 hB : c.B.length ≤ 64
 hQ : c.Q.length ≤ 64
 hR : ∀ x, x ∈ c.B ∨ x ∈ c.Q → nright x.note = true
 hH : ∀ x, x ∈ c.Q → x.hits.length ≤ 16 ∧ ∀ h, h ∈ x.hits → h.vec.length ≤ 8
end Go.Arm
namespace Go.Proofs.YtjkffjngamagkaaDoor
open Go Go.RowKit Go.Arm
theorem body_len {n : NoteR} (h : nright n = true) : (frame (encNote n)).length ≤ 5000 := by rw [frame_len]; have := encNote_len (nright_fair h); omega
set_option maxHeartbeats 4000000 in
set_option maxRecDepth 100000 in
theorem wake_any (w : World) (base : Nat) (M S : Nat → Prop) (g : Nat) (c : CallR) (hC : CalP w base M S g c) (hF : Fr w base M S) (hOk : c.Ok) :
  Calls Tryd.prog 31 #[.pointer (some ⟨g, 0, none⟩)] w fun e w' => ∃ v, e = .returned v ∧ Sl w' (fun k => w.heap.size ≤ k ∧ k < w'.heap.size) c.wake v ∧ Below w.heap.size w w' := by
 obtain ⟨hB6, hQ6, hr, _⟩ := hOk
 have HW : Hid (c.wake = letsOf c.self c.B ++ letsOf c.self c.Q) := Lib.hid rfl
 generalize c.wake = L at *
 obtain ⟨vb, vq, bs, qs, hg, hgb, hMg, hvb, hMvb, hvq, hMvq, hEb, hEq⟩ := hC
 have hMlt : ∀ k, M k → k < w.heap.size := fun k hk => (hF k hk).2.1
 have hvs := hvb.sl'
 have HLB := Lib.hid hEb.1
 have HLQ := Lib.hid hEq.1
 have hbl : bs.length ≤ 64 := by have := hEb.1; omega
 have hql : qs.length ≤ 64 := by have := hEq.1; omega
 have hR := fun x h => body_len (hr x h)
 have HR := Lib.hid hR
 clear hr hR
 go_enter Tryd.func31, Tryd.ntmps31
 go_wp2_with (first | ((with_reducible apply ugZ); rfl) | ((with_reducible (first | apply len_B | apply len_PB | apply len_PQ | apply len_L | apply len_Bat | apply len_Qst | apply len_H)); assumption) | ((with_reducible refine stop_ig kC ?_ ?_); rfl))
 refine Stop.go (blk_load vb onePBs hg rfl rfl ?_)
 go_wp2_with (first | ((with_reducible apply ugZ); rfl) | ((with_reducible (first | apply len_B | apply len_PB | apply len_PQ | apply len_L | apply len_Bat | apply len_Qst | apply len_H)); assumption) | ((with_reducible refine stop_ig kC ?_ ?_); rfl))
 go_loopg [3, 5, 15] (bs.length + 1) (fun k x3 x5 i wr => ∃ (j : Nat) (D : List LetR), k = bs.length - j + 1 ∧ j ≤ bs.length ∧ i = .int .i64 j ∧ D = letsOf c.self (c.B.take j) ∧ D.length ≤ j ∧ OwnG wr w.heap.size 158 D x3 ∧ Below w.heap.size w wr)
 case atStart => exact ⟨0, [], by omega, by omega, rfl, rfl, Nat.le_refl _, OwnG.nil _ _ _, Below.refl _ _⟩
 case round =>
  obtain ⟨j, D, hk, hj, rfl, hD, hDl, ho, hbr⟩ := hrel
  have Hk := Lib.hid hk
  have HD := Lib.hid hD
  clear hk hD
  have hpr := hvs.below hbr (Nat.le_refl _)
  have swr := hbr.size
  by_cases hlt : j < bs.length
  ·go_wp2_with (first | ((with_reducible apply ugZ); rfl) | ((with_reducible (first | apply len_B | apply len_PB | apply len_PQ | apply len_L | apply len_Bat | apply len_Qst | apply len_H)); assumption) | ((with_reducible refine stop_ig kC ?_ ?_); rfl))
   refine Stop.go (idx_PB hpr rfl (by omega) (by omega) fun b o y hy hc => ?_)
   have hy : bs[j]? = some y := by simpa using hy
   obtain ⟨z, hz⟩ : ∃ z, c.B[j]? = some z := ⟨_, List.getElem?_eq_getElem (by have := HLB.out; omega)⟩
   have hyM := hEb.2.2.1 y (List.mem_of_getElem? hy)
   have hylt := hMlt y hyM.2
   have hglt := hMlt g hMg
   obtain ⟨v, hbk, hbv⟩ := (hEb.2.2.2 j y z hy hz).keep (w' := wr) (S' := (· < w.heap.size)) (hbr.block y hylt) fun k hk hlt => ⟨hbr.block k hlt, hlt⟩
   have hgr := hg.below hbr hglt
   have HZ := Lib.hid hz
   have co : wr.cell? ⟨y, 1, none⟩ = some (.bool z.over) := hbk.cell 1
   have hsn := letsOf_snoc c.self c.B j z hz
   have HSN := Lib.hid hsn
   clear hy hz hsn hpr
   cases hov : z.over
   ·rw [hov] at co hbk HSN
    simp only [Bool.false_eq_true, if_false] at HSN
    go_upto_region 8 with (fail)
    have hd := (Below.refl wr.heap.size wr).drew
    have hbk := hbk.below hd hbk.lt
    have hgr := hgr.below hd hgr.lt
    have ho := OwnG.below ho hd (Nat.le_refl _)
    have hbv := hbv.below hd (Nat.le_refl _)
    have hbr := below_on hbr hd hbr.size
    have swd : w.heap.size ≤ wr.drew.heap.size := hbr.size
    clear co hc hd
    refine wp_region_D (fun wq => Blk wq y 155 #[.int .u64 (z.note.batch.toNat : Int), .bool false, .int .i64 z.code, .int .u64 (z.stamp.toNat : Int), v] ∧ Blk wq g 149 #[.int .i64 c.self, vb, vq]) 100 (fun _ => True) 13 rfl (by kernel_rfl) ?_
    generalize wr.drew = wd at *
    refine tkZ 0 25 (u3) rfl rfl (.inl ⟨by rfl, fun _ _ => by kernel_rfl⟩) (⟨hbk, hgr⟩) (.inr trivial) ?_
    simp only [Act.put, zqA, zqB, zqC]
    refine tkZ 1 26 (.pointer (some ⟨y, 0, none⟩)) rfl rfl (.inl ⟨by rfl, fun _ _ => by kernel_rfl⟩) (⟨hbk, hgr⟩) (.inr trivial) ?_
    simp only [Act.put, zqA, zqB, zqC]
    refine tkZ 2 27 (.pointer (some ⟨y, 0, none⟩)) rfl rfl (.inl ⟨by rfl, fun _ _ => by kernel_rfl⟩) (⟨hbk, hgr⟩) (.inr trivial) ?_
    simp only [Act.put, zqA, zqB, zqC]
    refine tkZ 3 28 (.pointer (some ⟨y, 4, none⟩)) rfl rfl (.inl ⟨by rfl, fun _ _ => by go_simp⟩) (⟨hbk, hgr⟩) (.inr trivial) ?_
    simp only [Act.put, zqA, zqB, zqC]
    refine tkZ 4 29 (.agg #[v]) rfl rfl (blk_yields_sub [v] Tryd.underlying153 rfl (by kernel_rfl) (by rfl) rfl rfl fun _ h => h.1) (⟨hbk, hgr⟩) (.inr trivial) ?_
    simp only [Act.put, zqA, zqB, zqC]
    refine tkZ 5 30 (.pointer (some ⟨g, 0, none⟩)) rfl rfl (.inl ⟨by rfl, fun _ _ => by kernel_rfl⟩) (⟨hbk, hgr⟩) (.inr trivial) ?_
    simp only [Act.put, zqA, zqB, zqC]
    refine tkZ 6 31 (.pointer (some ⟨g, 0, none⟩)) rfl rfl (.inl ⟨by rfl, fun _ _ => by kernel_rfl⟩) (⟨hbk, hgr⟩) (.inr trivial) ?_
    simp only [Act.put, zqA, zqB, zqC]
    refine tkZ 7 32 (.pointer (some ⟨g, 0, none⟩)) rfl rfl (.inl ⟨by rfl, fun _ _ => by go_simp⟩) (⟨hbk, hgr⟩) (.inr trivial) ?_
    simp only [Act.put, zqA, zqB, zqC]
    refine tkZ 8 33 (.int .i64 c.self) rfl rfl (blk_yields oneInt (by rfl) rfl rfl fun _ h => h.2) (⟨hbk, hgr⟩) (.inr trivial) ?_
    simp only [Act.put, zqA, zqB, zqC]
    refine wpAnyD_step (i := 9) (by kernel_rfl) rfl fun K hK => ?_
    refine step_call (vs := #[.agg #[v], .int .i64 c.self]) (by rfl) (by go_simp) (by kernel_rfl) (letter_any wd _ _ _ c.self hbv (by have := HR.out z (.inl (List.mem_of_getElem? HZ.out)); omega)) ?_
    rintro e w8 ⟨u8, rfl, hu8, hb8⟩
    have hbk := hbk.below hb8 hbk.lt
    have hgr := hgr.below hb8 hgr.lt
    have ho8 := ho.below hb8 (Nat.le_refl _)
    have hB8 := below_on hbr hb8 hbr.size
    have s8 := hb8.size
    have olt : ∀ k, u3.ownBlock = some k → w.heap.size ≤ k ∧ k < wd.heap.size := fun k hk => ho.ge k hk
    clear hbv ho hbr hb8
    refine ⟨_, rfl, hK _ _ ⟨hbk, hgr⟩ trivial ?_⟩
    clear hK K
    simp only [Act.put, zqA, zqB, zqC]
    refine wpAnyD_step (i := 10) (by kernel_rfl) rfl fun K hK => ?_
    refine step_lit1 (α := LetR) (S := fun k => wd.heap.size ≤ k) rowL rfl (by decide) (by decide) (letOf c.self z.note) rfl ⟨u8, rfl, hu8.sl'⟩ fun v9 w9 m1 m2 m3 m4 => ?_
    have hbk := hbk.grown m2 (by simp)
    have hgr := hgr.grown m2 (by simp)
    have hB9 := hB8.grown0 m2 hB8.size
    have ho9 := ho8.grown0 m2
    have m1 : Sl w9 (fun k => wd.heap.size ≤ k) _ v9 := m1.sl (fun k h _ => h) fun k hk => by rw [m3] at hk; cases hk; exact s8
    clear hu8 ho8 hB8 m2 m3 m4
    refine hK _ _ ⟨hbk, hgr⟩ trivial ?_
    clear hK K
    simp only [Act.put, zqA, zqB, zqC]
    refine wpAnyD_step (i := 11) (by kernel_rfl) rfl fun K hK => ?_
    refine step_appendG (α := LetR) (B := w.heap.size) (l := D) (m := [letOf c.self z.note]) rowL rfl (by decide) ho9 m1 (fun b hb _ => ⟨by have := swd; omega, fun e => by have := (olt b e).2; omega⟩) (by simp only [maxLen, List.length_singleton]; omega) (by simp only [List.length_singleton]; omega) hB9.size fun v10 w10 g1 g2 g3 => ?_
    have g2 : w9.grownBy w10 u3.ownBlock := g2
    have hB10 := hB9.grown g2 hB9.size (fun k hk => (olt k hk).1)
    have hbk := hbk.grown g2 (fun e => by have := (olt y e).1; omega)
    have hgr := hgr.grown g2 (fun e => by have := (olt g e).1; omega)
    clear ho9 m1 hB9 g2 g3 olt
    refine hK _ _ ⟨hbk, hgr⟩ trivial ?_
    clear hK K
    simp only [Act.put, zqA, zqB, zqC]
    refine tkZ 12 3 (v10) rfl rfl (.inl ⟨by rfl, fun _ _ => by kernel_rfl⟩) (⟨hbk, hgr⟩) (.inr trivial) ?_
    simp only [Act.put, zqA, zqB, zqC]
    refine wpAnyD_done (by kernel_rfl) ?_
    go_wp2_with (fail)
    go_roundg (bs.length - (j + 1) + 1)
    case measure => have := Hk.out; omega
    case rel => exact ⟨j + 1, D ++ [letOf c.self z.note], by omega, by omega, by go_num, by rw [HSN.out, HD.out], by simp; omega, g1, hB10⟩
   ·rw [hov] at co HSN
    simp only [if_true] at HSN
    go_wp2_with (fail)
    go_roundg (bs.length - (j + 1) + 1)
    case measure => have := Hk.out; omega
    case rel => exact ⟨j + 1, D, by omega, by omega, by go_num, by rw [HSN.out, HD.out]; simp, by omega, ho, hbr⟩
  ·have HDB : Hid (D = letsOf c.self c.B) := Lib.hid (by rw [HD.out, List.take_of_length_le (by have := HLB.out; omega)])
   have hgr := hg.below hbr (hMlt g hMg)
   have hDl : D.length ≤ 64 := by omega
   clear HD Hk hpr hvs
   have hvs := hvq.sl'
   have hvr := hvs.below hbr (Nat.le_refl _)
   go_wp2_with (first | ((with_reducible apply ugZ); rfl) | ((with_reducible (first | apply len_B | apply len_PB | apply len_PQ | apply len_L | apply len_Bat | apply len_Qst | apply len_H)); assumption) | ((with_reducible refine stop_ig kC ?_ ?_); rfl))
   refine Stop.go (blk_load vq onePQs hgr rfl rfl ?_)
   go_wp2_with (first | ((with_reducible apply ugZ); rfl) | ((with_reducible (first | apply len_B | apply len_PB | apply len_PQ | apply len_L | apply len_Bat | apply len_Qst | apply len_H)); assumption) | ((with_reducible refine stop_ig kC ?_ ?_); rfl))
   clear hvr hgr
   obtain ⟨wo, rfl⟩ : ∃ wo : World, wo = wr := ⟨_, rfl⟩
   go_loopg [3, 7, 43] (qs.length + 1) (fun k x3 x5 i wr => ∃ (j : Nat) (D : List LetR), k = qs.length - j + 1 ∧ j ≤ qs.length ∧ i = .int .i64 j ∧ D = letsOf c.self c.B ++ letsOf c.self (c.Q.take j) ∧ D.length ≤ 64 + j ∧ OwnG wr w.heap.size 158 D x3 ∧ Below w.heap.size w wr)
   case atStart => exact ⟨0, D, by omega, by omega, rfl, by rw [HDB.out]; exact (List.append_nil _).symm, by omega, ho, hbr⟩
   case round =>
    clear ho hbr HDB hDl
    obtain ⟨j, D, hk, hj, rfl, hD, hDl, ho, hbr⟩ := hrel
    have Hk := Lib.hid hk
    have HD := Lib.hid hD
    clear hk hD
    have hpr := hvs.below hbr (Nat.le_refl _)
    have swr := hbr.size
    by_cases hlt : j < qs.length
    ·go_wp2_with (first | ((with_reducible apply ugZ); rfl) | ((with_reducible (first | apply len_B | apply len_PB | apply len_PQ | apply len_L | apply len_Bat | apply len_Qst | apply len_H)); assumption) | ((with_reducible refine stop_ig kC ?_ ?_); rfl))
     refine Stop.go (idx_PQ hpr rfl (by omega) (by omega) fun b o y hy hc => ?_)
     have hy : qs[j]? = some y := by simpa using hy
     obtain ⟨z, hz⟩ : ∃ z, c.Q[j]? = some z := ⟨_, List.getElem?_eq_getElem (by have := HLQ.out; omega)⟩
     have hyM := hEq.2.2.1 y (List.mem_of_getElem? hy)
     have hylt := hMlt y hyM.2
     have hglt := hMlt g hMg
     obtain ⟨vh, v, hbk, _, hbv⟩ := (hEq.2.2.2 j y z hy hz).keep (w' := wr) (S' := (· < w.heap.size)) (hbr.block y hylt) fun k hk hlt => ⟨hbr.block k hlt, hlt⟩
     have hgr := hg.below hbr hglt
     have HZ := Lib.hid hz
     have co : wr.cell? ⟨y, 1, none⟩ = some (.bool z.over) := hbk.cell 1
     have hsn := letsOf_snoc c.self c.Q j z hz
     have HSN := Lib.hid hsn
     clear hy hz hsn hpr
     cases hov : z.over
     ·rw [hov] at co hbk HSN
      simp only [Bool.false_eq_true, if_false] at HSN
      go_upto_region 14 with (fail)
      have hd := (Below.refl wr.heap.size wr).drew
      have hbk := hbk.below hd hbk.lt
      have hgr := hgr.below hd hgr.lt
      have ho := OwnG.below ho hd (Nat.le_refl _)
      have hbv := hbv.below hd (Nat.le_refl _)
      have hbr := below_on hbr hd hbr.size
      have swd : w.heap.size ≤ wr.drew.heap.size := hbr.size
      clear co hc hd
      refine wp_region_D (fun wq => Blk wq y 163 #[.int .u64 (z.note.query.toNat : Int), .bool false, .int .i64 z.code, .int .u64 (z.stamp.toNat : Int), vh, v] ∧ Blk wq g 149 #[.int .i64 c.self, vb, vq]) 100 (fun _ => True) 13 rfl (by kernel_rfl) ?_
      generalize wr.drew = wd at *
      refine tkZ 0 53 (u3) rfl rfl (.inl ⟨by rfl, fun _ _ => by kernel_rfl⟩) (⟨hbk, hgr⟩) (.inr trivial) ?_
      simp only [Act.put, zqA, zqB, zqC]
      refine tkZ 1 54 (.pointer (some ⟨y, 0, none⟩)) rfl rfl (.inl ⟨by rfl, fun _ _ => by kernel_rfl⟩) (⟨hbk, hgr⟩) (.inr trivial) ?_
      simp only [Act.put, zqA, zqB, zqC]
      refine tkZ 2 55 (.pointer (some ⟨y, 0, none⟩)) rfl rfl (.inl ⟨by rfl, fun _ _ => by kernel_rfl⟩) (⟨hbk, hgr⟩) (.inr trivial) ?_
      simp only [Act.put, zqA, zqB, zqC]
      refine tkZ 3 56 (.pointer (some ⟨y, 5, none⟩)) rfl rfl (.inl ⟨by rfl, fun _ _ => by go_simp⟩) (⟨hbk, hgr⟩) (.inr trivial) ?_
      simp only [Act.put, zqA, zqB, zqC]
      refine tkZ 4 57 (.agg #[v]) rfl rfl (blk_yields_sub [v] Tryd.underlying153 rfl (by kernel_rfl) (by rfl) rfl rfl fun _ h => h.1) (⟨hbk, hgr⟩) (.inr trivial) ?_
      simp only [Act.put, zqA, zqB, zqC]
      refine tkZ 5 58 (.pointer (some ⟨g, 0, none⟩)) rfl rfl (.inl ⟨by rfl, fun _ _ => by kernel_rfl⟩) (⟨hbk, hgr⟩) (.inr trivial) ?_
      simp only [Act.put, zqA, zqB, zqC]
      refine tkZ 6 59 (.pointer (some ⟨g, 0, none⟩)) rfl rfl (.inl ⟨by rfl, fun _ _ => by kernel_rfl⟩) (⟨hbk, hgr⟩) (.inr trivial) ?_
      simp only [Act.put, zqA, zqB, zqC]
      refine tkZ 7 60 (.pointer (some ⟨g, 0, none⟩)) rfl rfl (.inl ⟨by rfl, fun _ _ => by go_simp⟩) (⟨hbk, hgr⟩) (.inr trivial) ?_
      simp only [Act.put, zqA, zqB, zqC]
      refine tkZ 8 61 (.int .i64 c.self) rfl rfl (blk_yields oneInt (by rfl) rfl rfl fun _ h => h.2) (⟨hbk, hgr⟩) (.inr trivial) ?_
      simp only [Act.put, zqA, zqB, zqC]
      refine wpAnyD_step (i := 9) (by kernel_rfl) rfl fun K hK => ?_
      refine step_call (vs := #[.agg #[v], .int .i64 c.self]) (by rfl) (by go_simp) (by kernel_rfl) (letter_any wd _ _ _ c.self hbv (by have := HR.out z (.inr (List.mem_of_getElem? HZ.out)); omega)) ?_
      rintro e w8 ⟨u8, rfl, hu8, hb8⟩
      have hbk := hbk.below hb8 hbk.lt
      have hgr := hgr.below hb8 hgr.lt
      have ho8 := ho.below hb8 (Nat.le_refl _)
      have hB8 := below_on hbr hb8 hbr.size
      have s8 := hb8.size
      have olt : ∀ k, u3.ownBlock = some k → w.heap.size ≤ k ∧ k < wd.heap.size := fun k hk => ho.ge k hk
      clear hbv ho hbr hb8
      refine ⟨_, rfl, hK _ _ ⟨hbk, hgr⟩ trivial ?_⟩
      clear hK K
      simp only [Act.put, zqA, zqB, zqC]
      refine wpAnyD_step (i := 10) (by kernel_rfl) rfl fun K hK => ?_
      refine step_lit1 (α := LetR) (S := fun k => wd.heap.size ≤ k) rowL rfl (by decide) (by decide) (letOf c.self z.note) rfl ⟨u8, rfl, hu8.sl'⟩ fun v9 w9 m1 m2 m3 m4 => ?_
      have hbk := hbk.grown m2 (by simp)
      have hgr := hgr.grown m2 (by simp)
      have hB9 := hB8.grown0 m2 hB8.size
      have ho9 := ho8.grown0 m2
      have m1 : Sl w9 (fun k => wd.heap.size ≤ k) _ v9 := m1.sl (fun k h _ => h) fun k hk => by rw [m3] at hk; cases hk; exact s8
      clear hu8 ho8 hB8 m2 m3 m4
      refine hK _ _ ⟨hbk, hgr⟩ trivial ?_
      clear hK K
      simp only [Act.put, zqA, zqB, zqC]
      refine wpAnyD_step (i := 11) (by kernel_rfl) rfl fun K hK => ?_
      refine step_appendG (α := LetR) (B := w.heap.size) (l := D) (m := [letOf c.self z.note]) rowL rfl (by decide) ho9 m1 (fun b hb _ => ⟨by have := swd; omega, fun e => by have := (olt b e).2; omega⟩) (by simp only [maxLen, List.length_singleton]; omega) (by simp only [List.length_singleton]; omega) hB9.size fun v10 w10 g1 g2 g3 => ?_
      have g2 : w9.grownBy w10 u3.ownBlock := g2
      have hB10 := hB9.grown g2 hB9.size (fun k hk => (olt k hk).1)
      have hbk := hbk.grown g2 (fun e => by have := (olt y e).1; omega)
      have hgr := hgr.grown g2 (fun e => by have := (olt g e).1; omega)
      clear ho9 m1 hB9 g2 g3 olt
      refine hK _ _ ⟨hbk, hgr⟩ trivial ?_
      clear hK K
      simp only [Act.put, zqA, zqB, zqC]
      refine tkZ 12 3 (v10) rfl rfl (.inl ⟨by rfl, fun _ _ => by kernel_rfl⟩) (⟨hbk, hgr⟩) (.inr trivial) ?_
      simp only [Act.put, zqA, zqB, zqC]
      refine wpAnyD_done (by kernel_rfl) ?_
      go_wp2_with (fail)
      go_roundg (qs.length - (j + 1) + 1)
      case measure => have := Hk.out; omega
      case rel => exact ⟨j + 1, D ++ [letOf c.self z.note], by omega, by omega, by go_num, by rw [HSN.out, HD.out]; simp, by simp; omega, g1, hB10⟩
     ·rw [hov] at co HSN
      simp only [if_true] at HSN
      go_wp2_with (fail)
      go_roundg (qs.length - (j + 1) + 1)
      case measure => have := Hk.out; omega
      case rel => exact ⟨j + 1, D, by omega, by omega, by go_num, by rw [HSN.out, HD.out]; simp, by omega, ho, hbr⟩
    ·have HDB : Hid (D = L) := Lib.hid (by rw [HD.out, HW.out, List.take_of_length_le (by have := HLQ.out; omega)])
     go_wp2_with (fail)
     go_ret
     rw [← HDB.out]
     exact ⟨_, rfl, ho.sl, hbr⟩
end Go.Proofs.YtjkffjngamagkaaDoor
