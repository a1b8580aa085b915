/- armillaryref12: Few. -/
import Derived.Test.YtjkffjngamagkaaDoorPackF
import Derived.Test.YtjkffjngamagkaaDoorPackE
import Derived.Deep.DeepCutAuto
import Derived.Deep.RegionWith
namespace Go.Arm
open Go.RowKit
def fewN (n : NoteR) : NoteR := { n with parts := n.parts.take 6, ops := (n.ops.take 18).map cutO, vec := n.vec.take 10, hits := (n.hits.take 18).map cutH }
end Go.Arm
namespace Go.Proofs.YtjkffjngamagkaaDoor
open Go Go.RowKit Go.Arm
def setAll (w : World) (b : Nat) (l : List (Nat × Value)) : World := l.foldl (fun w x => w.setCell ⟨b, x.1, none⟩ x.2) w
theorem only_setAll (b : Nat) : ∀ (l : List (Nat × Value)) (w : World), Only (fun k => k = b) w (setAll w b l)
 | [], w => Only.refl _ w
 | x :: l, w => (Only.of_set w ⟨b, x.1, none⟩ x.2).trans (only_setAll b l (w.setCell ⟨b, x.1, none⟩ x.2)) fun _ _ e => e
theorem rds_P2 {w w' : World} {S S' : Nat → Prop} : ∀ {l : List Int} {cs : List Value}, rds w S l cs → rds w' S' l cs
 | [], _, h => h
 | _ :: _, _, h => by
  obtain ⟨c, d, rfl, h1, h2⟩ := h
  exact ⟨c, d, rfl, h1, rds_P2 h2⟩
theorem RBox.set12 {w : World} {b : Nat} {n : NoteR} {vp vo vv vh u : Value} (h : RBox w b n vp vo vv vh) : RBox (w.setCell ⟨b, 12, none⟩ u) b n u vo vv vh := by
 unfold RBox at h ⊢
 simp [World.setCell, Array.getElem?_modify, h]
theorem RBox.f12 {w : World} {b : Nat} {n : NoteR} {vp vo vv vh : Value} (h : RBox w b n vp vo vv vh) : w.frozen? ⟨b, 12, none⟩ = false := by
 unfold RBox at h
 simp [World.frozen?, h]
theorem RBox.set13 {w : World} {b : Nat} {n : NoteR} {vp vo vv vh u : Value} (h : RBox w b n vp vo vv vh) : RBox (w.setCell ⟨b, 13, none⟩ u) b n vp u vv vh := by
 unfold RBox at h ⊢
 simp [World.setCell, Array.getElem?_modify, h]
theorem RBox.f13 {w : World} {b : Nat} {n : NoteR} {vp vo vv vh : Value} (h : RBox w b n vp vo vv vh) : w.frozen? ⟨b, 13, none⟩ = false := by
 unfold RBox at h
 simp [World.frozen?, h]
theorem RBox.set14 {w : World} {b : Nat} {n : NoteR} {vp vo vv vh u : Value} (h : RBox w b n vp vo vv vh) : RBox (w.setCell ⟨b, 14, none⟩ u) b n vp vo u vh := by
 unfold RBox at h ⊢
 simp [World.setCell, Array.getElem?_modify, h]
theorem RBox.f14 {w : World} {b : Nat} {n : NoteR} {vp vo vv vh : Value} (h : RBox w b n vp vo vv vh) : w.frozen? ⟨b, 14, none⟩ = false := by
 unfold RBox at h
 simp [World.frozen?, h]
theorem RBox.set15 {w : World} {b : Nat} {n : NoteR} {vp vo vv vh u : Value} (h : RBox w b n vp vo vv vh) : RBox (w.setCell ⟨b, 15, none⟩ u) b n vp vo vv u := by
 unfold RBox at h ⊢
 simp [World.setCell, Array.getElem?_modify, h]
theorem RBox.f15 {w : World} {b : Nat} {n : NoteR} {vp vo vv vh : Value} (h : RBox w b n vp vo vv vh) : w.frozen? ⟨b, 15, none⟩ = false := by
 unfold RBox at h
 simp [World.frozen?, h]
set_option maxHeartbeats 16000000 in
set_option maxRecDepth 100000 in
theorem rfewn_any (w : World) (S : Nat → Prop) (n : NoteR) (V : Value) (hV : Nt w S n V) :
  Calls Tryd.prog 22 #[V] w fun e w' => ∃ V', e = .returned V' ∧ Nt w' (fun b => w.heap.size ≤ b) (fewN n) V' ∧ Below w.heap.size w w' := by
 have hV0 := hV.old
 clear hV
 obtain ⟨vp, vo, vv, vh, rfl, h1, h2, h3, h4, hI⟩ := hV0
 unfold noteV
 obtain ⟨ap, np, cp, rfl⟩ := Sl.shape h1
 obtain ⟨ao, no, co, rfl⟩ := Sl.shape h2
 obtain ⟨av, nv, cv, rfl⟩ := Sl.shape h3
 obtain ⟨ah, nh, ch, rfl⟩ := Sl.shape h4
 have hpl : n.parts.length ≤ 9223372036854775807 := h1.length_le
 have ha1 := (Below.refl w.heap.size w).alloc (Nat.le_refl _) (.cells #[.int .u8 (n.kind.toNat : Int), .int .u64 (n.txn.toNat : Int), .int .u64 (n.batch.toNat : Int), .int .u64 (n.stamp.toNat : Int), .int .u64 (n.after.toNat : Int), .int .u64 (n.mark.toNat : Int), .int .u64 (n.query.toNat : Int), .int .u64 (n.id.toNat : Int), .int .i64 n.k, .int .i64 n.ef, .int .i64 n.code, .int .i64 n.who, .slice ap np cp, .slice ao no co, .slice av nv cv, .slice ah nh ch] 36)
 have ha2 := ha1.alloc ha1.size (.cells #[.int .u8 0, .int .u64 0, .int .u64 0, .int .u64 0, .int .u64 0, .int .u64 0, .int .u64 0, .int .u64 0, .int .i64 0, .int .i64 0, .int .i64 0, .int .i64 0, .slice none 0 0, .slice none 0 0, .slice none 0 0, .slice none 0 0] 36)
 have b1 := (RBox.new w n (.slice ap np cp) (.slice ao no co) (.slice av nv cv) (.slice ah nh ch)).below ((Below.refl _ _).alloc (Nat.le_refl _) (.cells #[.int .u8 0, .int .u64 0, .int .u64 0, .int .u64 0, .int .u64 0, .int .u64 0, .int .u64 0, .int .u64 0, .int .i64 0, .int .i64 0, .int .i64 0, .int .i64 0, .slice none 0 0, .slice none 0 0, .slice none 0 0, .slice none 0 0] 36)) (RBox.new w n (.slice ap np cp) (.slice ao no co) (.slice av nv cv) (.slice ah nh ch)).lt
 have e2 : (w.alloc (.cells #[.int .u8 (n.kind.toNat : Int), .int .u64 (n.txn.toNat : Int), .int .u64 (n.batch.toNat : Int), .int .u64 (n.stamp.toNat : Int), .int .u64 (n.after.toNat : Int), .int .u64 (n.mark.toNat : Int), .int .u64 (n.query.toNat : Int), .int .u64 (n.id.toNat : Int), .int .i64 n.k, .int .i64 n.ef, .int .i64 n.code, .int .i64 n.who, .slice ap np cp, .slice ao no co, .slice av nv cv, .slice ah nh ch] 36)).heap.size = w.heap.size + 1 := size_alloc w _
 have z1 := heap_alloc_new (w.alloc (.cells #[.int .u8 (n.kind.toNat : Int), .int .u64 (n.txn.toNat : Int), .int .u64 (n.batch.toNat : Int), .int .u64 (n.stamp.toNat : Int), .int .u64 (n.after.toNat : Int), .int .u64 (n.mark.toNat : Int), .int .u64 (n.query.toNat : Int), .int .u64 (n.id.toNat : Int), .int .i64 n.k, .int .i64 n.ef, .int .i64 n.code, .int .i64 n.who, .slice ap np cp, .slice ao no co, .slice av nv cv, .slice ah nh ch] 36)) (.cells #[.int .u8 0, .int .u64 0, .int .u64 0, .int .u64 0, .int .u64 0, .int .u64 0, .int .u64 0, .int .u64 0, .int .i64 0, .int .i64 0, .int .i64 0, .int .i64 0, .slice none 0 0, .slice none 0 0, .slice none 0 0, .slice none 0 0] 36)
 rw [e2] at z1
 go_enter Tryd.func22, Tryd.ntmps22
 go_upto_region 1 with (fail)
 generalize (w.alloc (.cells #[.int .u8 (n.kind.toNat : Int), .int .u64 (n.txn.toNat : Int), .int .u64 (n.batch.toNat : Int), .int .u64 (n.stamp.toNat : Int), .int .u64 (n.after.toNat : Int), .int .u64 (n.mark.toNat : Int), .int .u64 (n.query.toNat : Int), .int .u64 (n.id.toNat : Int), .int .i64 n.k, .int .i64 n.ef, .int .i64 n.code, .int .i64 n.who, .slice ap np cp, .slice ao no co, .slice av nv cv, .slice ah nh ch] 36)).alloc (.cells #[.int .u8 0, .int .u64 0, .int .u64 0, .int .u64 0, .int .u64 0, .int .u64 0, .int .u64 0, .int .u64 0, .int .i64 0, .int .i64 0, .int .i64 0, .int .i64 0, .slice none 0 0, .slice none 0 0, .slice none 0 0, .slice none 0 0] 36) = w1 at ha2 b1 z1 ⊢
 obtain ⟨b, hb⟩ : ∃ b, b = w.heap.size := ⟨_, rfl⟩
 rw [← hb] at b1 z1 ⊢
 have HB := Lib.hid hb
 clear hb e2 ha1
 go_wp2_with (first | ((with_reducible apply ugZ); rfl) | ((with_reducible (first | apply len_B | apply len_BB | apply len_N | apply len_V | apply len_VV | apply len_P | apply len_O | apply len_H)); assumption) | ((with_reducible refine stop_if kK ?_ ?_); rfl))
 refine Stop.go (wpList_build1 (α := Int) (S := fun _ => False) rowP rfl [] [] rfl rfl rfl (by simp) fun q w2 k1 k2 k3 k4 => ?_)
 have hB2 := ha2.grown k2 ha2.size (by simp)
 have b2 := b1.only (Only.of_grown k2) (by simp)
 have z2 := only_block (Only.of_grown k2) z1 (by simp)
 have p2 := h1.below hB2 (Nat.le_refl _)
 have hql : ∀ k, q.ownBlock = some k → w.heap.size ≤ k ∧ k ≠ b ∧ k ≠ b + 1 := by
  intro k hk
  rw [k3] at hk
  cases hk
  have := ha2.size
  have := (Array.getElem?_eq_some_iff.1 z1).1
  have := HB.out
  omega
 obtain ⟨N, hN⟩ : ∃ N, N = w1.heap.size := ⟨_, rfl⟩
 have hbN : b + 1 < N := by rw [hN]; exact (Array.getElem?_eq_some_iff.1 z1).1
 have hwN : w.heap.size ≤ N := by rw [hN]; exact ha2.size
 have hN2 : N ≤ w2.heap.size := by omega
 have hqN : ∀ k, q.ownBlock = some k → N ≤ k := by intro k hk; rw [k3] at hk; cases hk; omega
 clear k2 ha2 b1 z1
 have c12 := b2.c12
 go_wp2_with (first | ((with_reducible apply ugZ); rfl) | ((with_reducible (first | apply len_B | apply len_BB | apply len_N | apply len_V | apply len_VV | apply len_P | apply len_O | apply len_H)); assumption) | ((with_reducible refine stop_if kK ?_ ?_); rfl))
 refine Stop.go (min2 rfl rfl ?_)
 go_wp2_with (first | ((with_reducible apply ugZ); rfl) | ((with_reducible (first | apply len_B | apply len_BB | apply len_N | apply len_V | apply len_VV | apply len_P | apply len_O | apply len_H)); assumption) | ((with_reducible refine stop_if kK ?_ ?_); rfl))
 refine Stop.go (wpList_slice_h rowP p2 rfl (by omega) (by omega) fun u hu => ?_)
 go_wp2_with (first | ((with_reducible apply ugZ); rfl) | ((with_reducible (first | apply len_B | apply len_BB | apply len_N | apply len_V | apply len_VV | apply len_P | apply len_O | apply len_H)); assumption) | ((with_reducible refine stop_if kK ?_ ?_); rfl))
 refine Stop.go (wpList_append (B := w.heap.size) rowP rfl (by decide) (Own.rebase k1 fun b hb => (hql b hb).1) hu (fun _ _ h => rds_P2 h) (fun _ h => h.elim) (by simp only [maxLen, List.length_nil, List.length_take]; omega) (by simp only [List.length_nil, List.length_take]; omega) hB2.size fun v3 w3 g1 g2 g3 => ?_)
 have g2 : w2.grownBy w3 q.ownBlock := g2
 have g3 : v3.ownBlock = q.ownBlock ∨ ∃ g, v3.ownBlock = some g ∧ w2.heap.size ≤ g := g3
 have hB3 := hB2.grown g2 hB2.size (fun k hk => (hql k hk).1)
 have b3 := b2.only (Only.of_grown g2) (fun e => (hql b e).2.1 rfl)
 have z3 := only_block (Only.of_grown g2) z2 (fun e => (hql (b + 1) e).2.2 rfl)
 have e6 : n.parts.take (min (n.parts.length : Int) 6).toNat = n.parts.take 6 := by rw [List.take_eq_take_iff]; omega
 rw [List.nil_append, e6] at g1
 have p3 : Sl w3 (fun k => N ≤ k) (n.parts.take 6) v3 := g1.sl (fun _ h _ => h.elim) fun k hk => by
  rcases g3 with e | ⟨g, e, hg⟩
  ·exact hqN k (e ▸ hk)
  ·rw [hk] at e; cases e; omega
 have hN3 : N ≤ w3.heap.size := Nat.le_trans hN2 g2.size
 clear g1 g2 g3 e6 k1 k3 hB2 b2 z2 p2 hu c12 hql hqN
 obtain ⟨aq, nq, cq, rfl⟩ := Sl.shape p3
 have c12 := b3.c12
 have f12 := b3.f12
 go_upto_region 2 with (fail)
 refine name_world fun w4 hw4 => ?_
 have ho4 : Only (fun k => k = b) w3 w4 := by rw [hw4]; exact Only.of_set w3 ⟨b, 12, none⟩ _
 have b4 : RBox w4 b n (.slice aq nq cq) (.slice ao no co) (.slice av nv cv) (.slice ah nh ch) := by rw [hw4]; exact b3.set12
 clear hw4 c12 f12
 have hB4 := below_only hB3 ho4 (by rintro k rfl; exact Nat.le_of_eq HB.out.symm)
 have z4 := only_block ho4 z3 (by omega)
 have p4 := p3.only ho4 (by intro k hk _ e; omega)
 have hN4 : N ≤ w4.heap.size := Nat.le_trans hN3 ho4.size
 clear ho4 b3 z3 p3 hB3
 have hO : ∀ wq, Below w4.heap.size w4 wq → Sl wq (· < w.heap.size) n.ops (.slice ao no co) := fun wq hb => h2.below (below_on hB4 hb hB4.size) (Nat.le_refl _)
 have hX : ∀ wq, Below w4.heap.size w4 wq → Sl wq (· < w.heap.size) n.vec (.slice av nv cv) := fun wq hb => h3.below (below_on hB4 hb hB4.size) (Nat.le_refl _)
 have hH : ∀ wq, Below w4.heap.size w4 wq → Sl wq (· < w.heap.size) n.hits (.slice ah nh ch) := fun wq hb => h4.below (below_on hB4 hb hB4.size) (Nat.le_refl _)
 have HO := Lib.hid hO
 have HX := Lib.hid hX
 have HH := Lib.hid hH
 clear hO hX hH h1 h2 h3 h4
 have hcf : ∀ wq, Below w4.heap.size w4 wq → wq.cell? ⟨b, 13, none⟩ = some (.slice ao no co) ∧ wq.cell? ⟨b, 14, none⟩ = some (.slice av nv cv) ∧ wq.cell? ⟨b, 15, none⟩ = some (.slice ah nh ch) ∧ wq.frozen? ⟨b, 13, none⟩ = false ∧ wq.frozen? ⟨b, 14, none⟩ = false ∧ wq.frozen? ⟨b, 15, none⟩ = false := fun wq hb => by
  have hb' := b4.below hb b4.lt
  exact ⟨hb'.c13, hb'.c14, hb'.c15, hb'.f13, hb'.f14, hb'.f15⟩
 have HCF := Lib.hid hcf
 have hq := (Below.refl w4.heap.size w4).drew
 obtain ⟨c13, c14, c15, f13, f14, f15⟩ := hcf _ hq
 clear hcf
 go_cut [] (fun wx => ∃ W aO nO cO aX nX cX aH nH cH, Below w4.heap.size w4 W ∧ Sl W (fun k => N ≤ k) ((n.ops.take 18).map cutO) (.slice aO nO cO) ∧ Sl W (fun k => N ≤ k) (n.vec.take 10) (.slice aX nX cX) ∧ Sl W (fun k => N ≤ k) ((n.hits.take 18).map cutH) (.slice aH nH cH) ∧ wx = ((W.setCell ⟨b, 13, none⟩ (.slice aO nO cO)).setCell ⟨b, 15, none⟩ (.slice aH nH cH)).setCell ⟨b, 14, none⟩ (.slice aX nX cX))
 case first =>
  go_region_with (first
   | (go_at_call 65; refine (rfewO_any _ _ n.ops _ (HO.out _ hq)).mono ?_; rintro e wN ⟨vO, rfl, sO0, hbN'⟩; have sO := sO0.keep (S' := fun k => N ≤ k) (fun k hk _ => ⟨rfl, Nat.le_trans (Nat.le_trans hN4 hq.size) hk.1⟩); obtain ⟨aO, nO, cO, rfl⟩ := Sl.shape sO; have hq' := below_on hq hbN' hq.size; (try (have sX := sX.below hbN' (Nat.le_refl _))); (try (have sH := sH.below hbN' (Nat.le_refl _))); clear hq; have hq := hq'; clear c13 c14 c15 f13 f14 f15; obtain ⟨c13, c14, c15, f13, f14, f15⟩ := HCF.out _ hq; clear hq' sO0)
   | (go_at_call 66; refine (rfewH_any _ _ n.hits _ (HH.out _ hq)).mono ?_; rintro e wN ⟨vH, rfl, sH0, hbN'⟩; have sH := sH0.keep (S' := fun k => N ≤ k) (fun k hk _ => ⟨rfl, Nat.le_trans (Nat.le_trans hN4 hq.size) hk.1⟩); obtain ⟨aH, nH, cH, rfl⟩ := Sl.shape sH; have hq' := below_on hq hbN' hq.size; (try (have sX := sX.below hbN' (Nat.le_refl _))); (try (have sO := sO.below hbN' (Nat.le_refl _))); clear hq; have hq := hq'; clear c13 c14 c15 f13 f14 f15; obtain ⟨c13, c14, c15, f13, f14, f15⟩ := HCF.out _ hq; clear hq' sH0)
   | (go_at_call 67; refine (cutvec_any _ _ n.vec _ 10 (HX.out _ hq) (by decide) (by decide)).mono ?_; rintro e wN ⟨vX, rfl, sX0, hbN'⟩; have sX := sX0.sl (S' := fun k => N ≤ k) (fun _ h _ => h.elim) (fun k hk => Nat.le_trans (Nat.le_trans hN4 hq.size) (sX0.ge k hk).1); obtain ⟨aX, nX, cX, rfl⟩ := Sl.shape sX; have hq' := below_on hq hbN' hq.size; (try (have sO := sO.below hbN' (Nat.le_refl _))); (try (have sH := sH.below hbN' (Nat.le_refl _))); clear hq; have hq := hq'; clear c13 c14 c15 f13 f14 f15; obtain ⟨c13, c14, c15, f13, f14, f15⟩ := HCF.out _ hq; clear hq' sX0))
  all_goals
   go_wp2_with (fail)
   go_meet
   case rel => exact ⟨_, _, _, _, _, _, _, _, _, _, hq, sO, sX, sH, rfl⟩
 case rest =>
  obtain ⟨W, aO, nO, cO, aX, nX, cX, aH, nH, cH, hqW, sO, sX, sH, hwx⟩ := hcut
  have bW := b4.below hqW b4.lt
  have zW := (hqW.block (b + 1) (Array.getElem?_eq_some_iff.1 z4).1).trans z4
  have pW := p4.below hqW (Nat.le_refl _)
  have o5 : Only (fun k => k = b) W wc := by
   rw [hwx]
   exact ((Only.of_set W ⟨b, 13, none⟩ _).trans (Only.of_set _ ⟨b, 15, none⟩ _) (fun k _ e => e)).trans (Only.of_set _ ⟨b, 14, none⟩ _) (fun k _ e => e)
  have b5 : RBox wc b n (.slice aq nq cq) (.slice aO nO cO) (.slice aX nX cX) (.slice aH nH cH) := by rw [hwx]; exact bW.set13.set15.set14
  have z5 := only_block o5 zW (by omega)
  have p5 := pW.only o5 (by intro k hk _ e; omega)
  have sO5 := sO.only o5 (by intro k hk _ e; omega)
  have sX5 := sX.only o5 (by intro k hk _ e; omega)
  have sH5 := sH.only o5 (by intro k hk _ e; omega)
  have hB5 := below_only (below_on hB4 hqW hB4.size) o5 (by rintro k rfl; exact Nat.le_of_eq HB.out.symm)
  clear hwx bW zW pW sO sX sH z4 p4 b4 hqW hB4 o5
  obtain ⟨c0, c1, c2, c3, c4, c5, c6, c7, c8, c9, c10, c11, c12, c13, c14, c15⟩ := b5.cells
  have zc : wc.cell? ⟨b + 1, 0, none⟩ = some (.int .u8 0) ∧ wc.cell? ⟨b + 1, 1, none⟩ = some (.int .u64 0) ∧ wc.cell? ⟨b + 1, 2, none⟩ = some (.int .u64 0) ∧ wc.cell? ⟨b + 1, 3, none⟩ = some (.int .u64 0) ∧ wc.cell? ⟨b + 1, 4, none⟩ = some (.int .u64 0) ∧ wc.cell? ⟨b + 1, 5, none⟩ = some (.int .u64 0) ∧ wc.cell? ⟨b + 1, 6, none⟩ = some (.int .u64 0) ∧ wc.cell? ⟨b + 1, 7, none⟩ = some (.int .u64 0) ∧ wc.cell? ⟨b + 1, 8, none⟩ = some (.int .i64 0) ∧ wc.cell? ⟨b + 1, 9, none⟩ = some (.int .i64 0) ∧ wc.cell? ⟨b + 1, 10, none⟩ = some (.int .i64 0) ∧ wc.cell? ⟨b + 1, 11, none⟩ = some (.int .i64 0) ∧ wc.cell? ⟨b + 1, 12, none⟩ = some (.slice none 0 0) ∧ wc.cell? ⟨b + 1, 13, none⟩ = some (.slice none 0 0) ∧ wc.cell? ⟨b + 1, 14, none⟩ = some (.slice none 0 0) ∧ wc.cell? ⟨b + 1, 15, none⟩ = some (.slice none 0 0) := by simp [World.cell?, z5]
  have zf : wc.frozen? ⟨b + 1, 0, none⟩ = false ∧ wc.frozen? ⟨b + 1, 1, none⟩ = false ∧ wc.frozen? ⟨b + 1, 2, none⟩ = false ∧ wc.frozen? ⟨b + 1, 3, none⟩ = false ∧ wc.frozen? ⟨b + 1, 4, none⟩ = false ∧ wc.frozen? ⟨b + 1, 5, none⟩ = false ∧ wc.frozen? ⟨b + 1, 6, none⟩ = false ∧ wc.frozen? ⟨b + 1, 7, none⟩ = false ∧ wc.frozen? ⟨b + 1, 8, none⟩ = false ∧ wc.frozen? ⟨b + 1, 9, none⟩ = false ∧ wc.frozen? ⟨b + 1, 10, none⟩ = false ∧ wc.frozen? ⟨b + 1, 11, none⟩ = false ∧ wc.frozen? ⟨b + 1, 12, none⟩ = false ∧ wc.frozen? ⟨b + 1, 13, none⟩ = false ∧ wc.frozen? ⟨b + 1, 14, none⟩ = false ∧ wc.frozen? ⟨b + 1, 15, none⟩ = false := by simp [World.frozen?, z5]
  obtain ⟨d0, d1, d2, d3, d4, d5, d6, d7, d8, d9, d10, d11, d12, d13, d14, d15⟩ := zc
  obtain ⟨f0, f1, f2, f3, f4, f5, f6, f7, f8, f9, f10, f11, f12, f13, f14, f15⟩ := zf
  go_wp2_with (fail)
  have hE : (setAll wc (b + 1) [(0, .int .u8 (n.kind.toNat : Int)), (1, .int .u64 (n.txn.toNat : Int)), (2, .int .u64 (n.batch.toNat : Int)), (3, .int .u64 (n.stamp.toNat : Int)), (4, .int .u64 (n.after.toNat : Int)), (5, .int .u64 (n.mark.toNat : Int)), (6, .int .u64 (n.query.toNat : Int)), (7, .int .u64 (n.id.toNat : Int)), (8, .int .i64 n.k), (9, .int .i64 n.ef), (10, .int .i64 n.code), (11, .int .i64 n.who), (12, .slice aq nq cq), (13, .slice aO nO cO), (14, .slice aX nX cX), (15, .slice aH nH cH)]).heap[b + 1]? = some (.cells #[.int .u8 (n.kind.toNat : Int), .int .u64 (n.txn.toNat : Int), .int .u64 (n.batch.toNat : Int), .int .u64 (n.stamp.toNat : Int), .int .u64 (n.after.toNat : Int), .int .u64 (n.mark.toNat : Int), .int .u64 (n.query.toNat : Int), .int .u64 (n.id.toNat : Int), .int .i64 n.k, .int .i64 n.ef, .int .i64 n.code, .int .i64 n.who, .slice aq nq cq, .slice aO nO cO, .slice aX nX cX, .slice aH nH cH] 36) := by
   simp [setAll, World.setCell, Array.getElem?_modify, z5]
  have oE := only_setAll (b + 1) [(0, .int .u8 (n.kind.toNat : Int)), (1, .int .u64 (n.txn.toNat : Int)), (2, .int .u64 (n.batch.toNat : Int)), (3, .int .u64 (n.stamp.toNat : Int)), (4, .int .u64 (n.after.toNat : Int)), (5, .int .u64 (n.mark.toNat : Int)), (6, .int .u64 (n.query.toNat : Int)), (7, .int .u64 (n.id.toNat : Int)), (8, .int .i64 n.k), (9, .int .i64 n.ef), (10, .int .i64 n.code), (11, .int .i64 n.who), (12, .slice aq nq cq), (13, .slice aO nO cO), (14, .slice aX nX cX), (15, .slice aH nH cH)] wc
  refine bodyPost_ret (results_cell_row rfl _ (setAll wc (b + 1) [(0, .int .u8 (n.kind.toNat : Int)), (1, .int .u64 (n.txn.toNat : Int)), (2, .int .u64 (n.batch.toNat : Int)), (3, .int .u64 (n.stamp.toNat : Int)), (4, .int .u64 (n.after.toNat : Int)), (5, .int .u64 (n.mark.toNat : Int)), (6, .int .u64 (n.query.toNat : Int)), (7, .int .u64 (n.id.toNat : Int)), (8, .int .i64 n.k), (9, .int .i64 n.ef), (10, .int .i64 n.code), (11, .int .i64 n.who), (12, .slice aq nq cq), (13, .slice aO nO cO), (14, .slice aX nX cX), (15, .slice aH nH cH)]) (b + 1) _ _ _ _ rfl hE Tryd.underlying36 rfl (by kernel_rfl)) rfl ?_
  exact ⟨_, rfl, ⟨_, _, _, _, rfl, (p5.only oE (by intro k hk _ e; omega)).keep fun k hk _ => ⟨rfl, Nat.le_trans hwN hk⟩, (sO5.only oE (by intro k hk _ e; omega)).keep fun k hk _ => ⟨rfl, Nat.le_trans hwN hk⟩, (sX5.only oE (by intro k hk _ e; omega)).keep fun k hk _ => ⟨rfl, Nat.le_trans hwN hk⟩, (sH5.only oE (by intro k hk _ e; omega)).keep fun k hk _ => ⟨rfl, Nat.le_trans hwN hk⟩, hI⟩, below_only hB5 oE (by rintro k rfl; have := HB.out; omega)⟩
end Go.Proofs.YtjkffjngamagkaaDoor
