/- package note: Right. -/
import Derived.Test.YtjkffjngamagkaaDoorNoteBound
import Derived.Test.YtjkffjngamagkaaDoorNoteBox
import Derived.Deep.RegionHeld3
namespace Go.Arm
def nright (n : NoteR) : Bool := !(sortName n.kind.toNat).isEmpty && fits (heldBits n) (sortMask n.kind.toNat) && bounded n
end Go.Arm
namespace Go.Proofs.YtjkffjngamagkaaDoor
open Go Go.RowKit Go.Arm
set_option maxHeartbeats 4000000 in
set_option maxRecDepth 100000 in
theorem nright_any (w : World) (S : Nat → Prop) (n : NoteR) (V : Value) (hN : Srt w) (hV : Nt w S n V) :
  Calls Tryd.prog 24 #[V] w fun e w' => e = .returned (.bool (nright n)) ∧ Below w.heap.size w w' := by
 have hV0 := hV.old
 clear hV
 obtain ⟨R, hR⟩ : ∃ R, R = nright n := ⟨_, rfl⟩
 rw [← hR]
 unfold nright at hR
 have HR := Lib.hid hR
 clear hR
 have hV1 := hV0
 obtain ⟨vp, vo, vv, vh, rfl, h1, h2, h3, h4, _⟩ := hV1
 have HV := Lib.hid hV0
 clear hV0
 unfold noteV at HV ⊢
 obtain ⟨ap, np, cp, rfl⟩ := Sl.shape h1
 obtain ⟨ao, no, co, rfl⟩ := Sl.shape h2
 obtain ⟨av, nv, cv, rfl⟩ := Sl.shape h3
 obtain ⟨ah, nh, ch, rfl⟩ := Sl.shape h4
 clear h1 h2 h3 h4
 have hbx := Box.new w n (.slice ap np cp) (.slice ao no co) (.slice av nv cv) (.slice ah nh ch)
 have hal := (Below.refl w.heap.size w).alloc (Nat.le_refl _) (.cells #[.int .u8 (n.kind.toNat : Int), .int .u64 (n.txn.toNat : Int), .int .u64 (n.batch.toNat : Int), .int .u64 (n.stamp.toNat : Int), .int .u64 (n.after.toNat : Int), .int .u64 (n.mark.toNat : Int), .int .u64 (n.query.toNat : Int), .int .u64 (n.id.toNat : Int), .int .i64 n.k, .int .i64 n.ef, .int .i64 n.code, .int .i64 n.who, .slice ap np cp, .slice ao no co, .slice av nv cv, .slice ah nh ch] 33)
 go_enter Tryd.func24, Tryd.ntmps24
 go_wp2_with (first | ((with_reducible apply ugZ); rfl) | ((with_reducible (first | apply len_B | apply len_BB | apply len_N | apply len_V | apply len_VV | apply len_P | apply len_O | apply len_H)); assumption) | ((with_reducible refine stop_if kT ?_ ?_); rfl))
 generalize w.alloc (.cells #[.int .u8 (n.kind.toNat : Int), .int .u64 (n.txn.toNat : Int), .int .u64 (n.batch.toNat : Int), .int .u64 (n.stamp.toNat : Int), .int .u64 (n.after.toNat : Int), .int .u64 (n.mark.toNat : Int), .int .u64 (n.query.toNat : Int), .int .u64 (n.id.toNat : Int), .int .i64 n.k, .int .i64 n.ef, .int .i64 n.code, .int .i64 n.who, .slice ap np cp, .slice ao no co, .slice av nv cv, .slice ah nh ch] 33) = w1 at hbx hal ⊢
 obtain ⟨bn, hbn⟩ : ∃ bn, bn = w.heap.size := ⟨_, rfl⟩
 rw [← hbn] at hbx ⊢
 have HBN := Lib.hid hbn
 clear hbn
 refine (sorted_any w1 n.kind.toNat (hN.below hal (Nat.le_refl _)) n.kind.toNat_lt).mono ?_
 rintro e w2 ⟨rfl, hb2⟩
 have hbx2 := hbx.below hb2 hbx.lt
 have hB2 := below_on hal hb2 hal.size
 obtain ⟨nm, hnm⟩ : ∃ nm : ByteArray, nm = ⟨(sortName n.kind.toNat).toArray⟩ := ⟨_, rfl⟩
 obtain ⟨mk, hmk⟩ : ∃ mk, mk = sortMask n.kind.toNat := ⟨_, rfl⟩
 unfold sortV
 rw [← hnm, ← hmk]
 have Hn := Lib.hid hnm
 have Hm := Lib.hid hmk
 clear hnm hmk hal hb2 hbx
 go_wp2_with (first | ((with_reducible apply ugZ); rfl) | ((with_reducible (first | apply len_B | apply len_BB | apply len_N | apply len_V | apply len_VV | apply len_P | apply len_O | apply len_H)); assumption) | ((with_reducible refine stop_if kT ?_ ?_); rfl))
 have hB3 := hB2.alloc hB2.size (.cells #[.string nm, .int .i64 (mk : Int)] 125)
 have hbx3 := hbx2.below ((Below.refl w2.heap.size w2).alloc (Nat.le_refl _) (.cells #[.string nm, .int .i64 (mk : Int)] 125)) hbx2.lt
 have e3 := heap_alloc_new w2 (.cells #[.string nm, .int .i64 (mk : Int)] 125)
 have hsz3 : bn < (w2.alloc (.cells #[.string nm, .int .i64 (mk : Int)] 125)).heap.size := hbx3.lt
 generalize w2.alloc (.cells #[.string nm, .int .i64 (mk : Int)] 125) = w3 at hB3 hbx3 e3 hsz3 ⊢
 obtain ⟨bs, hbs⟩ : ∃ bs, bs = w2.heap.size := ⟨_, rfl⟩
 rw [← hbs] at e3 ⊢
 have hbsl : bs < w3.heap.size := (Array.getElem?_eq_some_iff.1 e3).1
 clear hbs hbx2 hB2
 have hI : ∀ wq, Below w3.heap.size w3 wq → wq.cell? ⟨bs, 0, none⟩ = some (.string nm) ∧ wq.cell? ⟨bs, 1, none⟩ = some (.int .i64 (mk : Int)) := by
  intro wq hb
  have e2 := hb.block bs hbsl
  rw [e3] at e2
  simp [World.cell?, e2]
 have hD : ∀ wq, Below w3.heap.size w3 wq → wq.cell? ⟨bn, 0, none⟩ = some (.int .u8 (n.kind.toNat : Int)) ∧ wq.cell? ⟨bn, 1, none⟩ = some (.int .u64 (n.txn.toNat : Int)) ∧ wq.cell? ⟨bn, 2, none⟩ = some (.int .u64 (n.batch.toNat : Int)) ∧ wq.cell? ⟨bn, 3, none⟩ = some (.int .u64 (n.stamp.toNat : Int)) ∧ wq.cell? ⟨bn, 4, none⟩ = some (.int .u64 (n.after.toNat : Int)) ∧ wq.cell? ⟨bn, 5, none⟩ = some (.int .u64 (n.mark.toNat : Int)) ∧ wq.cell? ⟨bn, 6, none⟩ = some (.int .u64 (n.query.toNat : Int)) ∧ wq.cell? ⟨bn, 7, none⟩ = some (.int .u64 (n.id.toNat : Int)) ∧ wq.cell? ⟨bn, 8, none⟩ = some (.int .i64 n.k) ∧ wq.cell? ⟨bn, 9, none⟩ = some (.int .i64 n.ef) ∧ wq.cell? ⟨bn, 10, none⟩ = some (.int .i64 n.code) ∧ wq.cell? ⟨bn, 11, none⟩ = some (.int .i64 n.who) ∧ wq.cell? ⟨bn, 12, none⟩ = some (.slice ap np cp) ∧ wq.cell? ⟨bn, 13, none⟩ = some (.slice ao no co) ∧ wq.cell? ⟨bn, 14, none⟩ = some (.slice av nv cv) ∧ wq.cell? ⟨bn, 15, none⟩ = some (.slice ah nh ch) := fun wq hb => (hbx3.below hb hsz3).cells
 obtain ⟨s0, s1⟩ := hI w3 (Below.refl _ _)
 obtain ⟨d0, d1, d2, d3, d4, d5, d6, d7, d8, d9, d10, d11, d12, d13, d14, d15⟩ := hD w3 (Below.refl _ _)
 have hV3 : Nt w3 (· < w.heap.size) n (.agg #[.int .u8 (n.kind.toNat : Int), .int .u64 (n.txn.toNat : Int), .int .u64 (n.batch.toNat : Int), .int .u64 (n.stamp.toNat : Int), .int .u64 (n.after.toNat : Int), .int .u64 (n.mark.toNat : Int), .int .u64 (n.query.toNat : Int), .int .u64 (n.id.toNat : Int), .int .i64 n.k, .int .i64 n.ef, .int .i64 n.code, .int .i64 n.who, .slice ap np cp, .slice ao no co, .slice av nv cv, .slice ah nh ch]) := HV.out.below hB3 (Nat.le_refl _)
 by_cases hnE : sortName n.kind.toNat = []
 ·have hn0 : nm = ⟨#[]⟩ := by rw [Hn.out, hnE]
  subst hn0
  have e : R = false := by rw [HR.out, hnE]; rfl
  clear hI hD
  go_quiet (fail)
  go_wp2_with (first | ((with_reducible apply ugZ); rfl) | ((with_reducible (first | apply len_B | apply len_BB | apply len_N | apply len_V | apply len_VV | apply len_P | apply len_O | apply len_H)); assumption) | ((with_reducible refine stop_if kT ?_ ?_); rfl))
  go_ret
  rw [e]
  exact ⟨rfl, hB3.trans ⟨rfl, rfl, rfl, Nat.le_refl _, fun _ _ => rfl⟩⟩
 ·have hn0 : nm.toList.isEmpty = false := by
   rw [Hn.out, ByteArray.toList_mk]
   simp [hnE]
  have hne : (sortName n.kind.toNat).isEmpty = false := by simp [hnE]
  have e := HR.out
  rw [hne, ← Hm.out] at e
  simp only [Bool.not_false, Bool.true_and] at e
  have HR := Lib.hid e
  clear e hne
  have hf := andNot_fits (heldBits n) mk (by rw [Hm.out]; exact sortMask_lt _) (by rw [heldBits_len]; omega)
  obtain ⟨mh, hmh⟩ : ∃ mh, mh = maskOf (heldBits n) := ⟨_, rfl⟩
  rw [← hmh] at hf
  have Hmh := Lib.hid hmh
  clear hmh
  have hV3d : Nt w3.drew (· < w.heap.size) n (.agg #[.int .u8 (n.kind.toNat : Int), .int .u64 (n.txn.toNat : Int), .int .u64 (n.batch.toNat : Int), .int .u64 (n.stamp.toNat : Int), .int .u64 (n.after.toNat : Int), .int .u64 (n.mark.toNat : Int), .int .u64 (n.query.toNat : Int), .int .u64 (n.id.toNat : Int), .int .i64 n.k, .int .i64 n.ef, .int .i64 n.code, .int .i64 n.who, .slice ap np cp, .slice ao no co, .slice av nv cv, .slice ah nh ch]) := hV3.below (Below.refl w3.heap.size w3).drew (Nat.le_refl _)
  by_cases hfit : fits (heldBits n) mk = true
  ·rw [hfit] at hf
   have e := HR.out
   rw [hfit] at e
   simp only [Bool.true_and] at e
   have HR := Lib.hid e
   clear e
   go_region_held3 (fun wq => (wq.cell? ⟨bs, 0, none⟩ = some (.string nm) ∧ wq.cell? ⟨bs, 1, none⟩ = some (.int .i64 (mk : Int))) ∧ wq.cell? ⟨bn, 0, none⟩ = some (.int .u8 (n.kind.toNat : Int)) ∧ wq.cell? ⟨bn, 1, none⟩ = some (.int .u64 (n.txn.toNat : Int)) ∧ wq.cell? ⟨bn, 2, none⟩ = some (.int .u64 (n.batch.toNat : Int)) ∧ wq.cell? ⟨bn, 3, none⟩ = some (.int .u64 (n.stamp.toNat : Int)) ∧ wq.cell? ⟨bn, 4, none⟩ = some (.int .u64 (n.after.toNat : Int)) ∧ wq.cell? ⟨bn, 5, none⟩ = some (.int .u64 (n.mark.toNat : Int)) ∧ wq.cell? ⟨bn, 6, none⟩ = some (.int .u64 (n.query.toNat : Int)) ∧ wq.cell? ⟨bn, 7, none⟩ = some (.int .u64 (n.id.toNat : Int)) ∧ wq.cell? ⟨bn, 8, none⟩ = some (.int .i64 n.k) ∧ wq.cell? ⟨bn, 9, none⟩ = some (.int .i64 n.ef) ∧ wq.cell? ⟨bn, 10, none⟩ = some (.int .i64 n.code) ∧ wq.cell? ⟨bn, 11, none⟩ = some (.int .i64 n.who) ∧ wq.cell? ⟨bn, 12, none⟩ = some (.slice ap np cp) ∧ wq.cell? ⟨bn, 13, none⟩ = some (.slice ao no co) ∧ wq.cell? ⟨bn, 14, none⟩ = some (.slice av nv cv) ∧ wq.cell? ⟨bn, 15, none⟩ = some (.slice ah nh ch))
    (first | exact ⟨hI _ ((Below.refl w3.heap.size w3).drew), hD _ ((Below.refl w3.heap.size w3).drew)⟩ | exact ⟨hI _ hq4, hD _ hq4⟩ | exact ⟨hI _ hq5, hD _ hq5⟩)
    (first
     | (go_at_call 69; refine (held_any w3.drew _ n _ hV3d).mono ?_; rintro e w4 ⟨rfl, hb4⟩; rw [← Hmh.out]; have hq4 : Below w3.heap.size w3 w4 := ((Below.refl w3.heap.size w3).drew).trans hb4; have hV4 := hV3d.below hb4 (Nat.le_refl _))
     | (go_at_call 70; refine (bounded_any w4 _ n _ hV4).mono ?_; rintro e w5 ⟨rfl, hb5⟩; have hq5 : Below w3.heap.size w3 w5 := below_on hq4 hb5 hq4.size))
   rename_i hHeld
   go_wp2_with (first | ((with_reducible apply ugZ); rfl) | ((with_reducible (first | apply len_B | apply len_BB | apply len_N | apply len_V | apply len_VV | apply len_P | apply len_O | apply len_H)); assumption) | ((with_reducible refine stop_if kT ?_ ?_); rfl))
   go_ret
   rw [HR.out]
   exact ⟨rfl, below_on hB3 hq5 hB3.size⟩
  ·rw [Bool.not_eq_true] at hfit
   rw [hfit] at hf
   have e : R = false := by rw [HR.out, hfit]; rfl
   clear s0 s1 d0 d1 d2 d3 d4 d5 d6 d7 d8 d9 d10 d11 d12 d13 d14 d15
   obtain ⟨s0, s1⟩ := hI w3.drew ((Below.refl w3.heap.size w3).drew)
   obtain ⟨d0, d1, d2, d3, d4, d5, d6, d7, d8, d9, d10, d11, d12, d13, d14, d15⟩ := hD w3.drew ((Below.refl w3.heap.size w3).drew)
   go_region_with (first
     | (go_at_call 69; refine (held_any w3.drew _ n _ hV3d).mono ?_; rintro e w4 ⟨rfl, hb4⟩; rw [← Hmh.out]; have hq4 : Below w3.heap.size w3 w4 := ((Below.refl w3.heap.size w3).drew).trans hb4; obtain ⟨t0, t1⟩ := hI w4 hq4))
   all_goals
    go_wp2_with (fail)
    go_ret
    rw [e]
    exact ⟨rfl, below_on hB3 hq4 hB3.size⟩
end Go.Proofs.YtjkffjngamagkaaDoor
