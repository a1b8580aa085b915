/- armillaryref12: Pack. -/
import Derived.Test.YtjkffjngamagkaaDoorRefRight
import Derived.Test.YtjkffjngamagkaaDoorNotePack
import Derived.Test.YtjkffjngamagkaaDoorPackC
import Derived.Test.YtjkffjngamagkaaDoorPackG
import Derived.Test.YtjkffjngamagkaaDoorPackE
import Derived.Test.YtjkffjngamagkaaDoorNoteRead
namespace Go.Proofs.YtjkffjngamagkaaDoor
open Go Go.RowKit Go.Arm
theorem step_app_B {ops : Array Oper} {a : Act} {w : World} {dst : Option Tmp} {ty : TypeId} {pos : String} {after : Array Edge} {K : Act → World → Prop} {Q : Exit → Act → World → Prop} {E : Prop}
  {s x : Operand} {B : Nat} {S : Nat → Prop} {l m : List UInt8} (hs : OwnB w B l (a.eval s)) (hx : Sl w S m (a.eval x)) (hl : l.length + m.length ≤ 140737488355328) (hB : B ≤ w.heap.size)
  (h : ∀ v' w', OwnB w' B (l ++ m) v' → w.grownBy w' (a.eval s).ownBlock → (v'.ownBlock = (a.eval s).ownBlock ∨ ∃ g, v'.ownBlock = some g ∧ w.heap.size ≤ g) → K (a.put dst v') w') :
  if Region.wanted ⟨dst, .call ⟨.builtin .append, #[s, x], #[22, 22]⟩, ty, pos, after, none⟩ (yielded ops a.tmps) = true then
   Oper.wp Tryd.prog ⟨dst, .call ⟨.builtin .append, #[s, x], #[22, 22]⟩, ty, pos, after, none⟩ a w K Q else E :=
 step_of_list rfl (fun a' w' => ∃ v', a' = a.put dst v' ∧ OwnB w' B (l ++ m) v' ∧ w.grownBy w' (a.eval s).ownBlock ∧ (v'.ownBlock = (a.eval s).ownBlock ∨ ∃ g, v'.ownBlock = some g ∧ w.heap.size ≤ g))
  (fun _ _ hQ => app_B hs hx hl hB fun v' _ g1 g2 g3 => hQ _ _ ⟨v', rfl, g1, g2, g3⟩)
  fun _ _ ⟨v', e, g1, g2, g3⟩ => e ▸ h v' _ g1 g2 g3
theorem prefix_len (n : NoteR) (h : NFair n) (j : Nat) : (enc n.kind.toNat ++ ((fieldsOf n.kind.toNat).take j).flatMap (sec n)).length ≤ 4096 := by
 have h1 := encNote_len h
 rw [encNote_fields] at h1
 have e : (fieldsOf n.kind.toNat).flatMap (sec n) = ((fieldsOf n.kind.toNat).take j).flatMap (sec n) ++ ((fieldsOf n.kind.toNat).drop j).flatMap (sec n) := by
  rw [← List.flatMap_append, List.take_append_drop]
 rw [e, ← List.append_assoc, List.length_append] at h1
 omega
set_option maxHeartbeats 16000000 in
set_option maxRecDepth 100000 in
theorem rpack_any (w : World) (S : Nat → Prop) (n : NoteR) (V : Value) (hV : Nt w S n V) :
  Calls Tryd.prog 21 #[V] w fun e w' => ∃ v, e = .returned (.tuple #[v, .int .i64 (if nright n then 0 else 4)]) ∧ OwnB w' w.heap.size (if nright n then frame (encNote n) else []) v ∧ Below w.heap.size w w' := by
 have hV0 := hV.old
 clear hV
 have hright := fun w' S' V' hV' => rright_any w' S' n V' hV'
 obtain ⟨NR, hNR⟩ : ∃ NR, NR = nright n := ⟨_, rfl⟩
 rw [← hNR] at hright ⊢
 have HNR := Lib.hid hNR
 clear hNR
 obtain ⟨OUT, hOUT⟩ : ∃ OUT, OUT = (if NR = true then frame (encNote n) else []) := ⟨_, rfl⟩
 obtain ⟨EC, hEC⟩ : ∃ EC : Int, EC = (if NR = true then 0 else 4) := ⟨_, rfl⟩
 rw [← hOUT, ← hEC]
 have HOUT := Lib.hid hOUT
 have HEC := Lib.hid hEC
 clear hOUT hEC
 obtain ⟨vp, vo, vv, vh, rfl, h1, h2, h3, h4, h5⟩ := hV0
 obtain ⟨ap, np, cp, rfl⟩ := Sl.shape h1
 obtain ⟨ao, no, co, rfl⟩ := Sl.shape h2
 obtain ⟨av, nv, cv, rfl⟩ := Sl.shape h3
 obtain ⟨ah, nh, ch, rfl⟩ := Sl.shape h4
 obtain rfl := Sl.len_is h1
 obtain rfl := Sl.len_is h2
 obtain rfl := Sl.len_is h3
 obtain rfl := Sl.len_is h4
 have hm1 := h1.length_le
 have hm2 := h2.length_le
 have hm3 := h3.length_le
 have hm4 := h4.length_le
 unfold maxLen at hm1 hm2 hm3 hm4
 go_enter Tryd.func21, Tryd.ntmps21
 go_wp2_with (first | ((with_reducible apply ugZ); rfl) | ((with_reducible (first | apply len_B | apply len_BB | apply len_N | apply len_V | apply len_VV | apply len_P | apply len_O | apply len_H)); assumption) | ((with_reducible refine stop_if kL ?_ ?_); rfl))
 refine Stop.go (box_R (n := n) rfl fun b w1 hb hbg ha1 => ?_)
 have p1 := h1.below ha1 (Nat.le_refl _)
 have p2 := h2.below ha1 (Nat.le_refl _)
 have p3 := h3.below ha1 (Nat.le_refl _)
 have p4 := h4.below ha1 (Nat.le_refl _)
 have hnt1 : Nt w1 (· < w.heap.size) n (noteV n (.slice ap n.parts.length cp) (.slice ao n.ops.length co) (.slice av n.vec.length cv) (.slice ah n.hits.length ch)) := ⟨_, _, _, _, rfl, p1, p2, p3, p4, h5⟩
 clear h1 h2 h3 h4 h5
 go_wp2_with (first | ((with_reducible apply ugZ); rfl) | ((with_reducible (first | apply len_B | apply len_BB | apply len_N | apply len_V | apply len_VV | apply len_P | apply len_O | apply len_H)); assumption) | ((with_reducible refine stop_if kL ?_ ?_); rfl))
 refine Stop.go (load_R hb rfl ?_)
 go_wp2_with (first | ((with_reducible apply ugZ); rfl) | ((with_reducible (first | apply len_B | apply len_BB | apply len_N | apply len_V | apply len_VV | apply len_P | apply len_O | apply len_H)); assumption) | ((with_reducible refine stop_if kL ?_ ?_); rfl))
 refine (hright w1 _ _ hnt1).mono ?_
 rintro e w2 ⟨rfl, hb2⟩
 clear hright hnt1
 cases NR
 ·have e : OUT = [] := HOUT.out
  subst e
  have e : EC = 4 := HEC.out
  subst e
  go_wp2_with (first | ((with_reducible apply ugZ); rfl) | ((with_reducible (first | apply len_B | apply len_BB | apply len_N | apply len_V | apply len_VV | apply len_P | apply len_O | apply len_H)); assumption) | ((with_reducible refine stop_if kL ?_ ?_); rfl))
  go_ret2
  exact ⟨_, rfl, Own.nil _ _ _ _, below_on ha1 hb2 ha1.size⟩
 have e : EC = 0 := HEC.out
 subst e
 have e : OUT = frame (encNote n) := HOUT.out
 have HO2 := Lib.hid e
 clear e HEC HOUT
 have hfair := nright_fair HNR.out.symm
 have hkk := hfair.kind
 clear HNR
 have P1 := Lib.hid p1
 have P2 := Lib.hid p2
 have P3 := Lib.hid p3
 have P4 := Lib.hid p4
 clear p1 p2 p3 p4
 have c0 := (hb.below hb2 hb.lt).cells.1
 go_wp2_with (first | ((with_reducible apply ugZ); rfl) | ((with_reducible (first | apply len_B | apply len_BB | apply len_N | apply len_V | apply len_VV | apply len_P | apply len_O | apply len_H)); assumption) | ((with_reducible refine stop_if kL ?_ ?_); rfl))
 refine (rnum02_any n.kind.toNat w2 (by omega)).mono ?_
 rintro e w3 ⟨v3, rfl, hv3, hb3⟩
 have hB3 := below_on hb2 hb3 hb2.size
 have ho3 : OwnB w3 w1.heap.size (enc n.kind.toNat) v3 := Own.rebase hv3 fun k hk => by have := (hv3.ge k hk).1; have := hb2.size; omega
 have c0 := (hb.below hB3 hb.lt).cells.1
 clear hv3 hb3 hb2
 go_wp2_with (first | ((with_reducible apply ugZ); rfl) | ((with_reducible (first | apply len_B | apply len_BB | apply len_N | apply len_V | apply len_VV | apply len_P | apply len_O | apply len_H)); assumption) | ((with_reducible refine stop_if kL ?_ ?_); rfl))
 refine (rname_any w3 n.kind.toNat n.kind.toNat_lt).mono ?_
 rintro e w4 ⟨rfl, rfl⟩
 obtain ⟨nm, hnm⟩ : ∃ nm : ByteArray, nm = ⟨(sortName n.kind.toNat).toArray⟩ := ⟨_, rfl⟩
 rw [← hnm]
 clear hnm c0
 obtain ⟨F, hF⟩ : ∃ F : List UInt8, F = encNote n := ⟨_, rfl⟩
 have hFl : F.length ≤ 4096 := by rw [hF]; exact encNote_len hfair
 rw [encNote_fields] at hF
 have e : OUT = frame F := HO2.out.trans (by rw [hF, encNote_fields])
 subst e
 clear HO2
 have hpl := fun j => prefix_len n hfair j
 have hLl : (sortLets n.kind.toNat).length ≤ 100 := by
  have : ∀ q : Fin 256, (sortLets q.val).length ≤ 100 := by decide +kernel
  exact this ⟨n.kind.toNat, n.kind.toNat_lt⟩
 have hlet := lets_fields n.kind.toNat
 have hin := fieldsOf_lt n.kind.toNat
 generalize fieldsOf n.kind.toNat = FS at *
 generalize sortLets n.kind.toNat = LS at *
 have HF := Lib.hid hF
 have HL := Lib.hid hlet
 have HI := Lib.hid hin
 have HP := Lib.hid hpl
 have hFS : LS.length = FS.length := by rw [hlet, List.length_map]
 clear hF hlet hin hpl
 have HB := Lib.hid ha1
 clear ha1
 go_wp2_with (first | ((with_reducible apply ugZ); rfl) | ((with_reducible (first | apply len_B | apply len_BB | apply len_N | apply len_V | apply len_VV | apply len_P | apply len_O | apply len_H)); assumption) | ((with_reducible refine stop_if kL ?_ ?_); rfl))
 go_loopg [4, 7, 9] (LS.length + 1) (fun m x4 x7 x9 wr => ∃ (j : Nat), m = LS.length - j + 1 ∧ j ≤ LS.length ∧ x7 = .int .i64 j ∧ OwnB wr w1.heap.size (enc n.kind.toNat ++ (FS.take j).flatMap (sec n)) x4 ∧ Below w1.heap.size w1 wr)
 case atStart => exact ⟨0, by omega, by omega, rfl, by simpa using ho3, hB3⟩
 case round =>
  obtain ⟨j, hm, hj, rfl, ho, hbr⟩ := hrel
  have Hm := Lib.hid hm
  clear hm ho3 hB3
  by_cases hlt : j < LS.length
  ·have hltI : (j : Int) < (LS.length : Int) := by omega
   have hltB : j < (ByteArray.mk LS.toArray).size := hlt
   obtain ⟨i, hi⟩ : ∃ i, FS[j]? = some i := ⟨_, List.getElem?_eq_getElem (by omega)⟩
   have hi15 := (HI.out i (List.mem_of_getElem? hi)).1
   have hX : ((((ByteArray.mk LS.toArray)[j]'hltB).toNat : Nat) : Int) = ((letters.getD i 0).toNat : Int) := by
    have e1 : LS[j]? = some (letters.getD i 0) := by rw [HL.out, List.getElem?_map, hi]; rfl
    have e2 : LS[j]'hlt = letters.getD i 0 := by rw [List.getElem?_eq_getElem hlt] at e1; exact Option.some.inj e1
    show ((((LS[j]'hlt).toNat : Nat)) : Int) = _
    rw [e2]
   have hst := flatMap_snoc (sec n) FS j i hi
   have hLle := HP.out j
   obtain ⟨L, hL⟩ : ∃ L, L = enc n.kind.toNat ++ (FS.take j).flatMap (sec n) := ⟨_, rfl⟩
   have hst2 : enc n.kind.toNat ++ (FS.take (j + 1)).flatMap (sec n) = L ++ sec n i := by rw [hst, hL, List.append_assoc]
   rw [← hL] at ho hLle
   have Hst := Lib.hid hst2
   clear hst hst2 hL hi
   obtain ⟨c0, c1, c2, c3, c4, c5, c6, c7, c8, c9, c10, c11, c12, c13, c14, c15⟩ := (hb.below hbr hb.lt).cells
   have Hbr := Lib.hid hbr
   have hsz := hbr.size
   clear hbr
   go_upto_region 15 with (fail)
   generalize ((((ByteArray.mk LS.toArray)[j]'hltB).toNat : Nat) : Int) = X at *
   rcases (show i = 0 ∨ i = 1 ∨ i = 2 ∨ i = 3 ∨ i = 4 ∨ i = 5 ∨ i = 6 ∨ i = 7 ∨ i = 8 ∨ i = 9 ∨ i = 10 ∨ i = 11 ∨ i = 12 ∨ i = 13 ∨ i = 14 by omega) with rfl | rfl | rfl | rfl | rfl | rfl | rfl | rfl | rfl | rfl | rfl | rfl | rfl | rfl | rfl
   ·as_aux_lemma =>
     have hX : X = 116 := hX
     subst hX
     clear c0 c2 c3 c4 c5 c6 c7 c8 c9 c10 c11 c12 c13 c14 c15
     have hs0 : sec n 0 = enc n.txn.toNat := rfl
     have hst1 := Hst.out
     rw [hs0] at hst1
     have Hst := Lib.hid hst1
     clear hst1 hs0
     have hel := enc_len10 n.txn.toNat n.txn.toNat_lt
     go_wp2_with (fail)
     refine (rnum02_any n.txn.toNat wr n.txn.toNat_lt).mono ?_
     rintro e w5 ⟨v5, rfl, hv5, hb5⟩
     have ho5 : OwnB w5 _ _ _ := Own.below ho hb5 (Nat.le_refl _)
     have hB5 := below_on Hbr.out hb5 Hbr.out.size
     go_wp2_with (first | ((with_reducible apply ugZ); rfl) | ((with_reducible (first | apply len_B | apply len_BB | apply len_N | apply len_V | apply len_VV | apply len_P | apply len_O | apply len_H)); assumption) | ((with_reducible refine stop_if kL ?_ ?_); rfl))
     refine Stop.go (app_B ho5 hv5.sl' (by omega) hB5.size fun vq5 wq5 g5 gg5 _ => ?_)
     have hG5 := hB5.grown gg5 hB5.size (fun k hk => (ho5.ge k hk).1)
     go_wp2_with (fail)
     go_roundg (LS.length - (j + 1) + 1)
     case measure => have := Hm.out; omega
     case rel => exact ⟨j + 1, by omega, by omega, by go_num, by rw [Hst.out]; exact g5, hG5⟩
   ·as_aux_lemma =>
     have hX : X = 98 := hX
     subst hX
     clear c0 c1 c3 c4 c5 c6 c7 c8 c9 c10 c11 c12 c13 c14 c15
     have hs0 : sec n 1 = enc n.batch.toNat := rfl
     have hst1 := Hst.out
     rw [hs0] at hst1
     have Hst := Lib.hid hst1
     clear hst1 hs0
     have hel := enc_len10 n.batch.toNat n.batch.toNat_lt
     go_wp2_with (fail)
     refine (rnum02_any n.batch.toNat wr n.batch.toNat_lt).mono ?_
     rintro e w5 ⟨v5, rfl, hv5, hb5⟩
     have ho5 : OwnB w5 _ _ _ := Own.below ho hb5 (Nat.le_refl _)
     have hB5 := below_on Hbr.out hb5 Hbr.out.size
     go_wp2_with (first | ((with_reducible apply ugZ); rfl) | ((with_reducible (first | apply len_B | apply len_BB | apply len_N | apply len_V | apply len_VV | apply len_P | apply len_O | apply len_H)); assumption) | ((with_reducible refine stop_if kL ?_ ?_); rfl))
     refine Stop.go (app_B ho5 hv5.sl' (by omega) hB5.size fun vq5 wq5 g5 gg5 _ => ?_)
     have hG5 := hB5.grown gg5 hB5.size (fun k hk => (ho5.ge k hk).1)
     go_wp2_with (fail)
     go_roundg (LS.length - (j + 1) + 1)
     case measure => have := Hm.out; omega
     case rel => exact ⟨j + 1, by omega, by omega, by go_num, by rw [Hst.out]; exact g5, hG5⟩
   ·as_aux_lemma =>
     have hX : X = 115 := hX
     subst hX
     clear c0 c1 c2 c4 c5 c6 c7 c8 c9 c10 c11 c12 c13 c14 c15
     have hs0 : sec n 2 = enc n.stamp.toNat := rfl
     have hst1 := Hst.out
     rw [hs0] at hst1
     have Hst := Lib.hid hst1
     clear hst1 hs0
     have hel := enc_len10 n.stamp.toNat n.stamp.toNat_lt
     go_wp2_with (fail)
     refine (rnum02_any n.stamp.toNat wr n.stamp.toNat_lt).mono ?_
     rintro e w5 ⟨v5, rfl, hv5, hb5⟩
     have ho5 : OwnB w5 _ _ _ := Own.below ho hb5 (Nat.le_refl _)
     have hB5 := below_on Hbr.out hb5 Hbr.out.size
     go_wp2_with (first | ((with_reducible apply ugZ); rfl) | ((with_reducible (first | apply len_B | apply len_BB | apply len_N | apply len_V | apply len_VV | apply len_P | apply len_O | apply len_H)); assumption) | ((with_reducible refine stop_if kL ?_ ?_); rfl))
     refine Stop.go (app_B ho5 hv5.sl' (by omega) hB5.size fun vq5 wq5 g5 gg5 _ => ?_)
     have hG5 := hB5.grown gg5 hB5.size (fun k hk => (ho5.ge k hk).1)
     go_wp2_with (fail)
     go_roundg (LS.length - (j + 1) + 1)
     case measure => have := Hm.out; omega
     case rel => exact ⟨j + 1, by omega, by omega, by go_num, by rw [Hst.out]; exact g5, hG5⟩
   ·as_aux_lemma =>
     have hX : X = 97 := hX
     subst hX
     clear c0 c1 c2 c3 c5 c6 c7 c8 c9 c10 c11 c12 c13 c14 c15
     have hs0 : sec n 3 = enc n.after.toNat := rfl
     have hst1 := Hst.out
     rw [hs0] at hst1
     have Hst := Lib.hid hst1
     clear hst1 hs0
     have hel := enc_len10 n.after.toNat n.after.toNat_lt
     go_wp2_with (fail)
     refine (rnum02_any n.after.toNat wr n.after.toNat_lt).mono ?_
     rintro e w5 ⟨v5, rfl, hv5, hb5⟩
     have ho5 : OwnB w5 _ _ _ := Own.below ho hb5 (Nat.le_refl _)
     have hB5 := below_on Hbr.out hb5 Hbr.out.size
     go_wp2_with (first | ((with_reducible apply ugZ); rfl) | ((with_reducible (first | apply len_B | apply len_BB | apply len_N | apply len_V | apply len_VV | apply len_P | apply len_O | apply len_H)); assumption) | ((with_reducible refine stop_if kL ?_ ?_); rfl))
     refine Stop.go (app_B ho5 hv5.sl' (by omega) hB5.size fun vq5 wq5 g5 gg5 _ => ?_)
     have hG5 := hB5.grown gg5 hB5.size (fun k hk => (ho5.ge k hk).1)
     go_wp2_with (fail)
     go_roundg (LS.length - (j + 1) + 1)
     case measure => have := Hm.out; omega
     case rel => exact ⟨j + 1, by omega, by omega, by go_num, by rw [Hst.out]; exact g5, hG5⟩
   ·as_aux_lemma =>
     have hX : X = 109 := hX
     subst hX
     clear c0 c1 c2 c3 c4 c6 c7 c8 c9 c10 c11 c12 c13 c14 c15
     have hs0 : sec n 4 = enc n.mark.toNat := rfl
     have hst1 := Hst.out
     rw [hs0] at hst1
     have Hst := Lib.hid hst1
     clear hst1 hs0
     have hel := enc_len10 n.mark.toNat n.mark.toNat_lt
     go_wp2_with (fail)
     refine (rnum02_any n.mark.toNat wr n.mark.toNat_lt).mono ?_
     rintro e w5 ⟨v5, rfl, hv5, hb5⟩
     have ho5 : OwnB w5 _ _ _ := Own.below ho hb5 (Nat.le_refl _)
     have hB5 := below_on Hbr.out hb5 Hbr.out.size
     go_wp2_with (first | ((with_reducible apply ugZ); rfl) | ((with_reducible (first | apply len_B | apply len_BB | apply len_N | apply len_V | apply len_VV | apply len_P | apply len_O | apply len_H)); assumption) | ((with_reducible refine stop_if kL ?_ ?_); rfl))
     refine Stop.go (app_B ho5 hv5.sl' (by omega) hB5.size fun vq5 wq5 g5 gg5 _ => ?_)
     have hG5 := hB5.grown gg5 hB5.size (fun k hk => (ho5.ge k hk).1)
     go_wp2_with (fail)
     go_roundg (LS.length - (j + 1) + 1)
     case measure => have := Hm.out; omega
     case rel => exact ⟨j + 1, by omega, by omega, by go_num, by rw [Hst.out]; exact g5, hG5⟩
   ·as_aux_lemma =>
     have hX : X = 113 := hX
     subst hX
     clear c0 c1 c2 c3 c4 c5 c7 c8 c9 c10 c11 c12 c13 c14 c15
     have hs0 : sec n 5 = enc n.query.toNat := rfl
     have hst1 := Hst.out
     rw [hs0] at hst1
     have Hst := Lib.hid hst1
     clear hst1 hs0
     have hel := enc_len10 n.query.toNat n.query.toNat_lt
     go_wp2_with (fail)
     refine (rnum02_any n.query.toNat wr n.query.toNat_lt).mono ?_
     rintro e w5 ⟨v5, rfl, hv5, hb5⟩
     have ho5 : OwnB w5 _ _ _ := Own.below ho hb5 (Nat.le_refl _)
     have hB5 := below_on Hbr.out hb5 Hbr.out.size
     go_wp2_with (first | ((with_reducible apply ugZ); rfl) | ((with_reducible (first | apply len_B | apply len_BB | apply len_N | apply len_V | apply len_VV | apply len_P | apply len_O | apply len_H)); assumption) | ((with_reducible refine stop_if kL ?_ ?_); rfl))
     refine Stop.go (app_B ho5 hv5.sl' (by omega) hB5.size fun vq5 wq5 g5 gg5 _ => ?_)
     have hG5 := hB5.grown gg5 hB5.size (fun k hk => (ho5.ge k hk).1)
     go_wp2_with (fail)
     go_roundg (LS.length - (j + 1) + 1)
     case measure => have := Hm.out; omega
     case rel => exact ⟨j + 1, by omega, by omega, by go_num, by rw [Hst.out]; exact g5, hG5⟩
   ·as_aux_lemma =>
     have hX : X = 105 := hX
     subst hX
     clear c0 c1 c2 c3 c4 c5 c6 c8 c9 c10 c11 c12 c13 c14 c15
     have hs0 : sec n 6 = enc n.id.toNat := rfl
     have hst1 := Hst.out
     rw [hs0] at hst1
     have Hst := Lib.hid hst1
     clear hst1 hs0
     have hel := enc_len10 n.id.toNat n.id.toNat_lt
     go_wp2_with (fail)
     refine (rnum02_any n.id.toNat wr n.id.toNat_lt).mono ?_
     rintro e w5 ⟨v5, rfl, hv5, hb5⟩
     have ho5 : OwnB w5 _ _ _ := Own.below ho hb5 (Nat.le_refl _)
     have hB5 := below_on Hbr.out hb5 Hbr.out.size
     go_wp2_with (first | ((with_reducible apply ugZ); rfl) | ((with_reducible (first | apply len_B | apply len_BB | apply len_N | apply len_V | apply len_VV | apply len_P | apply len_O | apply len_H)); assumption) | ((with_reducible refine stop_if kL ?_ ?_); rfl))
     refine Stop.go (app_B ho5 hv5.sl' (by omega) hB5.size fun vq5 wq5 g5 gg5 _ => ?_)
     have hG5 := hB5.grown gg5 hB5.size (fun k hk => (ho5.ge k hk).1)
     go_wp2_with (fail)
     go_roundg (LS.length - (j + 1) + 1)
     case measure => have := Hm.out; omega
     case rel => exact ⟨j + 1, by omega, by omega, by go_num, by rw [Hst.out]; exact g5, hG5⟩
   ·as_aux_lemma =>
     have hX : X = 107 := hX
     subst hX
     clear c0 c1 c2 c3 c4 c5 c6 c7 c9 c10 c11 c12 c13 c14 c15
     obtain ⟨z, hz, hzb⟩ : ∃ z : Nat, n.k = (z : Int) ∧ z ≤ 1000000 := ⟨n.k.toNat, by have := hfair.nums; unfold NumsOk at this; omega, by have := hfair.nums; unfold NumsOk at this; omega⟩
     have hs0 : sec n 7 = enc z := by
      show enc n.k.toNat = enc z
      rw [hz, Int.toNat_natCast]
     rw [hz] at c8
     clear hz
     have hst1 := Hst.out
     rw [hs0] at hst1
     have Hst := Lib.hid hst1
     clear hst1 hs0
     have hel := enc_len10 z (by omega)
     go_wp2_with (fail)
     refine (rnum02_any z wr (by omega)).mono ?_
     rintro e w5 ⟨v5, rfl, hv5, hb5⟩
     have ho5 : OwnB w5 _ _ _ := Own.below ho hb5 (Nat.le_refl _)
     have hB5 := below_on Hbr.out hb5 Hbr.out.size
     go_wp2_with (first | ((with_reducible apply ugZ); rfl) | ((with_reducible (first | apply len_B | apply len_BB | apply len_N | apply len_V | apply len_VV | apply len_P | apply len_O | apply len_H)); assumption) | ((with_reducible refine stop_if kL ?_ ?_); rfl))
     refine Stop.go (app_B ho5 hv5.sl' (by omega) hB5.size fun vq5 wq5 g5 gg5 _ => ?_)
     have hG5 := hB5.grown gg5 hB5.size (fun k hk => (ho5.ge k hk).1)
     go_wp2_with (fail)
     go_roundg (LS.length - (j + 1) + 1)
     case measure => have := Hm.out; omega
     case rel => exact ⟨j + 1, by omega, by omega, by go_num, by rw [Hst.out]; exact g5, hG5⟩
   ·as_aux_lemma =>
     have hX : X = 101 := hX
     subst hX
     clear c0 c1 c2 c3 c4 c5 c6 c7 c8 c10 c11 c12 c13 c14 c15
     obtain ⟨z, hz, hzb⟩ : ∃ z : Nat, n.ef = (z : Int) ∧ z ≤ 1000000 := ⟨n.ef.toNat, by have := hfair.nums; unfold NumsOk at this; omega, by have := hfair.nums; unfold NumsOk at this; omega⟩
     have hs0 : sec n 8 = enc z := by
      show enc n.ef.toNat = enc z
      rw [hz, Int.toNat_natCast]
     rw [hz] at c9
     clear hz
     have hst1 := Hst.out
     rw [hs0] at hst1
     have Hst := Lib.hid hst1
     clear hst1 hs0
     have hel := enc_len10 z (by omega)
     go_wp2_with (fail)
     refine (rnum02_any z wr (by omega)).mono ?_
     rintro e w5 ⟨v5, rfl, hv5, hb5⟩
     have ho5 : OwnB w5 _ _ _ := Own.below ho hb5 (Nat.le_refl _)
     have hB5 := below_on Hbr.out hb5 Hbr.out.size
     go_wp2_with (first | ((with_reducible apply ugZ); rfl) | ((with_reducible (first | apply len_B | apply len_BB | apply len_N | apply len_V | apply len_VV | apply len_P | apply len_O | apply len_H)); assumption) | ((with_reducible refine stop_if kL ?_ ?_); rfl))
     refine Stop.go (app_B ho5 hv5.sl' (by omega) hB5.size fun vq5 wq5 g5 gg5 _ => ?_)
     have hG5 := hB5.grown gg5 hB5.size (fun k hk => (ho5.ge k hk).1)
     go_wp2_with (fail)
     go_roundg (LS.length - (j + 1) + 1)
     case measure => have := Hm.out; omega
     case rel => exact ⟨j + 1, by omega, by omega, by go_num, by rw [Hst.out]; exact g5, hG5⟩
   ·as_aux_lemma =>
     have hX : X = 99 := hX
     subst hX
     clear c0 c1 c2 c3 c4 c5 c6 c7 c8 c9 c11 c12 c13 c14 c15
     obtain ⟨z, hz, hzb⟩ : ∃ z : Nat, n.code = (z : Int) ∧ z ≤ 1000000 := ⟨n.code.toNat, by have := hfair.nums; unfold NumsOk at this; omega, by have := hfair.nums; unfold NumsOk at this; omega⟩
     have hs0 : sec n 9 = enc z := by
      show enc n.code.toNat = enc z
      rw [hz, Int.toNat_natCast]
     rw [hz] at c10
     clear hz
     have hst1 := Hst.out
     rw [hs0] at hst1
     have Hst := Lib.hid hst1
     clear hst1 hs0
     have hel := enc_len10 z (by omega)
     go_wp2_with (fail)
     refine (rnum02_any z wr (by omega)).mono ?_
     rintro e w5 ⟨v5, rfl, hv5, hb5⟩
     have ho5 : OwnB w5 _ _ _ := Own.below ho hb5 (Nat.le_refl _)
     have hB5 := below_on Hbr.out hb5 Hbr.out.size
     go_wp2_with (first | ((with_reducible apply ugZ); rfl) | ((with_reducible (first | apply len_B | apply len_BB | apply len_N | apply len_V | apply len_VV | apply len_P | apply len_O | apply len_H)); assumption) | ((with_reducible refine stop_if kL ?_ ?_); rfl))
     refine Stop.go (app_B ho5 hv5.sl' (by omega) hB5.size fun vq5 wq5 g5 gg5 _ => ?_)
     have hG5 := hB5.grown gg5 hB5.size (fun k hk => (ho5.ge k hk).1)
     go_wp2_with (fail)
     go_roundg (LS.length - (j + 1) + 1)
     case measure => have := Hm.out; omega
     case rel => exact ⟨j + 1, by omega, by omega, by go_num, by rw [Hst.out]; exact g5, hG5⟩
   ·as_aux_lemma =>
     have hX : X = 119 := hX
     subst hX
     clear c0 c1 c2 c3 c4 c5 c6 c7 c8 c9 c10 c12 c13 c14 c15
     obtain ⟨z, hz, hzb⟩ : ∃ z : Nat, n.who = (z : Int) ∧ z ≤ 1000000 := ⟨n.who.toNat, by have := hfair.nums; unfold NumsOk at this; omega, by have := hfair.nums; unfold NumsOk at this; omega⟩
     have hs0 : sec n 10 = enc z := by
      show enc n.who.toNat = enc z
      rw [hz, Int.toNat_natCast]
     rw [hz] at c11
     clear hz
     have hst1 := Hst.out
     rw [hs0] at hst1
     have Hst := Lib.hid hst1
     clear hst1 hs0
     have hel := enc_len10 z (by omega)
     go_wp2_with (fail)
     refine (rnum02_any z wr (by omega)).mono ?_
     rintro e w5 ⟨v5, rfl, hv5, hb5⟩
     have ho5 : OwnB w5 _ _ _ := Own.below ho hb5 (Nat.le_refl _)
     have hB5 := below_on Hbr.out hb5 Hbr.out.size
     go_wp2_with (first | ((with_reducible apply ugZ); rfl) | ((with_reducible (first | apply len_B | apply len_BB | apply len_N | apply len_V | apply len_VV | apply len_P | apply len_O | apply len_H)); assumption) | ((with_reducible refine stop_if kL ?_ ?_); rfl))
     refine Stop.go (app_B ho5 hv5.sl' (by omega) hB5.size fun vq5 wq5 g5 gg5 _ => ?_)
     have hG5 := hB5.grown gg5 hB5.size (fun k hk => (ho5.ge k hk).1)
     go_wp2_with (fail)
     go_roundg (LS.length - (j + 1) + 1)
     case measure => have := Hm.out; omega
     case rel => exact ⟨j + 1, by omega, by omega, by go_num, by rw [Hst.out]; exact g5, hG5⟩
   ·as_aux_lemma =>
     have hX : X = 112 := hX
     subst hX
     have hsz2 : n.parts.length ≤ 4 := by have := hfair.sizes; unfold SizesOk at this; omega
     have hcv : IntKind.u64.wrap (n.parts.length : Int) = ((n.parts.length : Nat) : Int) := u64_conv _ (by omega) (by omega)
     have hel := enc_len10 n.parts.length (by omega)
     go_wp2_with (fail)
     refine (rnum02_any n.parts.length wr (by omega)).mono ?_
     rintro e w5 ⟨v5, rfl, hv5, hb5⟩
     have ho5 : OwnB w5 _ _ _ := Own.below ho hb5 (Nat.le_refl _)
     have hB5 := below_on Hbr.out hb5 Hbr.out.size
     go_wp2_with (first | ((with_reducible apply ugZ); rfl) | ((with_reducible (first | apply len_B | apply len_BB | apply len_N | apply len_V | apply len_VV | apply len_P | apply len_O | apply len_H)); assumption) | ((with_reducible refine stop_if kL ?_ ?_); rfl))
     refine Stop.go (app_B ho5 hv5.sl' (by omega) hB5.size fun vq5 wq5 g5 gg5 _ => ?_)
     have hG5 := hB5.grown gg5 hB5.size (fun k hk => (ho5.ge k hk).1)
     clear c0 c1 c2 c3 c4 c5 c6 c7 c8 c9 c10 c11 c12 c13 c14 c15
     have c12 := (hb.below hG5 hb.lt).cells.2.2.2.2.2.2.2.2.2.2.2.2.1
     clear hcv ho5 hv5 hb5 gg5 hB5
     have hL1 : (L ++ enc n.parts.length).length ≤ 4106 := by rw [List.length_append]; omega
     obtain ⟨L1, hL1e⟩ : ∃ L1, L1 = L ++ enc n.parts.length := ⟨_, rfl⟩
     rw [← hL1e] at hL1 g5
     have hs2 : L1 ++ encParts n.parts = L ++ sec n 11 := by rw [hL1e, List.append_assoc]; rfl
     have Hs2 := Lib.hid hs2
     clear hs2 hL1e hel
     go_wp2_with (fail)
     go_loopg [4, 9, 157] (n.parts.length + 1) (fun m x4 x9 x157 wz => ∃ (jj : Nat), m = n.parts.length - jj + 1 ∧ jj ≤ n.parts.length ∧ x157 = .int .i64 jj ∧ OwnB wz w1.heap.size (L1 ++ encParts (n.parts.take jj)) x4 ∧ Below w1.heap.size w1 wz)
     case atStart => exact ⟨0, by omega, by omega, rfl, by simpa [encParts] using g5, hG5⟩
     case round =>
      clear g5 hG5 c12
      obtain ⟨jj, hm2, hjj, rfl, ho, hbr⟩ := hrel
      have Hm2 := Lib.hid hm2
      clear hm2
      have hpr := P1.out.below hbr (Nat.le_refl _)
      have hsz := hbr.size
      have hEl : (encParts (n.parts.take jj)).length ≤ 40 := by
       have h1 := encParts_len (n.parts.take jj) (fun q hq => hfair.parts q (List.mem_of_mem_take hq))
       rw [List.length_take] at h1
       omega
      by_cases hlt2 : (jj : Int) < (n.parts.length : Int)
      ·go_wp2_with (first | ((with_reducible apply ugZ); rfl) | ((with_reducible (first | apply len_B | apply len_BB | apply len_N | apply len_V | apply len_VV | apply len_P | apply len_O | apply len_H)); assumption) | ((with_reducible refine stop_if kL ?_ ?_); rfl))
       refine Stop.go (idx_P hpr rfl (by omega) hlt2 fun b6 o6 y hy hyI hcell => ?_)
       rw [Int.toNat_natCast] at hy
       have hy16 := hfair.parts y (List.mem_of_getElem? hy)
       obtain ⟨z, rfl⟩ : ∃ z : Nat, y = (z : Int) := ⟨y.toNat, by omega⟩
       have hzb : z ≤ 15 := by omega
       have hel := enc_len10 z (by omega)
       have hsn := flatMap_snoc (fun p : Int => enc p.toNat) n.parts jj _ hy
       clear hy16 hyI
       have Hsn := Lib.hid hsn
       clear hsn hy
       go_wp2_with (fail)
       refine (rnum02_any z wr (by omega)).mono ?_
       rintro e w6 ⟨v6, rfl, hv6, hb6⟩
       have ho6 : OwnB w6 _ _ _ := Own.below ho hb6 (Nat.le_refl _)
       have hB6 := below_on hbr hb6 hbr.size
       go_wp2_with (first | ((with_reducible apply ugZ); rfl) | ((with_reducible (first | apply len_B | apply len_BB | apply len_N | apply len_V | apply len_VV | apply len_P | apply len_O | apply len_H)); assumption) | ((with_reducible refine stop_if kL ?_ ?_); rfl))
       refine Stop.go (app_B ho6 hv6.sl' (by rw [List.length_append]; omega) hB6.size fun vq6 wq6 g6 gg6 _ => ?_)
       have hG6 := hB6.grown gg6 hB6.size (fun k hk => (ho6.ge k hk).1)
       go_wp2_with (fail)
       go_roundg (n.parts.length - (jj + 1) + 1)
       case measure => have := Hm2.out; omega
       case rel => exact ⟨jj + 1, by omega, by omega, by go_num, by show OwnB _ _ (L1 ++ (n.parts.take (jj + 1)).flatMap fun p : Int => enc p.toNat) _; rw [Hsn.out, ← List.append_assoc]; exact g6, hG6⟩
      ·obtain rfl : jj = n.parts.length := by omega
       rw [List.take_of_length_le (Nat.le_refl _), Hs2.out] at ho
       go_wp2_with (fail)
       go_roundg (LS.length - (j + 1) + 1)
       case measure => have := Hm.out; omega
       case rel => exact ⟨j + 1, by omega, by omega, by go_num, by rw [Hst.out]; exact ho, hbr⟩
   ·as_aux_lemma =>
     have hX : X = 111 := hX
     subst hX
     have hsz2 : n.ops.length ≤ 16 := by have := hfair.sizes; unfold SizesOk at this; omega
     have hcv : IntKind.u64.wrap (n.ops.length : Int) = ((n.ops.length : Nat) : Int) := u64_conv _ (by omega) (by omega)
     have hel := enc_len10 n.ops.length (by omega)
     go_wp2_with (fail)
     refine (rnum02_any n.ops.length wr (by omega)).mono ?_
     rintro e w5 ⟨v5, rfl, hv5, hb5⟩
     have ho5 : OwnB w5 _ _ _ := Own.below ho hb5 (Nat.le_refl _)
     have hB5 := below_on Hbr.out hb5 Hbr.out.size
     go_wp2_with (first | ((with_reducible apply ugZ); rfl) | ((with_reducible (first | apply len_B | apply len_BB | apply len_N | apply len_V | apply len_VV | apply len_P | apply len_O | apply len_H)); assumption) | ((with_reducible refine stop_if kL ?_ ?_); rfl))
     refine Stop.go (app_B ho5 hv5.sl' (by omega) hB5.size fun vq5 wq5 g5 gg5 _ => ?_)
     have hG5 := hB5.grown gg5 hB5.size (fun k hk => (ho5.ge k hk).1)
     clear c0 c1 c2 c3 c4 c5 c6 c7 c8 c9 c10 c11 c12 c13 c14 c15
     have c13 := (hb.below hG5 hb.lt).cells.2.2.2.2.2.2.2.2.2.2.2.2.2.1
     clear hcv ho5 hv5 hb5 gg5 hB5
     have hL1 : (L ++ enc n.ops.length).length ≤ 4106 := by rw [List.length_append]; omega
     obtain ⟨L1, hL1e⟩ : ∃ L1, L1 = L ++ enc n.ops.length := ⟨_, rfl⟩
     rw [← hL1e] at hL1 g5
     have hs2 : L1 ++ encOps n.ops = L ++ sec n 12 := by rw [hL1e, List.append_assoc]; rfl
     have Hs2 := Lib.hid hs2
     clear hs2 hL1e hel
     go_wp2_with (fail)
     go_loopg [4, 179] (n.ops.length + 1) (fun m x4 x179 wz => ∃ (jj : Nat), m = n.ops.length - jj + 1 ∧ jj ≤ n.ops.length ∧ x179 = .int .i64 jj ∧ OwnB wz w1.heap.size (L1 ++ encOps (n.ops.take jj)) x4 ∧ Below w1.heap.size w1 wz)
     case atStart => exact ⟨0, by omega, by omega, rfl, by simpa [encOps] using g5, hG5⟩
     case round =>
      clear g5 hG5 c13
      obtain ⟨jj, hm2, hjj, rfl, ho, hbr⟩ := hrel
      have Hm2 := Lib.hid hm2
      clear hm2
      have hpr := P2.out.below hbr (Nat.le_refl _)
      have hsz := hbr.size
      have hEl : (encOps (n.ops.take jj)).length ≤ 1600 := by
       have h1 := encOps_len (n.ops.take jj) (fun q hq => hfair.ops q (List.mem_of_mem_take hq))
       rw [List.length_take] at h1
       omega
      by_cases hlt2 : (jj : Int) < (n.ops.length : Int)
      ·go_wp2_with (first | ((with_reducible apply ugZ); rfl) | ((with_reducible (first | apply len_B | apply len_BB | apply len_N | apply len_V | apply len_VV | apply len_P | apply len_O | apply len_H)); assumption) | ((with_reducible refine stop_if kL ?_ ?_); rfl))
       refine Stop.go (idx_O hpr rfl (by omega) hlt2 fun bb oo y v hy hv k0 k1 => ?_)
       rw [Int.toNat_natCast] at hy
       have hv8 := hfair.ops y (List.mem_of_getElem? hy)
       have hel := enc_len10 y.id.toNat y.id.toNat_lt
       have hel2 := encVec_len8 y.vec hv8
       have hsn := flatMap_snoc (fun o : OpR => enc o.id.toNat ++ encVec o.vec) n.ops jj y hy
       have Hsn := Lib.hid hsn
       clear hsn hy
       obtain ⟨va, vn, vc, rfl⟩ := Sl.shape hv
       go_upto_region 49 with (fail)
       have hal := (Below.refl wr.heap.size wr).alloc (Nat.le_refl _) (.cells #[.int .u64 (y.id.toNat : Int), .slice va vn vc] 63)
       have hex := heap_alloc_new wr (.cells #[.int .u64 (y.id.toNat : Int), .slice va vn vc] 63)
       clear k0 k1
       generalize wr.alloc (.cells #[.int .u64 (y.id.toNat : Int), .slice va vn vc] 63) = wa at *
       obtain ⟨bo, hbo⟩ : ∃ bo, bo = wr.heap.size := ⟨_, rfl⟩
       rw [← hbo] at hex ⊢
       have hal' := hal.drew
       have hoa := Own.below ho hal' (Nat.le_refl _)
       have hBa := below_on hbr hal' hbr.size
       have hva := (hv.below hal' (Nat.le_refl _))
       have hxa : Blk wa.drew bo 63 #[.int .u64 (y.id.toNat : Int), .slice va vn vc] := hex
       have hne : ∀ k, u4.ownBlock = some k → k ≠ bo := fun k hk => by have := (ho.ge k hk).2; omega
       have hgb : w1.heap.size ≤ bo := by omega
       clear hal hal' hex ho hv hbo
       refine wp_region_D (fun wq => Blk wq bo 63 #[.int .u64 (y.id.toNat : Int), .slice va vn vc]) 8 (fun _ => True) 10 rfl (by kernel_rfl) ?_
       generalize wa.drew = wd at *
       refine tkZ 0 183 (u4) rfl rfl (.inl ⟨by rfl, fun _ _ => by kernel_rfl⟩) (hxa) (.inr trivial) ?_
       simp only [Act.put, zqA, zqB, zqC]
       refine tkZ 1 184 (.pointer (some ⟨bo, 0, none⟩)) rfl rfl (.inl ⟨by rfl, fun _ _ => by kernel_rfl⟩) (hxa) (.inr trivial) ?_
       simp only [Act.put, zqA, zqB, zqC]
       refine tkZ 2 185 (.int .u64 (y.id.toNat : Int)) rfl rfl (blk_yields oneU64 (by rfl) rfl rfl fun _ h => h) (hxa) (.inr trivial) ?_
       simp only [Act.put, zqA, zqB, zqC]
       refine tkZ 5 188 (.pointer (some ⟨bo, 1, none⟩)) rfl rfl (.inl ⟨by rfl, fun _ _ => by kernel_rfl⟩) (hxa) (.inr trivial) ?_
       simp only [Act.put, zqA, zqB, zqC]
       refine tkZ 6 189 (.slice va vn vc) rfl rfl (blk_yields oneV (by rfl) rfl rfl fun _ h => h) (hxa) (.inr trivial) ?_
       simp only [Act.put, zqA, zqB, zqC]
       have hxo := hne
       refine wpAnyD_step (i := 3) (by kernel_rfl) rfl fun K hK => ?_
       refine step_call (vs := #[.int .u64 (y.id.toNat : Int)]) (by rfl) (by go_simp) (by kernel_rfl) (rnum02_any y.id.toNat wd y.id.toNat_lt) ?_
       rintro e wa0 ⟨vn0, rfl, hvn0, hbn0⟩
       have hxA0 := hxa.below hbn0 hxa.lt
       have hoA0 := Own.below hoa hbn0 (Nat.le_refl _)
       have hBA0 := below_on hBa hbn0 hBa.size
       have hvA0 := hva.below hbn0 (Nat.le_refl _)
       refine ⟨_, rfl, hK _ _ hxA0 trivial ?_⟩
       clear hK K
       simp only [Act.put, zqA, zqB, zqC]
       refine wpAnyD_step (i := 4) (by kernel_rfl) rfl fun K hK => ?_
       refine step_app_B (B := w1.heap.size) (l := L1 ++ encOps (n.ops.take jj)) (m := enc y.id.toNat) hoA0 hvn0.sl' (by simp only [List.length_append]; omega) hBA0.size fun vm0 wb0 ho0 gg0 gn0 => ?_
       have gg0 : wa0.grownBy wb0 u4.ownBlock := gg0
       have hxB0 := hxA0.grown gg0 (fun e => hxo _ e rfl)
       have hBB0 := hBA0.grown gg0 hBA0.size (fun k hk => (hoA0.ge k hk).1)
       have hvB0 := hvA0.only (Only.of_grown gg0) (fun b hb _ e => by have := (hoA0.ge b e).1; have := HB.out.size; omega)
       refine hK _ _ hxB0 trivial ?_
       clear hK K
       simp only [Act.put, zqA, zqB, zqC]
       have gn0 : vm0.ownBlock = u4.ownBlock ∨ ∃ g, vm0.ownBlock = some g ∧ wa0.heap.size ≤ g := gn0
       have hxo : ∀ k, vm0.ownBlock = some k → k ≠ bo := fun k hk => by
        rcases gn0 with e | ⟨g, e, hg⟩
        ·rw [e] at hk; exact hxo k hk
        ·rw [e] at hk
         cases hk
         have := hxA0.lt
         omega
       refine wpAnyD_step (i := 7) (by kernel_rfl) rfl fun K hK => ?_
       refine step_call (vs := #[.slice va vn vc]) (by rfl) (by go_simp) (by kernel_rfl) (vec02_any wb0 _ y.vec _ hvB0 (by omega)) ?_
       rintro e wa1 ⟨vn1, rfl, hvn1, hbn1⟩
       have hxA1 := hxB0.below hbn1 hxB0.lt
       have hoA1 := Own.below ho0 hbn1 (Nat.le_refl _)
       have hBA1 := below_on hBB0 hbn1 hBB0.size
       have hvA1 := hvB0.below hbn1 (Nat.le_refl _)
       refine ⟨_, rfl, hK _ _ hxA1 trivial ?_⟩
       clear hK K
       simp only [Act.put, zqA, zqB, zqC]
       refine wpAnyD_stepd (i := 8) (by kernel_rfl) rfl (by kernel_rfl) fun K hK => ?_
       refine step_app_B (B := w1.heap.size) (l := L1 ++ encOps (n.ops.take jj) ++ enc y.id.toNat) (m := encVec y.vec) hoA1 hvn1.sl' (by simp only [List.length_append]; omega) hBA1.size fun vm1 wb1 ho1 gg1 gn1 => ?_
       have gg1 : wa1.grownBy wb1 vm0.ownBlock := gg1
       have hxB1 := hxA1.grown gg1 (fun e => hxo _ e rfl)
       have hBB1 := hBA1.grown gg1 hBA1.size (fun k hk => (hoA1.ge k hk).1)
       have hvB1 := hvA1.only (Only.of_grown gg1) (fun b hb _ e => by have := (hoA1.ge b e).1; have := HB.out.size; omega)
       refine hK _ _ hxB1 ?_
       clear hK K
       simp only [Act.put, zqA, zqB, zqC]
       refine tkZ 9 4 (vm1) rfl rfl (.inl ⟨by rfl, fun _ _ => by kernel_rfl⟩) (hxB1) (.inr trivial) ?_
       simp only [Act.put, zqA, zqB, zqC]
       refine wpAnyD_done (by kernel_rfl) ?_
       go_wp2_with (fail)
       go_roundg (n.ops.length - (jj + 1) + 1)
       case measure => have := Hm2.out; omega
       case rel => exact ⟨jj + 1, by omega, by omega, by go_num, by show OwnB _ _ (L1 ++ (n.ops.take (jj + 1)).flatMap (fun o : OpR => enc o.id.toNat ++ encVec o.vec)) _; rw [Hsn.out]; simpa only [List.append_assoc, encOps] using ho1, hBB1⟩
      ·obtain rfl : jj = n.ops.length := by omega
       rw [List.take_of_length_le (Nat.le_refl _), Hs2.out] at ho
       go_wp2_with (fail)
       go_roundg (LS.length - (j + 1) + 1)
       case measure => have := Hm.out; omega
       case rel => exact ⟨j + 1, by omega, by omega, by go_num, by rw [Hst.out]; exact ho, hbr⟩
   ·as_aux_lemma =>
     have hX : X = 118 := hX
     subst hX
     clear c0 c1 c2 c3 c4 c5 c6 c7 c8 c9 c10 c11 c12 c13 c15
     have hel := encVec_len8 n.vec hfair.vec
     have hp := P3.out.below Hbr.out (Nat.le_refl _)
     go_wp2_with (fail)
     refine (vec02_any wr _ n.vec _ hp (by have := hfair.vec; omega)).mono ?_
     rintro e w5 ⟨v5, rfl, hv5, hb5⟩
     have ho5 : OwnB w5 _ _ _ := Own.below ho hb5 (Nat.le_refl _)
     have hB5 := below_on Hbr.out hb5 Hbr.out.size
     go_wp2_with (first | ((with_reducible apply ugZ); rfl) | ((with_reducible (first | apply len_B | apply len_BB | apply len_N | apply len_V | apply len_VV | apply len_P | apply len_O | apply len_H)); assumption) | ((with_reducible refine stop_if kL ?_ ?_); rfl))
     refine Stop.go (app_B ho5 hv5.sl' (by omega) hB5.size fun vq5 wq5 g5 gg5 _ => ?_)
     have hG5 := hB5.grown gg5 hB5.size (fun k hk => (ho5.ge k hk).1)
     go_wp2_with (fail)
     go_roundg (LS.length - (j + 1) + 1)
     case measure => have := Hm.out; omega
     case rel => exact ⟨j + 1, by omega, by omega, by go_num, by rw [Hst.out]; exact g5, hG5⟩
   ·as_aux_lemma =>
     have hX : X = 104 := hX
     subst hX
     have hsz2 : n.hits.length ≤ 16 := by have := hfair.sizes; unfold SizesOk at this; omega
     have hcv : IntKind.u64.wrap (n.hits.length : Int) = ((n.hits.length : Nat) : Int) := u64_conv _ (by omega) (by omega)
     have hel := enc_len10 n.hits.length (by omega)
     go_wp2_with (fail)
     refine (rnum02_any n.hits.length wr (by omega)).mono ?_
     rintro e w5 ⟨v5, rfl, hv5, hb5⟩
     have ho5 : OwnB w5 _ _ _ := Own.below ho hb5 (Nat.le_refl _)
     have hB5 := below_on Hbr.out hb5 Hbr.out.size
     go_wp2_with (first | ((with_reducible apply ugZ); rfl) | ((with_reducible (first | apply len_B | apply len_BB | apply len_N | apply len_V | apply len_VV | apply len_P | apply len_O | apply len_H)); assumption) | ((with_reducible refine stop_if kL ?_ ?_); rfl))
     refine Stop.go (app_B ho5 hv5.sl' (by omega) hB5.size fun vq5 wq5 g5 gg5 _ => ?_)
     have hG5 := hB5.grown gg5 hB5.size (fun k hk => (ho5.ge k hk).1)
     clear c0 c1 c2 c3 c4 c5 c6 c7 c8 c9 c10 c11 c12 c13 c14 c15
     have c15 := (hb.below hG5 hb.lt).cells.2.2.2.2.2.2.2.2.2.2.2.2.2.2.2
     clear hcv ho5 hv5 hb5 gg5 hB5
     have hL1 : (L ++ enc n.hits.length).length ≤ 4106 := by rw [List.length_append]; omega
     obtain ⟨L1, hL1e⟩ : ∃ L1, L1 = L ++ enc n.hits.length := ⟨_, rfl⟩
     rw [← hL1e] at hL1 g5
     have hs2 : L1 ++ encHits n.hits = L ++ sec n 14 := by rw [hL1e, List.append_assoc]; rfl
     have Hs2 := Lib.hid hs2
     clear hs2 hL1e hel
     go_wp2_with (fail)
     go_loopg [4, 46] (n.hits.length + 1) (fun m x4 x46 wz => ∃ (jj : Nat), m = n.hits.length - jj + 1 ∧ jj ≤ n.hits.length ∧ x46 = .int .i64 jj ∧ OwnB wz w1.heap.size (L1 ++ encHits (n.hits.take jj)) x4 ∧ Below w1.heap.size w1 wz)
     case atStart => exact ⟨0, by omega, by omega, rfl, by simpa [encHits] using g5, hG5⟩
     case round =>
      clear g5 hG5 c15
      obtain ⟨jj, hm2, hjj, rfl, ho, hbr⟩ := hrel
      have Hm2 := Lib.hid hm2
      clear hm2
      have hpr := P4.out.below hbr (Nat.le_refl _)
      have hsz := hbr.size
      have hEl : (encHits (n.hits.take jj)).length ≤ 1760 := by
       have h1 := encHits_len (n.hits.take jj) (fun q hq => hfair.hits q (List.mem_of_mem_take hq))
       rw [List.length_take] at h1
       omega
      by_cases hlt2 : (jj : Int) < (n.hits.length : Int)
      ·go_wp2_with (first | ((with_reducible apply ugZ); rfl) | ((with_reducible (first | apply len_B | apply len_BB | apply len_N | apply len_V | apply len_VV | apply len_P | apply len_O | apply len_H)); assumption) | ((with_reducible refine stop_if kL ?_ ?_); rfl))
       refine Stop.go (idx_H hpr rfl (by omega) hlt2 fun bb oo y v hy hv k0 k1 k2 => ?_)
       rw [Int.toNat_natCast] at hy
       have hv8 := hfair.hits y (List.mem_of_getElem? hy)
       have hel := enc_len10 y.id.toNat y.id.toNat_lt
       have hel3 := enc_len10 y.dist.toNat y.dist.toNat_lt
       have hel2 := encVec_len8 y.vec hv8
       have hsn := flatMap_snoc (fun h : HitR => enc h.id.toNat ++ enc h.dist.toNat ++ encVec h.vec) n.hits jj y hy
       have Hsn := Lib.hid hsn
       clear hsn hy
       obtain ⟨va, vn, vc, rfl⟩ := Sl.shape hv
       go_upto_region 13 with (fail)
       have hal := (Below.refl wr.heap.size wr).alloc (Nat.le_refl _) (.cells #[.int .u64 (y.id.toNat : Int), .int .u64 (y.dist.toNat : Int), .slice va vn vc] 114)
       have hex := heap_alloc_new wr (.cells #[.int .u64 (y.id.toNat : Int), .int .u64 (y.dist.toNat : Int), .slice va vn vc] 114)
       clear k0 k1 k2
       generalize wr.alloc (.cells #[.int .u64 (y.id.toNat : Int), .int .u64 (y.dist.toNat : Int), .slice va vn vc] 114) = wa at *
       obtain ⟨bo, hbo⟩ : ∃ bo, bo = wr.heap.size := ⟨_, rfl⟩
       rw [← hbo] at hex ⊢
       have hal' := hal.drew
       have hoa := Own.below ho hal' (Nat.le_refl _)
       have hBa := below_on hbr hal' hbr.size
       have hva := (hv.below hal' (Nat.le_refl _))
       have hxa : Blk wa.drew bo 114 #[.int .u64 (y.id.toNat : Int), .int .u64 (y.dist.toNat : Int), .slice va vn vc] := hex
       have hne : ∀ k, u4.ownBlock = some k → k ≠ bo := fun k hk => by have := (ho.ge k hk).2; omega
       have hgb : w1.heap.size ≤ bo := by omega
       clear hal hal' hex ho hv hbo
       refine wp_region_D (fun wq => Blk wq bo 114 #[.int .u64 (y.id.toNat : Int), .int .u64 (y.dist.toNat : Int), .slice va vn vc]) 8 (fun _ => True) 14 rfl (by kernel_rfl) ?_
       generalize wa.drew = wd at *
       refine tkZ 0 50 (u4) rfl rfl (.inl ⟨by rfl, fun _ _ => by kernel_rfl⟩) (hxa) (.inr trivial) ?_
       simp only [Act.put, zqA, zqB, zqC]
       refine tkZ 1 51 (.pointer (some ⟨bo, 0, none⟩)) rfl rfl (.inl ⟨by rfl, fun _ _ => by kernel_rfl⟩) (hxa) (.inr trivial) ?_
       simp only [Act.put, zqA, zqB, zqC]
       refine tkZ 2 52 (.int .u64 (y.id.toNat : Int)) rfl rfl (blk_yields oneU64 (by rfl) rfl rfl fun _ h => h) (hxa) (.inr trivial) ?_
       simp only [Act.put, zqA, zqB, zqC]
       refine tkZ 5 55 (.pointer (some ⟨bo, 1, none⟩)) rfl rfl (.inl ⟨by rfl, fun _ _ => by kernel_rfl⟩) (hxa) (.inr trivial) ?_
       simp only [Act.put, zqA, zqB, zqC]
       refine tkZ 6 56 (.int .u64 (y.dist.toNat : Int)) rfl rfl (blk_yields oneU64 (by rfl) rfl rfl fun _ h => h) (hxa) (.inr trivial) ?_
       simp only [Act.put, zqA, zqB, zqC]
       refine tkZ 9 59 (.pointer (some ⟨bo, 2, none⟩)) rfl rfl (.inl ⟨by rfl, fun _ _ => by kernel_rfl⟩) (hxa) (.inr trivial) ?_
       simp only [Act.put, zqA, zqB, zqC]
       refine tkZ 10 60 (.slice va vn vc) rfl rfl (blk_yields oneV (by rfl) rfl rfl fun _ h => h) (hxa) (.inr trivial) ?_
       simp only [Act.put, zqA, zqB, zqC]
       have hxo := hne
       refine wpAnyD_step (i := 3) (by kernel_rfl) rfl fun K hK => ?_
       refine step_call (vs := #[.int .u64 (y.id.toNat : Int)]) (by rfl) (by go_simp) (by kernel_rfl) (rnum02_any y.id.toNat wd y.id.toNat_lt) ?_
       rintro e wa0 ⟨vn0, rfl, hvn0, hbn0⟩
       have hxA0 := hxa.below hbn0 hxa.lt
       have hoA0 := Own.below hoa hbn0 (Nat.le_refl _)
       have hBA0 := below_on hBa hbn0 hBa.size
       have hvA0 := hva.below hbn0 (Nat.le_refl _)
       refine ⟨_, rfl, hK _ _ hxA0 trivial ?_⟩
       clear hK K
       simp only [Act.put, zqA, zqB, zqC]
       refine wpAnyD_step (i := 4) (by kernel_rfl) rfl fun K hK => ?_
       refine step_app_B (B := w1.heap.size) (l := L1 ++ encHits (n.hits.take jj)) (m := enc y.id.toNat) hoA0 hvn0.sl' (by simp only [List.length_append]; omega) hBA0.size fun vm0 wb0 ho0 gg0 gn0 => ?_
       have gg0 : wa0.grownBy wb0 u4.ownBlock := gg0
       have hxB0 := hxA0.grown gg0 (fun e => hxo _ e rfl)
       have hBB0 := hBA0.grown gg0 hBA0.size (fun k hk => (hoA0.ge k hk).1)
       have hvB0 := hvA0.only (Only.of_grown gg0) (fun b hb _ e => by have := (hoA0.ge b e).1; have := HB.out.size; omega)
       refine hK _ _ hxB0 trivial ?_
       clear hK K
       simp only [Act.put, zqA, zqB, zqC]
       have gn0 : vm0.ownBlock = u4.ownBlock ∨ ∃ g, vm0.ownBlock = some g ∧ wa0.heap.size ≤ g := gn0
       have hxo : ∀ k, vm0.ownBlock = some k → k ≠ bo := fun k hk => by
        rcases gn0 with e | ⟨g, e, hg⟩
        ·rw [e] at hk; exact hxo k hk
        ·rw [e] at hk
         cases hk
         have := hxA0.lt
         omega
       refine wpAnyD_step (i := 7) (by kernel_rfl) rfl fun K hK => ?_
       refine step_call (vs := #[.int .u64 (y.dist.toNat : Int)]) (by rfl) (by go_simp) (by kernel_rfl) (rnum02_any y.dist.toNat wb0 y.dist.toNat_lt) ?_
       rintro e wa1 ⟨vn1, rfl, hvn1, hbn1⟩
       have hxA1 := hxB0.below hbn1 hxB0.lt
       have hoA1 := Own.below ho0 hbn1 (Nat.le_refl _)
       have hBA1 := below_on hBB0 hbn1 hBB0.size
       have hvA1 := hvB0.below hbn1 (Nat.le_refl _)
       refine ⟨_, rfl, hK _ _ hxA1 trivial ?_⟩
       clear hK K
       simp only [Act.put, zqA, zqB, zqC]
       refine wpAnyD_stepd (i := 8) (by kernel_rfl) rfl (by kernel_rfl) fun K hK => ?_
       refine step_app_B (B := w1.heap.size) (l := L1 ++ encHits (n.hits.take jj) ++ enc y.id.toNat) (m := enc y.dist.toNat) hoA1 hvn1.sl' (by simp only [List.length_append]; omega) hBA1.size fun vm1 wb1 ho1 gg1 gn1 => ?_
       have gg1 : wa1.grownBy wb1 vm0.ownBlock := gg1
       have hxB1 := hxA1.grown gg1 (fun e => hxo _ e rfl)
       have hBB1 := hBA1.grown gg1 hBA1.size (fun k hk => (hoA1.ge k hk).1)
       have hvB1 := hvA1.only (Only.of_grown gg1) (fun b hb _ e => by have := (hoA1.ge b e).1; have := HB.out.size; omega)
       refine hK _ _ hxB1 ?_
       clear hK K
       simp only [Act.put, zqA, zqB, zqC]
       have gn1 : vm1.ownBlock = vm0.ownBlock ∨ ∃ g, vm1.ownBlock = some g ∧ wa1.heap.size ≤ g := gn1
       have hxo : ∀ k, vm1.ownBlock = some k → k ≠ bo := fun k hk => by
        rcases gn1 with e | ⟨g, e, hg⟩
        ·rw [e] at hk; exact hxo k hk
        ·rw [e] at hk
         cases hk
         have := hxA1.lt
         omega
       refine wpAnyD_stepd (i := 11) (by kernel_rfl) rfl (by kernel_rfl) fun K hK => ?_
       refine step_call (vs := #[.slice va vn vc]) (by rfl) (by go_simp) (by kernel_rfl) (vec02_any wb1 _ y.vec _ hvB1 (by omega)) ?_
       rintro e wa2 ⟨vn2, rfl, hvn2, hbn2⟩
       have hxA2 := hxB1.below hbn2 hxB1.lt
       have hoA2 := Own.below ho1 hbn2 (Nat.le_refl _)
       have hBA2 := below_on hBB1 hbn2 hBB1.size
       have hvA2 := hvB1.below hbn2 (Nat.le_refl _)
       refine ⟨_, rfl, hK _ _ hxA2 ?_⟩
       clear hK K
       simp only [Act.put, zqA, zqB, zqC]
       refine wpAnyD_stepd (i := 12) (by kernel_rfl) rfl (by kernel_rfl) fun K hK => ?_
       refine step_app_B (B := w1.heap.size) (l := L1 ++ encHits (n.hits.take jj) ++ enc y.id.toNat ++ enc y.dist.toNat) (m := encVec y.vec) hoA2 hvn2.sl' (by simp only [List.length_append]; omega) hBA2.size fun vm2 wb2 ho2 gg2 gn2 => ?_
       have gg2 : wa2.grownBy wb2 vm1.ownBlock := gg2
       have hxB2 := hxA2.grown gg2 (fun e => hxo _ e rfl)
       have hBB2 := hBA2.grown gg2 hBA2.size (fun k hk => (hoA2.ge k hk).1)
       have hvB2 := hvA2.only (Only.of_grown gg2) (fun b hb _ e => by have := (hoA2.ge b e).1; have := HB.out.size; omega)
       refine hK _ _ hxB2 ?_
       clear hK K
       simp only [Act.put, zqA, zqB, zqC]
       refine tkZ 13 4 (vm2) rfl rfl (.inl ⟨by rfl, fun _ _ => by kernel_rfl⟩) (hxB2) (.inr trivial) ?_
       simp only [Act.put, zqA, zqB, zqC]
       refine wpAnyD_done (by kernel_rfl) ?_
       go_wp2_with (fail)
       go_roundg (n.hits.length - (jj + 1) + 1)
       case measure => have := Hm2.out; omega
       case rel => exact ⟨jj + 1, by omega, by omega, by go_num, by show OwnB _ _ (L1 ++ (n.hits.take (jj + 1)).flatMap (fun h : HitR => enc h.id.toNat ++ enc h.dist.toNat ++ encVec h.vec)) _; rw [Hsn.out]; simpa only [List.append_assoc, encHits] using ho2, hBB2⟩
      ·obtain rfl : jj = n.hits.length := by omega
       rw [List.take_of_length_le (Nat.le_refl _), Hs2.out] at ho
       go_wp2_with (fail)
       go_roundg (LS.length - (j + 1) + 1)
       case measure => have := Hm.out; omega
       case rel => exact ⟨j + 1, by omega, by omega, by go_num, by rw [Hst.out]; exact ho, hbr⟩
  ·have hltI : ¬ (j : Int) < (LS.length : Int) := by omega
   obtain rfl : j = LS.length := by omega
   have e := HF.out
   rw [List.take_of_length_le (by omega), ← e] at ho
   clear e
   go_wp2_with (fail)
   refine (rframe_any wr _ F _ ho.sl' hFl).mono ?_
   rintro e w5 ⟨v5, rfl, hv5, hb5⟩
   go_wp2_with (fail)
   go_ret2
   refine ⟨_, rfl, Own.rebase hv5 fun k hk => by have := (hv5.ge k hk).1; have := hbr.size; have := HB.out.size; omega, ?_⟩
   have h6 := below_on HB.out hbr HB.out.size
   exact below_on h6 hb5 h6.size
end Go.Proofs.YtjkffjngamagkaaDoor
