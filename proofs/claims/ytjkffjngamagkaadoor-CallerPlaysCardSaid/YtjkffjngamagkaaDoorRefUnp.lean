/- armillaryref12: Unpack. -/
import Derived.Test.YtjkffjngamagkaaDoorRefUnp1
import Derived.Test.YtjkffjngamagkaaDoorRefRight
import Derived.Deep.DeepCutAuto
namespace Go.Proofs.YtjkffjngamagkaaDoor
open Go Go.RowKit Go.Arm
set_option maxHeartbeats 16000000 in
set_option maxRecDepth 100000 in
theorem runpack_any (w : World) (S0 : Nat → Prop) (l : List UInt8) (p : Value) (hp : Sl w S0 l p) (hl : l.length ≤ 140737488355328) :
  Calls Tryd.prog 16 #[p] w fun e w' => ∃ V, e = .returned (.tuple #[V, .int .i64 (nunp rlim l).2]) ∧ Nt w' (fun b => w.heap.size ≤ b) (nunp rlim l).1 V ∧ Below w.heap.size w w' := by
 obtain ⟨R, hR⟩ : ∃ R, R = nunp rlim l := ⟨_, rfl⟩
 rw [← hR]
 unfold nunp opened at hR
 have hOl := opened_len l
 unfold opened at hOl
 obtain ⟨O, hO⟩ : ∃ O, O = next l := ⟨_, rfl⟩
 have hnx := fun w S p h => rnext_any w S l p h hl
 unfold NextPost at hnx
 rw [← hO] at hR hOl hnx
 have HR := Lib.hid hR
 clear hR hO
 go_enter Tryd.func16, Tryd.ntmps16
 go_wp2_with (first | ((with_reducible apply ugZ); rfl) | ((with_reducible (first | apply len_B | apply len_BB | apply len_N | apply len_V | apply len_VV | apply len_P | apply len_O | apply len_H)); assumption) | ((with_reducible refine stop_if kB ?_ ?_); rfl))
 refine Stop.go (blk_alloc (z := .agg zeroCells) (cs := zeroCells) (zero_run (by kernel_rfl)) rfl fun b2 w1 c2 hb2 ha1 => ?_)
 have hp1 := hp.below ha1 (Nat.le_refl _)
 clear hp
 have l2 := c2.lt
 go_wp2_with (fail)
 refine (hnx w1 _ p hp1).mono ?_
 rintro e w2 ⟨v1, v2, rfl, hv1, hv2, hb⟩
 have hB2 := below_on ha1 hb ha1.size
 have c22 := c2.below hb l2
 have s1 := ha1.size
 have s2 := hb.size
 clear hp1 c2 hb hnx
 obtain ⟨body, more, oe⟩ := O
 have hv1 : Sl w2 (fun b => w1.heap.size ≤ b) body v1 := hv1
 have hv2 : Sl w2 (fun b => w1.heap.size ≤ b) more v2 := hv2
 have hm := hv2.length_le
 unfold maxLen at hm
 by_cases hc : oe = 0
 ·subst hc
  obtain ⟨ma, mn, mc, rfl⟩ := Sl.shape hv2
  obtain rfl := Sl.len_is hv2
  clear hv2
  by_cases hmo : 0 < more.length
  ·have e : R = (zeroN, 4) := by rw [HR.out]; simp [hmo]
   subst e
   clear HR
   have hmoI : (more.length : Int) > 0 := by omega
   go_wp2_with (first | (with_reducible refine stop_store ?_))
   refine Stop.go (blk_store_all (cs' := zeroCells) c22 rfl rfl (by kernel_rfl) rfl (by simp [zeroCells, Value.oneCell']) fun w5 c5 o5 z5 => ?_)
   go_wp2_with (fail)
   refine bodyPost_ret (results_cell_row2 rfl _ w5 b2 _ _ _ _ rfl c5 Tryd.underlying36 rfl (by kernel_rfl)) rfl ?_
   exact ⟨_, rfl, zero_nt _ _, below_only hB2 o5 (fun k hk => by omega)⟩
  ·have hmoI : ¬ (more.length : Int) > 0 := by omega
   have e : R = unp rlim body := by rw [HR.out]; simp [hmo]
   have hOl : body.length ≤ 4096 := by simpa [hmo] using hOl
   have HR2 := Lib.hid e
   clear e hmo HR
   obtain ⟨ba, bn, bc, rfl⟩ := Sl.shape hv1
   obtain rfl := Sl.len_is hv1
   have hv1' := hv1.wide (S' := fun b => w1.heap.size ≤ b ∧ b < w2.heap.size) fun b h1 h2 => ⟨h1, h2⟩
   go_wp2_with (first | (with_reducible refine stop_box ?_))
   refine Stop.go (blk_box (cs := #[.slice ba body.length bc, .bool true]) rfl fun g w3 c3 hg ha3 => ?_)
   have hB3 := below_on hB2 ha3 hB2.size
   have c23 := c22.below ha3 (by omega)
   have s3 := ha3.size
   have l3 := c3.lt
   have hrd : RfA w3 g (fun b => w1.heap.size ≤ b ∧ b < w2.heap.size) (some body) := ⟨body, _, true, c3, hv1'.below ha3 (Nat.le_refl _), by omega, rfl, by omega⟩
   clear hB2 c22 ha3 c3 hv1 hv1' hmoI
   go_wp2_with (fail)
   refine (rsmall_any w3 g _ (some body) 255 255 hrd (by decide) rfl).mono ?_
   rintro e w4 ⟨rfl, hr4, ho4⟩
   obtain ⟨k, s0, hK⟩ : ∃ k s, anum 255 (some body) = (k, s) := ⟨_, _, rfl⟩
   have hk : k ≤ 255 := by have := anum_lt (most := 255) (some body); rw [hK] at this; exact this
   rw [hK] at hr4 ⊢
   have HK := Lib.hid hK
   clear hK hrd
   have hr4 : RfA w4 g (fun b => w1.heap.size ≤ b ∧ b < w2.heap.size) s0 := hr4
   have hB4 := below_only hB3 ho4 (fun b hb => by have : b = g := hb; omega)
   have c24 := c23.only ho4 (by omega)
   have s4 := ho4.size
   have hw := u8_wrap k hk
   clear hB3 c23 ho4
   go_wp2_with (first | (with_reducible refine stop_alloc ?_))
   refine Stop.go (blk_alloc (z := .agg zeroCells) (cs := zeroCells) (zero_run (by kernel_rfl)) rfl fun bN w5 c5 hbN ha5 => ?_)
   have l5 := c5.lt
   have hr5 := hr4.only (Only.of_below ha5) (by omega) (fun b hb _ => by omega)
   have c25 := c24.below ha5 (by omega)
   have hB5 := below_on hB4 ha5 hB4.size
   have s5 := ha5.size
   clear hr4 c24 hB4 ha5
   go_wp2_with (first | (with_reducible refine stop_store ?_))
   refine Stop.go (blk_store_all (cs' := #[.int .u8 (k : Int), .int .u64 0, .int .u64 0, .int .u64 0, .int .u64 0, .int .u64 0, .int .u64 0, .int .u64 0, .int .i64 0, .int .i64 0, .int .i64 0, .int .i64 0, .slice none 0 0, .slice none 0 0, .slice none 0 0, .slice none 0 0]) c5 rfl rfl (by kernel_rfl) rfl (by simp [Value.oneCell']) fun w6 c6 o6 z6 => ?_)
   have k0 : w6.cell? ⟨bN, 0, none⟩ = some (.int .u8 (k : Int)) := c6.cell 0
   rw [← kind_cells k hk] at c6
   have hs : RuS w w6 g bN b2 w6.heap.size w6.heap.size (fun b => w1.heap.size ≤ b ∧ b < w2.heap.size) (kindN k).parts (kindN k).ops (kindN k).vec (kindN k).hits (.slice none 0 0) (.slice none 0 0) (.slice none 0 0) (.slice none 0 0) (noteV (kindN k) (.slice none 0 0) (.slice none 0 0) (.slice none 0 0) (.slice none 0 0)).cells s0 :=
    ⟨hr5.only o6 (by omega) (fun b hb _ => by omega), Nat.le_refl _, Nat.le_refl _, c6, c25.only o6 (by omega), below_only hB5 o6 (fun b hb => by omega), Sl.nil _ _, Sl.nil _ _, Sl.nil _ _, Sl.nil _ _⟩
   have hB : RuB w g bN b2 w6.heap.size (fun b => w1.heap.size ≤ b ∧ b < w2.heap.size) := ⟨by omega, by omega, by omega, by omega, by omega, by omega, fun b hb => by omega⟩
   clear hr5 c25 hB5 c5 c6 o6 hOl
   obtain ⟨N, hN⟩ : ∃ N, N = w6.heap.size := ⟨_, rfl⟩
   rw [← hN] at hs hB
   obtain ⟨S, hS⟩ : ∃ S : Nat → Prop, S = (fun b => w1.heap.size ≤ b ∧ b < w2.heap.size) := ⟨_, rfl⟩
   rw [← hS] at hs hB
   clear hN hS z6 s5 s4 s3 s2 s1 l5 l3 l2 hbN hg hb2 ha1 hm hw
   go_wp2_with (fail)
   refine (rname_any w6 k (by omega)).mono ?_
   rintro e w7 ⟨rfl, rfl⟩
   obtain ⟨nm, hnm⟩ : ∃ nm : ByteArray, nm = ⟨(sortName k).toArray⟩ := ⟨_, rfl⟩
   rw [← hnm]
   clear hnm k0
   have hLl : (sortLets k).length ≤ 100 := by
    have : ∀ q : Fin 256, (sortLets q.val).length ≤ 100 := by decide +kernel
    exact this ⟨k, by omega⟩
   have hlet := lets_fields k
   have hin := fieldsOf_lt k
   have hnd := fieldsOf_nodup k
   obtain ⟨FS, hFSd⟩ : ∃ FS, FS = fieldsOf k := ⟨_, rfl⟩
   rw [← hFSd] at hlet hin hnd
   have HFD := Lib.hid hFSd
   clear hFSd
   generalize sortLets k = LS at *
   have hFS : LS.length = FS.length := by rw [hlet, List.length_map]
   have HL := Lib.hid hlet
   have HI := Lib.hid hin
   have HD := Lib.hid hnd
   clear hlet hin hnd
   go_wp2_with (fail)
   go_loopg [11] (LS.length + 1) (fun m x11 wr => ∃ (j : Nat) (n : NoteR) (vp vo vv vh : Value) (s : RS) (M : Nat), m = LS.length - j + 1 ∧ j ≤ LS.length ∧ x11 = .int .i64 j ∧ (n, s) = (FS.take j).foldl rstep (kindN k, s0) ∧ RuS w wr g bN b2 N M S n.parts n.ops n.vec n.hits vp vo vv vh (noteV n vp vo vv vh).cells s ∧ NI n ∧ (11 ∈ FS.drop j → vp = .slice none 0 0 ∧ n.parts = []) ∧ (12 ∈ FS.drop j → vo = .slice none 0 0 ∧ n.ops = []) ∧ (14 ∈ FS.drop j → vh = .slice none 0 0 ∧ n.hits = []))
   case atStart => exact ⟨0, kindN k, _, _, _, _, s0, N, by omega, by omega, rfl, rfl, hs, ⟨i64_0, i64_0, i64_0, i64_0⟩, fun _ => ⟨rfl, rfl⟩, fun _ => ⟨rfl, rfl⟩, fun _ => ⟨rfl, rfl⟩⟩
   case round =>
    clear hs
    obtain ⟨j, n, vp, vo, vv, vh, s, M, hm, hj, rfl, hfo, hs, hni, z11, z12, z14⟩ := hrel
    have Hm := Lib.hid hm
    have HFO := Lib.hid hfo
    have HNI := Lib.hid hni
    clear hm hfo hni
    by_cases hlt : j < LS.length
    ·have hltI : (j : Int) < (LS.length : Int) := by omega
     have hltB : j < (ByteArray.mk LS.toArray).size := hlt
     obtain ⟨i, hi⟩ : ∃ i, FS[j]? = some i := ⟨_, List.getElem?_eq_getElem (by omega)⟩
     have hi15 := (HI.out i (List.mem_of_getElem? hi)).1
     have hX : ((((ByteArray.mk LS.toArray)[j]'hltB).toNat : Nat) : Int) = ((letters.getD i 0).toNat : Int) := by
      have e1 : LS[j]? = some (letters.getD i 0) := by rw [HL.out, List.getElem?_map, hi]; rfl
      have e2 : LS[j]'hlt = letters.getD i 0 := by rw [List.getElem?_eq_getElem hlt] at e1; exact Option.some.inj e1
      show ((((LS[j]'hlt).toNat : Nat)) : Int) = _
      rw [e2]
     have hst := foldl_take rstep FS (kindN k, s0) j i hi
     rw [← HFO.out] at hst
     have Hst := Lib.hid hst
     have Hhere := Lib.hid (drop_here FS j i hi)
     have Hoff := Lib.hid (drop_off FS HD.out j i hi)
     have y11 := fun h => z11 (drop_sub FS j 11 h)
     have y12 := fun h => z12 (drop_sub FS j 12 h)
     have y14 := fun h => z14 (drop_sub FS j 14 h)
     have Y11 := Lib.hid y11
     have Y12 := Lib.hid y12
     have Y14 := Lib.hid y14
     have Z11 := Lib.hid z11
     have Z12 := Lib.hid z12
     have Z14 := Lib.hid z14
     clear hst hi y11 y12 y14 z11 z12 z14
     go_upto_region 17 with (fail)
     generalize ((((ByteArray.mk LS.toArray)[j]'hltB).toNat : Nat) : Int) = X at *
     rcases (show i = 0 ∨ i = 1 ∨ i = 2 ∨ i = 3 ∨ i = 4 ∨ i = 5 ∨ i = 6 ∨ i = 7 ∨ i = 8 ∨ i = 9 ∨ i = 10 ∨ i = 11 ∨ i = 12 ∨ i = 13 ∨ i = 14 by omega) with rfl | rfl | rfl | rfl | rfl | rfl | rfl | rfl | rfl | rfl | rfl | rfl | rfl | rfl | rfl
     ·as_aux_lemma =>
       have hX : X = 116 := hX
       subst hX
       have hst := Hst.out
       obtain ⟨x, s', hA⟩ : ∃ x s', anum 18446744073709551615 s = (x, s') := ⟨_, _, rfl⟩
       have hx : x ≤ 18446744073709551615 := by have := anum_lt (most := 18446744073709551615) s; rw [hA] at this; exact this
       have hr : rstep (n, s) 0 = (setNum n 0 x, s') := by
        rw [rstep, if_pos (by decide)]
        show (setNum n 0 (anum 18446744073709551615 s).1, (anum 18446744073709551615 s).2) = _
        rw [hA]
       rw [hr] at hst
       have Hst2 := Lib.hid hst
       clear hst hr
       have hc := rtake_any wr g S s hs.rd
       rw [show aU64 = 18446744073709551615 from rfl, hA] at hc
       clear hA
       go_wp2_with (fail)
       refine hc.mono ?_
       rintro e w5 ⟨rfl, hr5, ho5⟩
       have hs5 := hs.call1 hB hr5 ho5
       clear hc hs hr5 ho5
       go_wp2_with (first | (with_reducible refine stop_store ?_))
       refine Stop.go (blk_store (.int .u64 (x : Int)) oneU64 hs5.cN rfl rfl rfl rfl (by show 1 < 16; decide) fun w6 c6 o6 z6 => ?_)
       rw [set_num0 n x (by omega)] at c6
       have hs6 := hs5.set hB c6 o6
       go_wp2_with (fail)
       go_roundg (LS.length - (j + 1) + 1)
       case measure => have := Hm.out; omega
       case rel => exact ⟨j + 1, setNum n 0 x, vp, vo, vv, vh, s', M, by omega, by omega, by go_num, Hst2.out.symm, hs6, HNI.out, Y11.out, Y12.out, Y14.out⟩
     ·as_aux_lemma =>
       have hX : X = 98 := hX
       subst hX
       have hst := Hst.out
       obtain ⟨x, s', hA⟩ : ∃ x s', anum 18446744073709551615 s = (x, s') := ⟨_, _, rfl⟩
       have hx : x ≤ 18446744073709551615 := by have := anum_lt (most := 18446744073709551615) s; rw [hA] at this; exact this
       have hr : rstep (n, s) 1 = (setNum n 1 x, s') := by
        rw [rstep, if_pos (by decide)]
        show (setNum n 1 (anum 18446744073709551615 s).1, (anum 18446744073709551615 s).2) = _
        rw [hA]
       rw [hr] at hst
       have Hst2 := Lib.hid hst
       clear hst hr
       have hc := rtake_any wr g S s hs.rd
       rw [show aU64 = 18446744073709551615 from rfl, hA] at hc
       clear hA
       go_wp2_with (fail)
       refine hc.mono ?_
       rintro e w5 ⟨rfl, hr5, ho5⟩
       have hs5 := hs.call1 hB hr5 ho5
       clear hc hs hr5 ho5
       go_wp2_with (first | (with_reducible refine stop_store ?_))
       refine Stop.go (blk_store (.int .u64 (x : Int)) oneU64 hs5.cN rfl rfl rfl rfl (by show 2 < 16; decide) fun w6 c6 o6 z6 => ?_)
       rw [set_num1 n x (by omega)] at c6
       have hs6 := hs5.set hB c6 o6
       go_wp2_with (fail)
       go_roundg (LS.length - (j + 1) + 1)
       case measure => have := Hm.out; omega
       case rel => exact ⟨j + 1, setNum n 1 x, vp, vo, vv, vh, s', M, by omega, by omega, by go_num, Hst2.out.symm, hs6, HNI.out, Y11.out, Y12.out, Y14.out⟩
     ·as_aux_lemma =>
       have hX : X = 115 := hX
       subst hX
       have hst := Hst.out
       obtain ⟨x, s', hA⟩ : ∃ x s', anum 18446744073709551615 s = (x, s') := ⟨_, _, rfl⟩
       have hx : x ≤ 18446744073709551615 := by have := anum_lt (most := 18446744073709551615) s; rw [hA] at this; exact this
       have hr : rstep (n, s) 2 = (setNum n 2 x, s') := by
        rw [rstep, if_pos (by decide)]
        show (setNum n 2 (anum 18446744073709551615 s).1, (anum 18446744073709551615 s).2) = _
        rw [hA]
       rw [hr] at hst
       have Hst2 := Lib.hid hst
       clear hst hr
       have hc := rtake_any wr g S s hs.rd
       rw [show aU64 = 18446744073709551615 from rfl, hA] at hc
       clear hA
       go_wp2_with (fail)
       refine hc.mono ?_
       rintro e w5 ⟨rfl, hr5, ho5⟩
       have hs5 := hs.call1 hB hr5 ho5
       clear hc hs hr5 ho5
       go_wp2_with (first | (with_reducible refine stop_store ?_))
       refine Stop.go (blk_store (.int .u64 (x : Int)) oneU64 hs5.cN rfl rfl rfl rfl (by show 3 < 16; decide) fun w6 c6 o6 z6 => ?_)
       rw [set_num2 n x (by omega)] at c6
       have hs6 := hs5.set hB c6 o6
       go_wp2_with (fail)
       go_roundg (LS.length - (j + 1) + 1)
       case measure => have := Hm.out; omega
       case rel => exact ⟨j + 1, setNum n 2 x, vp, vo, vv, vh, s', M, by omega, by omega, by go_num, Hst2.out.symm, hs6, HNI.out, Y11.out, Y12.out, Y14.out⟩
     ·as_aux_lemma =>
       have hX : X = 97 := hX
       subst hX
       have hst := Hst.out
       obtain ⟨x, s', hA⟩ : ∃ x s', anum 18446744073709551615 s = (x, s') := ⟨_, _, rfl⟩
       have hx : x ≤ 18446744073709551615 := by have := anum_lt (most := 18446744073709551615) s; rw [hA] at this; exact this
       have hr : rstep (n, s) 3 = (setNum n 3 x, s') := by
        rw [rstep, if_pos (by decide)]
        show (setNum n 3 (anum 18446744073709551615 s).1, (anum 18446744073709551615 s).2) = _
        rw [hA]
       rw [hr] at hst
       have Hst2 := Lib.hid hst
       clear hst hr
       have hc := rtake_any wr g S s hs.rd
       rw [show aU64 = 18446744073709551615 from rfl, hA] at hc
       clear hA
       go_wp2_with (fail)
       refine hc.mono ?_
       rintro e w5 ⟨rfl, hr5, ho5⟩
       have hs5 := hs.call1 hB hr5 ho5
       clear hc hs hr5 ho5
       go_wp2_with (first | (with_reducible refine stop_store ?_))
       refine Stop.go (blk_store (.int .u64 (x : Int)) oneU64 hs5.cN rfl rfl rfl rfl (by show 4 < 16; decide) fun w6 c6 o6 z6 => ?_)
       rw [set_num3 n x (by omega)] at c6
       have hs6 := hs5.set hB c6 o6
       go_wp2_with (fail)
       go_roundg (LS.length - (j + 1) + 1)
       case measure => have := Hm.out; omega
       case rel => exact ⟨j + 1, setNum n 3 x, vp, vo, vv, vh, s', M, by omega, by omega, by go_num, Hst2.out.symm, hs6, HNI.out, Y11.out, Y12.out, Y14.out⟩
     ·as_aux_lemma =>
       have hX : X = 109 := hX
       subst hX
       have hst := Hst.out
       obtain ⟨x, s', hA⟩ : ∃ x s', anum 18446744073709551615 s = (x, s') := ⟨_, _, rfl⟩
       have hx : x ≤ 18446744073709551615 := by have := anum_lt (most := 18446744073709551615) s; rw [hA] at this; exact this
       have hr : rstep (n, s) 4 = (setNum n 4 x, s') := by
        rw [rstep, if_pos (by decide)]
        show (setNum n 4 (anum 18446744073709551615 s).1, (anum 18446744073709551615 s).2) = _
        rw [hA]
       rw [hr] at hst
       have Hst2 := Lib.hid hst
       clear hst hr
       have hc := rtake_any wr g S s hs.rd
       rw [show aU64 = 18446744073709551615 from rfl, hA] at hc
       clear hA
       go_wp2_with (fail)
       refine hc.mono ?_
       rintro e w5 ⟨rfl, hr5, ho5⟩
       have hs5 := hs.call1 hB hr5 ho5
       clear hc hs hr5 ho5
       go_wp2_with (first | (with_reducible refine stop_store ?_))
       refine Stop.go (blk_store (.int .u64 (x : Int)) oneU64 hs5.cN rfl rfl rfl rfl (by show 5 < 16; decide) fun w6 c6 o6 z6 => ?_)
       rw [set_num4 n x (by omega)] at c6
       have hs6 := hs5.set hB c6 o6
       go_wp2_with (fail)
       go_roundg (LS.length - (j + 1) + 1)
       case measure => have := Hm.out; omega
       case rel => exact ⟨j + 1, setNum n 4 x, vp, vo, vv, vh, s', M, by omega, by omega, by go_num, Hst2.out.symm, hs6, HNI.out, Y11.out, Y12.out, Y14.out⟩
     ·as_aux_lemma =>
       have hX : X = 113 := hX
       subst hX
       have hst := Hst.out
       obtain ⟨x, s', hA⟩ : ∃ x s', anum 18446744073709551615 s = (x, s') := ⟨_, _, rfl⟩
       have hx : x ≤ 18446744073709551615 := by have := anum_lt (most := 18446744073709551615) s; rw [hA] at this; exact this
       have hr : rstep (n, s) 5 = (setNum n 5 x, s') := by
        rw [rstep, if_pos (by decide)]
        show (setNum n 5 (anum 18446744073709551615 s).1, (anum 18446744073709551615 s).2) = _
        rw [hA]
       rw [hr] at hst
       have Hst2 := Lib.hid hst
       clear hst hr
       have hc := rtake_any wr g S s hs.rd
       rw [show aU64 = 18446744073709551615 from rfl, hA] at hc
       clear hA
       go_wp2_with (fail)
       refine hc.mono ?_
       rintro e w5 ⟨rfl, hr5, ho5⟩
       have hs5 := hs.call1 hB hr5 ho5
       clear hc hs hr5 ho5
       go_wp2_with (first | (with_reducible refine stop_store ?_))
       refine Stop.go (blk_store (.int .u64 (x : Int)) oneU64 hs5.cN rfl rfl rfl rfl (by show 6 < 16; decide) fun w6 c6 o6 z6 => ?_)
       rw [set_num5 n x (by omega)] at c6
       have hs6 := hs5.set hB c6 o6
       go_wp2_with (fail)
       go_roundg (LS.length - (j + 1) + 1)
       case measure => have := Hm.out; omega
       case rel => exact ⟨j + 1, setNum n 5 x, vp, vo, vv, vh, s', M, by omega, by omega, by go_num, Hst2.out.symm, hs6, HNI.out, Y11.out, Y12.out, Y14.out⟩
     ·as_aux_lemma =>
       have hX : X = 105 := hX
       subst hX
       have hst := Hst.out
       obtain ⟨x, s', hA⟩ : ∃ x s', anum 18446744073709551615 s = (x, s') := ⟨_, _, rfl⟩
       have hx : x ≤ 18446744073709551615 := by have := anum_lt (most := 18446744073709551615) s; rw [hA] at this; exact this
       have hr : rstep (n, s) 6 = (setNum n 6 x, s') := by
        rw [rstep, if_pos (by decide)]
        show (setNum n 6 (anum 18446744073709551615 s).1, (anum 18446744073709551615 s).2) = _
        rw [hA]
       rw [hr] at hst
       have Hst2 := Lib.hid hst
       clear hst hr
       have hc := rtake_any wr g S s hs.rd
       rw [show aU64 = 18446744073709551615 from rfl, hA] at hc
       clear hA
       go_wp2_with (fail)
       refine hc.mono ?_
       rintro e w5 ⟨rfl, hr5, ho5⟩
       have hs5 := hs.call1 hB hr5 ho5
       clear hc hs hr5 ho5
       go_wp2_with (first | (with_reducible refine stop_store ?_))
       refine Stop.go (blk_store (.int .u64 (x : Int)) oneU64 hs5.cN rfl rfl rfl rfl (by show 7 < 16; decide) fun w6 c6 o6 z6 => ?_)
       rw [set_num6 n x (by omega)] at c6
       have hs6 := hs5.set hB c6 o6
       go_wp2_with (fail)
       go_roundg (LS.length - (j + 1) + 1)
       case measure => have := Hm.out; omega
       case rel => exact ⟨j + 1, setNum n 6 x, vp, vo, vv, vh, s', M, by omega, by omega, by go_num, Hst2.out.symm, hs6, HNI.out, Y11.out, Y12.out, Y14.out⟩
     ·as_aux_lemma =>
       have hX : X = 107 := hX
       subst hX
       have hst := Hst.out
       obtain ⟨x, s', hA⟩ : ∃ x s', anum 16 s = (x, s') := ⟨_, _, rfl⟩
       have hx : x ≤ 16 := by have := anum_lt (most := 16) s; rw [hA] at this; exact this
       have hr : rstep (n, s) 7 = (setNum n 7 x, s') := by
        rw [rstep, if_pos (by decide)]
        show (setNum n 7 (anum 16 s).1, (anum 16 s).2) = _
        rw [hA]
       rw [hr] at hst
       have Hst2 := Lib.hid hst
       clear hst hr
       have hc := rsmall_any wr g S s 16 16 hs.rd (by decide) rfl
       rw [hA] at hc
       clear hA
       go_wp2_with (fail)
       refine hc.mono ?_
       rintro e w5 ⟨rfl, hr5, ho5⟩
       have hs5 := hs.call1 hB hr5 ho5
       clear hc hs hr5 ho5
       go_wp2_with (first | (with_reducible refine stop_store ?_))
       refine Stop.go (blk_store (.int .i64 (x : Int)) oneInt hs5.cN rfl rfl rfl rfl (by show 8 < 16; decide) fun w6 c6 o6 z6 => ?_)
       rw [set_num7 n x (by omega)] at c6
       have hs6 := hs5.set hB c6 o6
       have hxI : I64 (x : Int) := by unfold I64; omega
       go_wp2_with (fail)
       go_roundg (LS.length - (j + 1) + 1)
       case measure => have := Hm.out; omega
       case rel => exact ⟨j + 1, setNum n 7 x, vp, vo, vv, vh, s', M, by omega, by omega, by go_num, Hst2.out.symm, hs6, ⟨hxI, HNI.out.2.1, HNI.out.2.2.1, HNI.out.2.2.2⟩, Y11.out, Y12.out, Y14.out⟩
     ·as_aux_lemma =>
       have hX : X = 101 := hX
       subst hX
       have hst := Hst.out
       obtain ⟨x, s', hA⟩ : ∃ x s', anum 256 s = (x, s') := ⟨_, _, rfl⟩
       have hx : x ≤ 256 := by have := anum_lt (most := 256) s; rw [hA] at this; exact this
       have hr : rstep (n, s) 8 = (setNum n 8 x, s') := by
        rw [rstep, if_pos (by decide)]
        show (setNum n 8 (anum 256 s).1, (anum 256 s).2) = _
        rw [hA]
       rw [hr] at hst
       have Hst2 := Lib.hid hst
       clear hst hr
       have hc := rsmall_any wr g S s 256 256 hs.rd (by decide) rfl
       rw [hA] at hc
       clear hA
       go_wp2_with (fail)
       refine hc.mono ?_
       rintro e w5 ⟨rfl, hr5, ho5⟩
       have hs5 := hs.call1 hB hr5 ho5
       clear hc hs hr5 ho5
       go_wp2_with (first | (with_reducible refine stop_store ?_))
       refine Stop.go (blk_store (.int .i64 (x : Int)) oneInt hs5.cN rfl rfl rfl rfl (by show 9 < 16; decide) fun w6 c6 o6 z6 => ?_)
       rw [set_num8 n x (by omega)] at c6
       have hs6 := hs5.set hB c6 o6
       have hxI : I64 (x : Int) := by unfold I64; omega
       go_wp2_with (fail)
       go_roundg (LS.length - (j + 1) + 1)
       case measure => have := Hm.out; omega
       case rel => exact ⟨j + 1, setNum n 8 x, vp, vo, vv, vh, s', M, by omega, by omega, by go_num, Hst2.out.symm, hs6, ⟨HNI.out.1, hxI, HNI.out.2.2.1, HNI.out.2.2.2⟩, Y11.out, Y12.out, Y14.out⟩
     ·as_aux_lemma =>
       have hX : X = 99 := hX
       subst hX
       have hst := Hst.out
       obtain ⟨x, s', hA⟩ : ∃ x s', anum 13 s = (x, s') := ⟨_, _, rfl⟩
       have hx : x ≤ 13 := by have := anum_lt (most := 13) s; rw [hA] at this; exact this
       have hr : rstep (n, s) 9 = (setNum n 9 x, s') := by
        rw [rstep, if_pos (by decide)]
        show (setNum n 9 (anum 13 s).1, (anum 13 s).2) = _
        rw [hA]
       rw [hr] at hst
       have Hst2 := Lib.hid hst
       clear hst hr
       have hc := rsmall_any wr g S s 13 13 hs.rd (by decide) rfl
       rw [hA] at hc
       clear hA
       go_wp2_with (fail)
       refine hc.mono ?_
       rintro e w5 ⟨rfl, hr5, ho5⟩
       have hs5 := hs.call1 hB hr5 ho5
       clear hc hs hr5 ho5
       go_wp2_with (first | (with_reducible refine stop_store ?_))
       refine Stop.go (blk_store (.int .i64 (x : Int)) oneErr hs5.cN rfl rfl rfl rfl (by show 10 < 16; decide) fun w6 c6 o6 z6 => ?_)
       rw [set_num9 n x (by omega)] at c6
       have hs6 := hs5.set hB c6 o6
       have hxI : I64 (x : Int) := by unfold I64; omega
       go_wp2_with (fail)
       go_roundg (LS.length - (j + 1) + 1)
       case measure => have := Hm.out; omega
       case rel => exact ⟨j + 1, setNum n 9 x, vp, vo, vv, vh, s', M, by omega, by omega, by go_num, Hst2.out.symm, hs6, ⟨HNI.out.1, HNI.out.2.1, hxI, HNI.out.2.2.2⟩, Y11.out, Y12.out, Y14.out⟩
     ·as_aux_lemma =>
       have hX : X = 119 := hX
       subst hX
       have hst := Hst.out
       obtain ⟨x, s', hA⟩ : ∃ x s', anum 15 s = (x, s') := ⟨_, _, rfl⟩
       have hx : x ≤ 15 := by have := anum_lt (most := 15) s; rw [hA] at this; exact this
       have hr : rstep (n, s) 10 = (setNum n 10 x, s') := by
        rw [rstep, if_pos (by decide)]
        show (setNum n 10 (anum 15 s).1, (anum 15 s).2) = _
        rw [hA]
       rw [hr] at hst
       have Hst2 := Lib.hid hst
       clear hst hr
       have hc := rsmall_any wr g S s 15 15 hs.rd (by decide) rfl
       rw [hA] at hc
       clear hA
       go_wp2_with (fail)
       refine hc.mono ?_
       rintro e w5 ⟨rfl, hr5, ho5⟩
       have hs5 := hs.call1 hB hr5 ho5
       clear hc hs hr5 ho5
       go_wp2_with (first | (with_reducible refine stop_store ?_))
       refine Stop.go (blk_store (.int .i64 (x : Int)) oneInt hs5.cN rfl rfl rfl rfl (by show 11 < 16; decide) fun w6 c6 o6 z6 => ?_)
       rw [set_num10 n x (by omega)] at c6
       have hs6 := hs5.set hB c6 o6
       have hxI : I64 (x : Int) := by unfold I64; omega
       go_wp2_with (fail)
       go_roundg (LS.length - (j + 1) + 1)
       case measure => have := Hm.out; omega
       case rel => exact ⟨j + 1, setNum n 10 x, vp, vo, vv, vh, s', M, by omega, by omega, by go_num, Hst2.out.symm, hs6, ⟨HNI.out.1, HNI.out.2.1, HNI.out.2.2.1, hxI⟩, Y11.out, Y12.out, Y14.out⟩
     ·as_aux_lemma =>
       have hX : X = 112 := hX
       subst hX
       have hst := Hst.out
       obtain ⟨rfl, hnil⟩ := Z11.out Hhere.out
       obtain ⟨c, t, hA⟩ : ∃ c t, anum 4 s = (c, t) := ⟨_, _, rfl⟩
       have hx : c ≤ 4 := by have := anum_lt (most := 4) s; rw [hA] at this; exact this
       have hr : rstep (n, s) 11 = ({ n with parts := (rep (apart rlim) c t).1 }, (rep (apart rlim) c t).2) := by
        rw [rstep, if_neg (by decide), if_pos (by decide)]
        simp only [hA, hnil, List.nil_append]
       rw [hr] at hst
       have Hst2 := Lib.hid hst
       clear hst hr
       have hc := rsmall_any wr g S s 4 4 hs.rd (by decide) rfl
       rw [hA] at hc
       clear hA
       go_wp2_with (fail)
       refine hc.mono ?_
       rintro e w5 ⟨rfl, hr5, ho5⟩
       have hr5 : RfA w5 g S t := hr5
       have hs5 := ((hs.call1 hB hr5 ho5).none 0).1 rfl
       clear hc hs hr5 ho5
       go_wp2_with (fail)
       go_loopg [124] (c + 1) (fun m x124 wr => ∃ (jj : Nat) (vP : Value) (LP : List Int) (sj : RS), m = c - jj + 1 ∧ jj ≤ c ∧ x124 = .int .i64 (jj : Int) ∧ (LP, sj) = rep (apart rlim) jj t ∧ RuS w wr g bN b2 N M S [] n.ops n.vec n.hits (.slice none 0 0) vo vv vh (noteV n (vP) vo vv vh).cells sj ∧ OwnG wr M 3 LP vP)
       case atStart => exact ⟨0, _, [], _, by omega, by omega, rfl, rfl, hs5, OwnG.nil _ _ _⟩
       case round =>
        clear hs5
        obtain ⟨jj, vP, LP, sj, hm2, hjj, rfl, hrep, hs, ho⟩ := hrel
        have Hm2 := Lib.hid hm2
        have Hrep := Lib.hid hrep
        clear hm2 hrep
        have hLl : LP.length = jj := by have := rep_len (apart rlim) jj t; rw [← Hrep.out] at this; exact this
        have HLl := Lib.hid hLl
        clear hLl
        by_cases hlt2 : (jj : Int) < (c : Int)
        ·as_aux_lemma =>
          go_upto_region 42 with (fail)
          have hd := (Below.refl wr.heap.size wr).drew
          have hs1 := hs.below hB hd hs.nw
          have ho1 := ho.below hd (Nat.le_refl _)
          have hge := hs.ge hB
          clear hs ho hd
          refine wp_region_D (fun _ => True) 7 (fun wq => Blk wq bN 36 (noteV n (vP) vo vv vh).cells) 8 rfl (by kernel_rfl) ?_
          generalize wr.drew = wd at *
          refine tkZ 0 126 (.pointer (some ⟨bN, 12, none⟩)) rfl rfl (.inl ⟨by rfl, fun _ _ => by kernel_rfl⟩) (trivial) (.inr hs1.cN) ?_
          simp only [Act.put, zqA, zqB, zqC]
          refine wpAnyD_take2 (i := 1) (dst := some 127) (v := vP) rfl rfl (by decide) (by kernel_rfl) (by kernel_rfl) (by kernel_rfl) rfl (by kernel_rfl) (by kernel_rfl) (fun _ _ _ h => h) (blk_yields oneP (by rfl) rfl rfl fun _ h => h.2) (trivial) (hs1.cN) ?_
          simp only [Act.put, zqA, zqB, zqC]
          refine tkZ 2 128 (.pointer (some ⟨g, 0, none⟩)) rfl rfl (.inl ⟨by rfl, fun _ _ => by kernel_rfl⟩) (trivial) (.inr hs1.cN) ?_
          simp only [Act.put, zqA, zqB, zqC]
          have hcA := rsmall_any wd g S sj 15 15 hs1.rd (by decide) rfl
          have hy := anum_lt (most := 15) sj
          have HR0 : rep (apart rlim) (jj + 1) t = (LP ++ [((((anum 15 sj).1 : Nat) : Int))], (anum 15 sj).2) := by
           rw [rep_snoc, ← Hrep.out]; rfl
          generalize (anum 15 sj).1 = y at *
          generalize (anum 15 sj).2 = s' at *
          have HREP := Lib.hid HR0
          clear HR0
          refine wpAnyD_step (i := 3) (by kernel_rfl) rfl fun K hK => ?_
          refine step_call (vs := #[.pointer (some ⟨g, 0, none⟩), .int .u64 15]) (by rfl) (by go_simp) (by kernel_rfl) (hcA) ?_
          rintro e w2 ⟨rfl, hr2, o2⟩
          have hs2 := hs1.call1 hB hr2 o2
          have ho2 := ho1.only o2 (fun b hb _ e => (hge b hb).1 e)
          clear hcA hr2
          refine ⟨_, rfl, hK _ _ trivial hs2.cN ?_⟩
          clear hK K
          simp only [Act.put, zqA, zqB, zqC]
          refine wpAnyD_step (i := 4) (by kernel_rfl) rfl fun K hK => ?_
          refine step_lit_P rfl (by unfold I64; omega) fun q w3 hq hb3 hl3 => ?_
          have hs3 := hs2.below hB hb3 hs2.nw
          have ho3 := ho2.below hb3 (Nat.le_refl _)
          refine hK _ _ trivial hs3.cN ?_
          clear hK K
          simp only [Act.put, zqA, zqB, zqC]
          refine wpAnyD_step (i := 5) (by kernel_rfl) rfl fun K hK => ?_
          refine step_app_P (B := M) (l := LP) (m := [(y : Int)]) ho3 hq (fun b hb _ => ⟨by have := hs2.nw; omega, fun e => by have := ho2.ge b e; omega⟩) (by have := HLl.out; simp; omega) hs3.nw fun v9 w4 ho9 g4 => ?_
          have g4 : w3.grownBy w4 vP.ownBlock := g4
          have hs4 := hs3.only hB (Only.of_grown g4) (fun b hb => (ho3.ge b hb).1)
          obtain ⟨va, vn, vc, rfl⟩ := Own.shape ho9
          refine hK _ _ trivial hs4.cN ?_
          clear hK K
          simp only [Act.put, zqA, zqB, zqC]
          refine tkZ 6 132 (.pointer (some ⟨bN, 12, none⟩)) rfl rfl (.inl ⟨by rfl, fun _ _ => by kernel_rfl⟩) (trivial) (.inr hs4.cN) ?_
          simp only [Act.put, zqA, zqB, zqC]
          refine wpAnyD_stepd (i := 7) (by kernel_rfl) rfl (by kernel_rfl) fun K hK => ?_
          refine step_blk_store (.slice va vn vc) oneP hs4.cN rfl rfl rfl rfl (by show 12 < 16; decide) fun w5 c5 o5 z5 => ?_
          rw [set_parts n] at c5
          have hs9 := hs4.set hB c5 o5
          have ho9 := ho9.only o5 (fun b hb _ e => (hge b hb).2 e)
          refine hK _ _ trivial ?_
          clear hK K
          simp only [Act.put]
          refine wpAnyD_done (by kernel_rfl) ?_
          clear hs1 hs2 hs3 hs4
          go_wp2_with (fail)
          go_roundg (c - (jj + 1) + 1)
          case measure => have := Hm2.out; omega
          case rel => exact ⟨jj + 1, _, _, _, by omega, by omega, by go_num, HREP.out.symm, hs9, ho9⟩
        ·obtain rfl : jj = c := by omega
         have hs6 := hs.grow (lp' := LP) (vp' := vP) (.inr ho.sl) (.inl ⟨rfl, rfl⟩) (.inl ⟨rfl, rfl⟩) (.inl ⟨rfl, rfl⟩)
         have hst := Hst2.out
         rw [← Hrep.out] at hst
         have Hst2 := Lib.hid hst
         clear hst hs ho
         go_wp2_with (fail)
         go_roundg (LS.length - (j + 1) + 1)
         case measure => have := Hm.out; omega
         case rel => exact ⟨j + 1, { n with parts := LP }, vP, vo, vv, vh, sj, wr.heap.size, by omega, by omega, by go_num, Hst2.out.symm, hs6, HNI.out, fun h => absurd h Hoff.out, Y12.out, Y14.out⟩
     ·as_aux_lemma =>
       have hX : X = 111 := hX
       subst hX
       have hst := Hst.out
       obtain ⟨rfl, hnil⟩ := Z12.out Hhere.out
       obtain ⟨c, t, hA⟩ : ∃ c t, anum 16 s = (c, t) := ⟨_, _, rfl⟩
       have hx : c ≤ 16 := by have := anum_lt (most := 16) s; rw [hA] at this; exact this
       have hr : rstep (n, s) 12 = ({ n with ops := (rep (aop rlim) c t).1 }, (rep (aop rlim) c t).2) := by
        rw [rstep, if_neg (by decide), if_neg (by decide), if_pos (by decide)]
        simp only [hA, hnil, List.nil_append]
       rw [hr] at hst
       have Hst2 := Lib.hid hst
       clear hst hr
       have hc := rsmall_any wr g S s 16 16 hs.rd (by decide) rfl
       rw [hA] at hc
       clear hA
       go_wp2_with (fail)
       refine hc.mono ?_
       rintro e w5 ⟨rfl, hr5, ho5⟩
       have hr5 : RfA w5 g S t := hr5
       have hs5 := ((hs.call1 hB hr5 ho5).none 1).2.1 rfl
       clear hc hs hr5 ho5
       go_wp2_with (fail)
       go_loopg [138] (c + 1) (fun m x138 wr => ∃ (jj : Nat) (vO : Value) (LO : List OpR) (sj : RS), m = c - jj + 1 ∧ jj ≤ c ∧ x138 = .int .i64 (jj : Int) ∧ (LO, sj) = rep (aop rlim) jj t ∧ RuS w wr g bN b2 N M S n.parts [] n.vec n.hits vp (.slice none 0 0) vv vh (noteV n vp (vO) vv vh).cells sj ∧ OwnG wr M 63 LO vO)
       case atStart => exact ⟨0, _, [], _, by omega, by omega, rfl, rfl, hs5, OwnG.nil _ _ _⟩
       case round =>
        clear hs5
        obtain ⟨jj, vO, LO, sj, hm2, hjj, rfl, hrep, hs, ho⟩ := hrel
        have Hm2 := Lib.hid hm2
        have Hrep := Lib.hid hrep
        clear hm2 hrep
        have hLl : LO.length = jj := by have := rep_len (aop rlim) jj t; rw [← Hrep.out] at this; exact this
        have HLl := Lib.hid hLl
        clear hLl
        by_cases hlt2 : (jj : Int) < (c : Int)
        ·as_aux_lemma =>
          go_upto_region 47 with (fail)
          have hd := (Below.refl wr.heap.size wr).drew
          have hs1 := hs.below hB hd hs.nw
          have ho1 := ho.below hd (Nat.le_refl _)
          have hge := hs.ge hB
          clear hs ho hd
          refine wp_region_D (fun _ => True) 10 (fun wq => Blk wq bN 36 (noteV n vp (vO) vv vh).cells) 11 rfl (by kernel_rfl) ?_
          generalize wr.drew = wd at *
          refine tkZ 0 140 (.pointer (some ⟨bN, 13, none⟩)) rfl rfl (.inl ⟨by rfl, fun _ _ => by kernel_rfl⟩) (trivial) (.inr hs1.cN) ?_
          simp only [Act.put, zqA, zqB, zqC]
          refine wpAnyD_take2 (i := 1) (dst := some 141) (v := vO) rfl rfl (by decide) (by kernel_rfl) (by kernel_rfl) (by kernel_rfl) rfl (by kernel_rfl) (by kernel_rfl) (fun _ _ _ h => h) (blk_yields oneO (by rfl) rfl rfl fun _ h => h.2) (trivial) (hs1.cN) ?_
          simp only [Act.put, zqA, zqB, zqC]
          refine tkZ 2 142 (.pointer (some ⟨g, 0, none⟩)) rfl rfl (.inl ⟨by rfl, fun _ _ => by kernel_rfl⟩) (trivial) (.inr hs1.cN) ?_
          simp only [Act.put, zqA, zqB, zqC]
          refine tkZ 4 144 (.pointer (some ⟨g, 0, none⟩)) rfl rfl (.inl ⟨by rfl, fun _ _ => by kernel_rfl⟩) (trivial) (.inr hs1.cN) ?_
          simp only [Act.put, zqA, zqB, zqC]
          have hcA := rtake_any wd g S sj hs1.rd
          rw [show aU64 = 18446744073709551615 from rfl] at hcA
          have hy := anum_lt (most := 18446744073709551615) sj
          have HR0 : rep (aop rlim) (jj + 1) t = (LO ++ [⟨UInt64.ofNat (anum 18446744073709551615 sj).1, (avec (anum 18446744073709551615 sj).2).1⟩], (avec (anum 18446744073709551615 sj).2).2) := by
           rw [rep_snoc, ← Hrep.out]; rfl
          obtain ⟨y, s', hys⟩ : ∃ y t, anum 18446744073709551615 sj = (y, t) := ⟨_, _, rfl⟩
          rw [hys] at HR0 hy hcA
          have hy : y ≤ 18446744073709551615 := hy
          simp only at HR0
          have ey : (UInt64.ofNat y).toNat = y := UInt64.toNat_ofNat_of_lt' (by show y < 18446744073709551616; omega)
          obtain ⟨vv1, sn, hav⟩ : ∃ v t, avec s' = (v, t) := ⟨_, _, rfl⟩
          rw [hav] at HR0
          simp only at HR0
          have HREP := Lib.hid HR0
          clear HR0 hys
          refine wpAnyD_step (i := 3) (by kernel_rfl) rfl fun K hK => ?_
          refine step_call (vs := #[.pointer (some ⟨g, 0, none⟩)]) (by rfl) (by go_simp) (by kernel_rfl) (hcA) ?_
          rintro e w2 ⟨rfl, hr2, o2⟩
          have hr2 : RfA w2 g S s' := hr2
          have hs2 := hs1.call1 hB hr2 o2
          have ho2 := ho1.only o2 (fun b hb _ e => (hge b hb).1 e)
          have hge2 : wd.heap.size ≤ w2.heap.size := o2.size
          clear hcA hr2 o2
          refine ⟨_, rfl, hK _ _ trivial hs2.cN ?_⟩
          clear hK K
          simp only [Act.put, zqA, zqB, zqC]
          have hcV := rvector_any w2 g S s' hs2.rd
          rw [hav] at hcV
          clear hav
          refine wpAnyD_step (i := 5) (by kernel_rfl) rfl fun K hK => ?_
          refine step_call (vs := #[.pointer (some ⟨g, 0, none⟩)]) (by rfl) (by go_simp) (by kernel_rfl) (hcV) ?_
          rintro e w3 ⟨uv, rfl, hv3, hr3, o3⟩
          have hr3 : RfA w3 g S sn := hr3
          have hs3 := hs2.callV hB hr3 o3
          have ho3 := ho2.only o3 (fun b hb hlt e => by
           rcases e with e | e
           ·exact (hge b hb).1 e
           ·omega)
          have hge3 : w2.heap.size ≤ w3.heap.size := o3.size
          obtain ⟨ua, un, uc, rfl⟩ := Own.shape hv3
          have hu3 := hv3.sl (S' := fun b => w2.heap.size ≤ b ∧ b < w3.heap.size) (fun _ h _ => h.elim) (fun b hb => hv3.ge b hb)
          have hnwm := hs2.nw
          clear hcV hr3 o3 hv3 hs2 ho2
          refine ⟨_, rfl, hK _ _ trivial hs3.cN ?_⟩
          clear hK K
          simp only [Act.put, zqA, zqB, zqC]
          refine tkZ 6 146 (.agg #[.int .u64 (y : Int), .slice ua un uc]) rfl rfl (.inl ⟨by rfl, fun _ _ => by go_simp⟩) (trivial) (.inr hs3.cN) ?_
          simp only [Act.put, zqA, zqB, zqC]
          refine wpAnyD_step (i := 7) (by kernel_rfl) rfl fun K hK => ?_
          refine step_lit_O (i := UInt64.ofNat y) (v := vv1) (u := .slice ua un uc) (S := fun b => w2.heap.size ≤ b ∧ b < w3.heap.size) (by rw [ey]; rfl) hu3 fun q w4 hq hb4 hl4 => ?_
          have hs4 := hs3.below hB hb4 hs3.nw
          have ho4 := ho3.below hb4 (Nat.le_refl _)
          refine hK _ _ trivial hs4.cN ?_
          clear hK K
          simp only [Act.put, zqA, zqB, zqC]
          refine wpAnyD_step (i := 8) (by kernel_rfl) rfl fun K hK => ?_
          refine step_app_OpR (B := M) (l := LO) (m := [(⟨UInt64.ofNat y, vv1⟩ : OpR)]) ho4 hq (fun b hb _ => ⟨by have := hs3.nw; omega, fun e => by have := ho1.ge b e; omega⟩) (by have := HLl.out; simp; omega) hs4.nw fun v9 w6 ho9 g6 => ?_
          have g6 : w4.grownBy w6 vO.ownBlock := g6
          have hs4 := hs4.only hB (Only.of_grown g6) (fun b hb => (ho4.ge b hb).1)
          obtain ⟨va, vn, vc, rfl⟩ := Own.shape ho9
          refine hK _ _ trivial hs4.cN ?_
          clear hK K
          simp only [Act.put, zqA, zqB, zqC]
          refine tkZ 9 149 (.pointer (some ⟨bN, 13, none⟩)) rfl rfl (.inl ⟨by rfl, fun _ _ => by kernel_rfl⟩) (trivial) (.inr hs4.cN) ?_
          simp only [Act.put, zqA, zqB, zqC]
          refine wpAnyD_stepd (i := 10) (by kernel_rfl) rfl (by kernel_rfl) fun K hK => ?_
          refine step_blk_store (.slice va vn vc) oneO hs4.cN rfl rfl rfl rfl (by show 13 < 16; decide) fun w5 c5 o5 z5 => ?_
          rw [set_ops n] at c5
          have hs9 := hs4.set hB c5 o5
          have ho9 := ho9.only o5 (fun b hb _ e => (hge b hb).2 e)
          refine hK _ _ trivial ?_
          clear hK K
          simp only [Act.put]
          refine wpAnyD_done (by kernel_rfl) ?_
          clear hs1 hs3
          go_wp2_with (fail)
          go_roundg (c - (jj + 1) + 1)
          case measure => have := Hm2.out; omega
          case rel => exact ⟨jj + 1, _, _, _, by omega, by omega, by go_num, HREP.out.symm, hs9, ho9⟩
        ·obtain rfl : jj = c := by omega
         have hs6 := hs.grow (lo' := LO) (vo' := vO) (.inl ⟨rfl, rfl⟩) (.inr ho.sl) (.inl ⟨rfl, rfl⟩) (.inl ⟨rfl, rfl⟩)
         have hst := Hst2.out
         rw [← Hrep.out] at hst
         have Hst2 := Lib.hid hst
         clear hst hs ho
         go_wp2_with (fail)
         go_roundg (LS.length - (j + 1) + 1)
         case measure => have := Hm.out; omega
         case rel => exact ⟨j + 1, { n with ops := LO }, vp, vO, vv, vh, sj, wr.heap.size, by omega, by omega, by go_num, Hst2.out.symm, hs6, HNI.out, Y11.out, fun h => absurd h Hoff.out, Y14.out⟩
     ·as_aux_lemma =>
       have hX : X = 118 := hX
       subst hX
       have hst := Hst.out
       obtain ⟨x, s', hA⟩ : ∃ x s', avec s = (x, s') := ⟨_, _, rfl⟩
       have hr : rstep (n, s) 13 = ({ n with vec := x }, s') := by
        rw [rstep, if_neg (by decide), if_neg (by decide), if_neg (by decide), if_pos (by decide)]
        show ({ n with vec := (avec s).1 }, (avec s).2) = _
        rw [hA]
       rw [hr] at hst
       have Hst2 := Lib.hid hst
       clear hst hr
       have hc := rvector_any wr g S s hs.rd
       rw [hA] at hc
       clear hA
       go_wp2_with (fail)
       refine hc.mono ?_
       rintro e w5 ⟨u, rfl, hu, hr5, ho5⟩
       have hs5 := hs.callV hB hr5 ho5
       have hnw := hs.nw
       obtain ⟨ua, un, uc, rfl⟩ := Own.shape hu
       have hu5 := hu.sl (S' := fun b => wr.heap.size ≤ b ∧ b < w5.heap.size) (fun _ h _ => h.elim) (fun b hb => hu.ge b hb)
       have hge := hs.ge hB
       clear hc hs hr5 ho5 hu
       go_wp2_with (first | (with_reducible refine stop_store ?_))
       refine Stop.go (blk_store (.slice ua un uc) oneV hs5.cN rfl rfl rfl rfl (by show 14 < 16; decide) fun w6 c6 o6 z6 => ?_)
       rw [set_vec n] at c6
       have hu6 := hu5.only o6 (fun b hb _ e => (hge b (by omega)).2 e)
       have hs6 := (hs5.set hB c6 o6).grow (lv' := x) (vv' := .slice ua un uc) (.inl ⟨rfl, rfl⟩) (.inl ⟨rfl, rfl⟩) (.inr (hu6.wide fun b hb _ => ⟨by omega, by omega⟩)) (.inl ⟨rfl, rfl⟩)
       go_wp2_with (fail)
       go_roundg (LS.length - (j + 1) + 1)
       case measure => have := Hm.out; omega
       case rel => exact ⟨j + 1, { n with vec := x }, vp, vo, .slice ua un uc, vh, s', w6.heap.size, by omega, by omega, by go_num, Hst2.out.symm, hs6, HNI.out, Y11.out, Y12.out, Y14.out⟩
     ·as_aux_lemma =>
       have hX : X = 104 := hX
       subst hX
       have hst := Hst.out
       obtain ⟨rfl, hnil⟩ := Z14.out Hhere.out
       obtain ⟨c, t, hA⟩ : ∃ c t, anum 16 s = (c, t) := ⟨_, _, rfl⟩
       have hx : c ≤ 16 := by have := anum_lt (most := 16) s; rw [hA] at this; exact this
       have hr : rstep (n, s) 14 = ({ n with hits := (rep (ahit rlim) c t).1 }, (rep (ahit rlim) c t).2) := by
        rw [rstep, if_neg (by decide), if_neg (by decide), if_neg (by decide), if_neg (by decide)]
        simp only [hA, hnil, List.nil_append]
       rw [hr] at hst
       have Hst2 := Lib.hid hst
       clear hst hr
       have hc := rsmall_any wr g S s 16 16 hs.rd (by decide) rfl
       rw [hA] at hc
       clear hA
       go_wp2_with (fail)
       refine hc.mono ?_
       rintro e w5 ⟨rfl, hr5, ho5⟩
       have hr5 : RfA w5 g S t := hr5
       have hs5 := ((hs.call1 hB hr5 ho5).none 2).2.2 rfl
       clear hc hs hr5 ho5
       go_wp2_with (fail)
       go_loopg [50] (c + 1) (fun m x50 wr => ∃ (jj : Nat) (vH : Value) (LH : List HitR) (sj : RS), m = c - jj + 1 ∧ jj ≤ c ∧ x50 = .int .i64 (jj : Int) ∧ (LH, sj) = rep (ahit rlim) jj t ∧ RuS w wr g bN b2 N M S n.parts n.ops n.vec [] vp vo vv (.slice none 0 0) (noteV n vp vo vv (vH)).cells sj ∧ OwnG wr M 114 LH vH)
       case atStart => exact ⟨0, _, [], _, by omega, by omega, rfl, rfl, hs5, OwnG.nil _ _ _⟩
       case round =>
        clear hs5
        obtain ⟨jj, vH, LH, sj, hm2, hjj, rfl, hrep, hs, ho⟩ := hrel
        have Hm2 := Lib.hid hm2
        have Hrep := Lib.hid hrep
        clear hm2 hrep
        have hLl : LH.length = jj := by have := rep_len (ahit rlim) jj t; rw [← Hrep.out] at this; exact this
        have HLl := Lib.hid hLl
        clear hLl
        by_cases hlt2 : (jj : Int) < (c : Int)
        ·as_aux_lemma =>
          go_upto_region 15 with (fail)
          have hd := (Below.refl wr.heap.size wr).drew
          have hs1 := hs.below hB hd hs.nw
          have ho1 := ho.below hd (Nat.le_refl _)
          have hge := hs.ge hB
          clear hs ho hd
          refine wp_region_D (fun _ => True) 12 (fun wq => Blk wq bN 36 (noteV n vp vo vv (vH)).cells) 13 rfl (by kernel_rfl) ?_
          generalize wr.drew = wd at *
          refine tkZ 0 52 (.pointer (some ⟨bN, 15, none⟩)) rfl rfl (.inl ⟨by rfl, fun _ _ => by kernel_rfl⟩) (trivial) (.inr hs1.cN) ?_
          simp only [Act.put, zqA, zqB, zqC]
          refine wpAnyD_take2 (i := 1) (dst := some 53) (v := vH) rfl rfl (by decide) (by kernel_rfl) (by kernel_rfl) (by kernel_rfl) rfl (by kernel_rfl) (by kernel_rfl) (fun _ _ _ h => h) (blk_yields oneH (by rfl) rfl rfl fun _ h => h.2) (trivial) (hs1.cN) ?_
          simp only [Act.put, zqA, zqB, zqC]
          refine tkZ 2 54 (.pointer (some ⟨g, 0, none⟩)) rfl rfl (.inl ⟨by rfl, fun _ _ => by kernel_rfl⟩) (trivial) (.inr hs1.cN) ?_
          simp only [Act.put, zqA, zqB, zqC]
          refine tkZ 4 56 (.pointer (some ⟨g, 0, none⟩)) rfl rfl (.inl ⟨by rfl, fun _ _ => by kernel_rfl⟩) (trivial) (.inr hs1.cN) ?_
          simp only [Act.put, zqA, zqB, zqC]
          refine tkZ 6 58 (.pointer (some ⟨g, 0, none⟩)) rfl rfl (.inl ⟨by rfl, fun _ _ => by kernel_rfl⟩) (trivial) (.inr hs1.cN) ?_
          simp only [Act.put, zqA, zqB, zqC]
          have hcA := rtake_any wd g S sj hs1.rd
          rw [show aU64 = 18446744073709551615 from rfl] at hcA
          have hy := anum_lt (most := 18446744073709551615) sj
          have HR0 : rep (ahit rlim) (jj + 1) t = (LH ++ [⟨UInt64.ofNat (anum 18446744073709551615 sj).1, UInt64.ofNat (anum 18446744073709551615 (anum 18446744073709551615 sj).2).1, (avec (anum 18446744073709551615 (anum 18446744073709551615 sj).2).2).1⟩], (avec (anum 18446744073709551615 (anum 18446744073709551615 sj).2).2).2) := by
           rw [rep_snoc, ← Hrep.out]; rfl
          obtain ⟨y, s', hys⟩ : ∃ y t, anum 18446744073709551615 sj = (y, t) := ⟨_, _, rfl⟩
          rw [hys] at HR0 hy hcA
          have hy : y ≤ 18446744073709551615 := hy
          simp only at HR0
          have ey : (UInt64.ofNat y).toNat = y := UInt64.toNat_ofNat_of_lt' (by show y < 18446744073709551616; omega)
          have hz := anum_lt (most := 18446744073709551615) s'
          obtain ⟨z, s'', hzs⟩ : ∃ z t, anum 18446744073709551615 s' = (z, t) := ⟨_, _, rfl⟩
          rw [hzs] at HR0 hz
          have hz : z ≤ 18446744073709551615 := hz
          have ez : (UInt64.ofNat z).toNat = z := UInt64.toNat_ofNat_of_lt' (by show z < 18446744073709551616; omega)
          simp only at HR0
          obtain ⟨vv1, sn, hav⟩ : ∃ v t, avec s'' = (v, t) := ⟨_, _, rfl⟩
          rw [hav] at HR0
          simp only at HR0
          have HREP := Lib.hid HR0
          clear HR0 hys
          refine wpAnyD_step (i := 3) (by kernel_rfl) rfl fun K hK => ?_
          refine step_call (vs := #[.pointer (some ⟨g, 0, none⟩)]) (by rfl) (by go_simp) (by kernel_rfl) (hcA) ?_
          rintro e w2 ⟨rfl, hr2, o2⟩
          have hr2 : RfA w2 g S s' := hr2
          have hs2 := hs1.call1 hB hr2 o2
          have ho2 := ho1.only o2 (fun b hb _ e => (hge b hb).1 e)
          have hge2 : wd.heap.size ≤ w2.heap.size := o2.size
          clear hcA hr2 o2
          refine ⟨_, rfl, hK _ _ trivial hs2.cN ?_⟩
          clear hK K
          simp only [Act.put, zqA, zqB, zqC]
          have hcB := rtake_any w2 g S s' hs2.rd
          rw [show aU64 = 18446744073709551615 from rfl, hzs] at hcB
          refine wpAnyD_step (i := 5) (by kernel_rfl) rfl fun K hK => ?_
          refine step_call (vs := #[.pointer (some ⟨g, 0, none⟩)]) (by rfl) (by go_simp) (by kernel_rfl) (hcB) ?_
          rintro e wm ⟨rfl, hrm, om⟩
          have hrm : RfA wm g S s'' := hrm
          have hsm := hs2.call1 hB hrm om
          have hom := ho2.only om (fun b hb _ e => (hge b hb).1 e)
          have hgem : wd.heap.size ≤ wm.heap.size := Nat.le_trans hge2 om.size
          clear hcB hrm om hs2 ho2 hge2 hzs
          refine ⟨_, rfl, hK _ _ trivial hsm.cN ?_⟩
          clear hK K
          simp only [Act.put, zqA, zqB, zqC]
          have hcV := rvector_any wm g S s'' hsm.rd
          rw [hav] at hcV
          clear hav
          refine wpAnyD_step (i := 7) (by kernel_rfl) rfl fun K hK => ?_
          refine step_call (vs := #[.pointer (some ⟨g, 0, none⟩)]) (by rfl) (by go_simp) (by kernel_rfl) (hcV) ?_
          rintro e w3 ⟨uv, rfl, hv3, hr3, o3⟩
          have hr3 : RfA w3 g S sn := hr3
          have hs3 := hsm.callV hB hr3 o3
          have ho3 := hom.only o3 (fun b hb hlt e => by
           rcases e with e | e
           ·exact (hge b hb).1 e
           ·omega)
          have hge3 : wm.heap.size ≤ w3.heap.size := o3.size
          obtain ⟨ua, un, uc, rfl⟩ := Own.shape hv3
          have hu3 := hv3.sl (S' := fun b => wm.heap.size ≤ b ∧ b < w3.heap.size) (fun _ h _ => h.elim) (fun b hb => hv3.ge b hb)
          have hnwm := hsm.nw
          clear hcV hr3 o3 hv3 hsm hom
          refine ⟨_, rfl, hK _ _ trivial hs3.cN ?_⟩
          clear hK K
          simp only [Act.put, zqA, zqB, zqC]
          refine tkZ 8 60 (.agg #[.int .u64 (y : Int), .int .u64 (z : Int), .slice ua un uc]) rfl rfl (.inl ⟨by rfl, fun _ _ => by go_simp⟩) (trivial) (.inr hs3.cN) ?_
          simp only [Act.put, zqA, zqB, zqC]
          refine wpAnyD_step (i := 9) (by kernel_rfl) rfl fun K hK => ?_
          refine step_lit_H (i := UInt64.ofNat y) (d := UInt64.ofNat z) (v := vv1) (u := .slice ua un uc) (S := fun b => wm.heap.size ≤ b ∧ b < w3.heap.size) (by rw [ey, ez]; rfl) hu3 fun q w4 hq hb4 hl4 => ?_
          have hs4 := hs3.below hB hb4 hs3.nw
          have ho4 := ho3.below hb4 (Nat.le_refl _)
          refine hK _ _ trivial hs4.cN ?_
          clear hK K
          simp only [Act.put, zqA, zqB, zqC]
          refine wpAnyD_step (i := 10) (by kernel_rfl) rfl fun K hK => ?_
          refine step_app_HitR (B := M) (l := LH) (m := [(⟨UInt64.ofNat y, UInt64.ofNat z, vv1⟩ : HitR)]) ho4 hq (fun b hb _ => ⟨by have := hs3.nw; omega, fun e => by have := ho1.ge b e; omega⟩) (by have := HLl.out; simp; omega) hs4.nw fun v9 w6 ho9 g6 => ?_
          have g6 : w4.grownBy w6 vH.ownBlock := g6
          have hs4 := hs4.only hB (Only.of_grown g6) (fun b hb => (ho4.ge b hb).1)
          obtain ⟨va, vn, vc, rfl⟩ := Own.shape ho9
          refine hK _ _ trivial hs4.cN ?_
          clear hK K
          simp only [Act.put, zqA, zqB, zqC]
          refine tkZ 11 63 (.pointer (some ⟨bN, 15, none⟩)) rfl rfl (.inl ⟨by rfl, fun _ _ => by kernel_rfl⟩) (trivial) (.inr hs4.cN) ?_
          simp only [Act.put, zqA, zqB, zqC]
          refine wpAnyD_stepd (i := 12) (by kernel_rfl) rfl (by kernel_rfl) fun K hK => ?_
          refine step_blk_store (.slice va vn vc) oneH hs4.cN rfl rfl rfl rfl (by show 15 < 16; decide) fun w5 c5 o5 z5 => ?_
          rw [set_hits n] at c5
          have hs9 := hs4.set hB c5 o5
          have ho9 := ho9.only o5 (fun b hb _ e => (hge b hb).2 e)
          refine hK _ _ trivial ?_
          clear hK K
          simp only [Act.put]
          refine wpAnyD_done (by kernel_rfl) ?_
          clear hs1 hs3
          go_wp2_with (fail)
          go_roundg (c - (jj + 1) + 1)
          case measure => have := Hm2.out; omega
          case rel => exact ⟨jj + 1, _, _, _, by omega, by omega, by go_num, HREP.out.symm, hs9, ho9⟩
        ·obtain rfl : jj = c := by omega
         have hs6 := hs.grow (lh' := LH) (vh' := vH) (.inl ⟨rfl, rfl⟩) (.inl ⟨rfl, rfl⟩) (.inl ⟨rfl, rfl⟩) (.inr ho.sl)
         have hst := Hst2.out
         rw [← Hrep.out] at hst
         have Hst2 := Lib.hid hst
         clear hst hs ho
         go_wp2_with (fail)
         go_roundg (LS.length - (j + 1) + 1)
         case measure => have := Hm.out; omega
         case rel => exact ⟨j + 1, { n with hits := LH }, vp, vo, vv, vH, sj, wr.heap.size, by omega, by omega, by go_num, Hst2.out.symm, hs6, HNI.out, Y11.out, Y12.out, fun h => absurd h Hoff.out⟩
    ·have hltI : ¬ (j : Int) < (LS.length : Int) := by omega
     obtain rfl : j = LS.length := by omega
     have e := HFO.out
     rw [List.take_of_length_le (by omega)] at e
     have hpe : parse rlim (some body) = (n, s) := by
      rw [parse_fold, HK.out, ← HFD.out]
      exact e.symm
     have HPE := Lib.hid hpe
     clear e hpe HFO z11 z12 z14 Hm
     obtain ⟨lf, vf, ok, hb, hv, hSg, hsf, hlf⟩ := hs.rd
     obtain ⟨fa, fn, fc, rfl⟩ := Sl.shape hv
     obtain rfl := Sl.len_is hv
     have c0 := hb.cell 0
     have c1 := hb.cell 1
     simp only [List.getElem?_toArray, List.getElem?_cons_zero, List.getElem?_cons_succ] at c0 c1
     have hbx : RBox wr bN n vp vo vv vh := hs.cN
     have hc2 := hs.c2
     have hbl := hs.bl
     have hNl := hB.hN
     have h2l := hB.h2
     have hn2 := hB.n2
     have hone := noteV_one n (Sl.slv hs.sp) (Sl.slv hs.so) (Sl.slv hs.sv) (Sl.slv hs.sh)
     have hnt : Nt wr (fun b => N ≤ b ∧ b < M) n (noteV n vp vo vv vh) := ⟨vp, vo, vv, vh, rfl, hs.sp, hs.so, hs.sv, hs.sh, HNI.out⟩
     have hnw := hs.nw
     have hright := rright_any wr _ n _ hnt
     obtain ⟨NR, hNR⟩ : ∃ NR, NR = nright n := ⟨_, rfl⟩
     rw [← hNR] at hright
     have HNR := Lib.hid hNR
     have hgl := hb.lt
     clear hNR hs hb hv hSg
     have HSF := Lib.hid hsf
     clear hsf
     cases ok
     ·have e : R = (zeroN, 4) := by
       rw [HR2.out, unp, if_neg]
       rintro ⟨h1, _⟩
       rw [HPE.out] at h1
       have h1 : s = some [] := h1
       have := HSF.out
       rw [h1] at this
       simp at this
      subst e
      clear HR2
      go_wp2_with (first | (with_reducible refine stop_store ?_))
      refine Stop.go (blk_store_all (cs' := zeroCells) hc2 rfl rfl (by kernel_rfl) rfl (by simp [zeroCells, Value.oneCell']) fun w8 c8 o8 z8 => ?_)
      go_wp2_with (fail)
      refine bodyPost_ret (results_cell_row2 rfl _ w8 b2 _ _ _ _ rfl c8 Tryd.underlying36 rfl (by kernel_rfl)) rfl ?_
      exact ⟨_, rfl, zero_nt _ _, below_only hbl o8 (fun k hk => by omega)⟩
     ·by_cases hl0 : 0 < lf.length
      ·have hl0I : (lf.length : Int) > 0 := by omega
       have e : R = (zeroN, 4) := by
        rw [HR2.out, unp, if_neg]
        rintro ⟨h1, _⟩
        rw [HPE.out] at h1
        have h1 : s = some [] := h1
        have := HSF.out
        rw [h1, if_pos rfl] at this
        have h9 := Option.some.inj this
        rw [← h9] at hl0
        simp at hl0
       subst e
       clear HR2
       go_wp2_with (first | (with_reducible refine stop_store ?_))
       refine Stop.go (blk_store_all (cs' := zeroCells) hc2 rfl rfl (by kernel_rfl) rfl (by simp [zeroCells, Value.oneCell']) fun w8 c8 o8 z8 => ?_)
       go_wp2_with (fail)
       refine bodyPost_ret (results_cell_row2 rfl _ w8 b2 _ _ _ _ rfl c8 Tryd.underlying36 rfl (by kernel_rfl)) rfl ?_
       exact ⟨_, rfl, zero_nt _ _, below_only hbl o8 (fun k hk => by omega)⟩
      ·have hl0I : ¬ (lf.length : Int) > 0 := by omega
       have hnil : s = some [] := by
        rw [HSF.out, if_pos rfl, List.eq_nil_of_length_eq_zero (show lf.length = 0 by omega)]
       cases NR
       ·have e : R = (zeroN, 4) := by
         rw [HR2.out, unp, if_neg]
         rintro ⟨_, h2⟩
         rw [HPE.out] at h2
         have h2 : nright n = true := h2
         have := HNR.out
         rw [h2] at this
         cases this
        go_wp2_with (first | (with_reducible refine stop_load_R ?_) | ((with_reducible apply ugZ); rfl))
        refine Stop.go (load_R hbx rfl ?_)
        go_wp2_with (fail)
        refine hright.mono ?_
        rintro e2 w7 ⟨rfl, hb7⟩
        have hc7 := hc2.below hb7 hc2.lt
        have hB7 := below_on hbl hb7 hbl.size
        subst e
        clear HR2
        go_wp2_with (first | (with_reducible refine stop_store ?_))
        refine Stop.go (blk_store_all (cs' := zeroCells) hc7 rfl rfl (by kernel_rfl) rfl (by simp [zeroCells, Value.oneCell']) fun w8 c8 o8 z8 => ?_)
        go_wp2_with (fail)
        refine bodyPost_ret (results_cell_row2 rfl _ w8 b2 _ _ _ _ rfl c8 Tryd.underlying36 rfl (by kernel_rfl)) rfl ?_
        exact ⟨_, rfl, zero_nt _ _, below_only hB7 o8 (fun k hk => by omega)⟩
       ·have e : R = (n, 0) := by rw [HR2.out, unp, if_pos (by rw [HPE.out]; exact ⟨hnil, HNR.out.symm⟩), HPE.out]
        subst e
        clear HR2
        go_wp2_with (first | (with_reducible refine stop_load_R ?_) | ((with_reducible apply ugZ); rfl))
        refine Stop.go (load_R hbx rfl ?_)
        go_wp2_with (fail)
        refine hright.mono ?_
        rintro e2 w7 ⟨rfl, hb7⟩
        have hc7 := hc2.below hb7 hc2.lt
        have hB7 := below_on hbl hb7 hbl.size
        have hbx7 := hbx.below hb7 (Blk.lt hbx)
        have hnt7 := hnt.below hb7 (Nat.le_refl _)
        go_wp2_with (first | (with_reducible refine stop_load_R ?_))
        refine Stop.go (load_R hbx7 rfl ?_)
        go_wp2_with (first | (with_reducible refine stop_store ?_))
        refine Stop.go (blk_store_all (cs' := (noteV n vp vo vv vh).cells) hc7 rfl rfl (by kernel_rfl) rfl hone fun w8 c8 o8 z8 => ?_)
        go_wp2_with (first | ((with_reducible apply ugZ); rfl) | ((with_reducible (first | apply len_B | apply len_BB | apply len_N | apply len_V | apply len_VV | apply len_P | apply len_O | apply len_H)); assumption) | ((with_reducible refine stop_if kB ?_ ?_); rfl))
        refine bodyPost_ret (results_cell_row2 rfl _ w8 b2 _ _ _ _ rfl c8 Tryd.underlying36 rfl (by kernel_rfl)) rfl ?_
        exact ⟨_, rfl, hnt7.keep fun b hb hlt => ⟨o8.block b hlt (by omega), by omega⟩, below_only hB7 o8 (fun k hk => by omega)⟩
 ·have e : R = (zeroN, oe) := by rw [HR.out]; simp [hc]
  subst e
  clear HR
  go_wp2_with (first | (with_reducible refine stop_store ?_))
  refine Stop.go (blk_store_all (cs' := zeroCells) c22 rfl rfl (by kernel_rfl) rfl (by simp [zeroCells, Value.oneCell']) fun w5 c5 o5 z5 => ?_)
  go_wp2_with (fail)
  refine bodyPost_ret (results_cell_row2 rfl _ w5 b2 _ _ _ _ rfl c5 Tryd.underlying36 rfl (by kernel_rfl)) rfl ?_
  exact ⟨_, rfl, zero_nt _ _, below_only hB2 o5 (fun k hk => by omega)⟩
end Go.Proofs.YtjkffjngamagkaaDoor
