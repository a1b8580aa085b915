/- package note: Pack. -/
import Derived.Test.YtjkffjngamagkaaDoorNotePk
import Derived.Test.YtjkffjngamagkaaDoorPackC
import Derived.Deep.DeepCutAuto
namespace Go.Arm
open Go.RowKit
theorem sortName_lt (k : Nat) (h : sortName k ≠ []) : k < 23 := by
 rcases Nat.lt_or_ge k 23 with h2 | h2
 ·exact h2
 ·exact absurd (by rw [sortName, sortAt_far k h2]) h
theorem partsFrom_mem : ∀ (l : List Int) (q : Option Int), partsFrom q l = true → ∀ p ∈ l, 0 ≤ p ∧ p < 16
 | [], _, _ => by simp
 | x :: l, q, h => by
  rw [partsFrom_cons, Bool.and_eq_true] at h
  have ih := partsFrom_mem l (some x) h.2
  intro p hp
  simp at hp
  rcases hp with rfl | hp
  ·have := h.1
   simp [partOk] at this
   exact ⟨this.1.1, this.1.2⟩
  ·exact ih p hp
theorem vecBare_len (v : List Int32) (h : vecBare v = true) : v.length ≤ 8 := by
 unfold vecBare at h
 simp [vecRight] at h
 rcases h with h | h
 ·subst h; simp
 ·omega
theorem vecRight_len (v : List Int32) (h : vecRight v = true) : v.length ≤ 8 := vecBare_len v (by unfold vecBare; rw [h]; simp)
structure NFair (n : NoteR) : Prop where
 kind : n.kind.toNat < 23
 nums : NumsOk n
 sizes : SizesOk n
 vec : n.vec.length ≤ 8
 parts : ∀ p ∈ n.parts, 0 ≤ p ∧ p < 16
 ops : ∀ o ∈ n.ops, o.vec.length ≤ 8
 hits : ∀ h ∈ n.hits, h.vec.length ≤ 8
theorem bounded_all {n : NoteR} (h : bounded n = true) : NumsOk n ∧ SizesOk n ∧ vecBare n.vec = true ∧ partsFrom none n.parts = true ∧ (∀ o ∈ n.ops, opRight o = true) ∧ (∀ h ∈ n.hits, hitRight h = true) := by
 unfold bounded at h
 simp only [Bool.and_eq_true, decide_eq_true_eq, List.all_eq_true] at h
 obtain ⟨⟨⟨⟨⟨h1, h2⟩, h3⟩, h4⟩, h5⟩, h6⟩ := h
 exact ⟨h1, h2, h3, h4, h5, h6⟩
theorem nright_fair {n : NoteR} (h : nright n = true) : NFair n := by
 unfold nright at h
 simp only [Bool.and_eq_true, Bool.not_eq_true', List.isEmpty_eq_false_iff] at h
 obtain ⟨⟨h1, _⟩, h3⟩ := h
 obtain ⟨a, b, c, d, e, f⟩ := bounded_all h3
 refine ⟨sortName_lt _ h1, a, b, vecBare_len _ c, partsFrom_mem _ _ d, fun o ho => ?_, fun x hx => ?_⟩
 ·have := e o ho
  simp only [opRight, Bool.and_eq_true] at this
  exact vecBare_len _ this.2
 ·have := f x hx
  simp only [hitRight, Bool.and_eq_true] at this
  exact vecRight_len _ this.2
theorem encParts_len (l : List Int) (h : ∀ p ∈ l, 0 ≤ p ∧ p < 16) : (encParts l).length ≤ l.length * 10 := by
 induction l with
 | nil => simp [encParts]
 | cons x l ih =>
  have e : encParts (x :: l) = enc x.toNat ++ encParts l := rfl
  have := ih fun p hp => h p (by simp [hp])
  have h1 := h x (by simp)
  have := enc_len10 x.toNat (by omega)
  rw [e, List.length_append, List.length_cons]; omega
end Go.Arm
namespace Go.Proofs.YtjkffjngamagkaaDoor
open Go Go.RowKit Go.Arm
theorem encVec_len8 (v : List Int32) (h : v.length ≤ 8) : (encVec v).length ≤ 90 := by
 have h1 := encInts_len v
 have h2 := enc_len10 v.length (by omega)
 rw [encVec, List.length_append]
 unfold encInts at *
 omega
theorem encOps_len (l : List OpR) (h : ∀ o ∈ l, o.vec.length ≤ 8) : (encOps l).length ≤ l.length * 100 := by
 induction l with
 | nil => simp [encOps]
 | cons x l ih =>
  have e : encOps (x :: l) = (enc x.id.toNat ++ encVec x.vec) ++ encOps l := rfl
  have := ih fun p hp => h p (by simp [hp])
  have := encVec_len8 x.vec (h x (by simp))
  have := enc_len10 x.id.toNat x.id.toNat_lt
  rw [e, List.length_append, List.length_append, List.length_cons]; omega
theorem encHits_len (l : List HitR) (h : ∀ o ∈ l, o.vec.length ≤ 8) : (encHits l).length ≤ l.length * 110 := by
 induction l with
 | nil => simp [encHits]
 | cons x l ih =>
  have e : encHits (x :: l) = (enc x.id.toNat ++ enc x.dist.toNat ++ encVec x.vec) ++ encHits l := rfl
  have := ih fun p hp => h p (by simp [hp])
  have := encVec_len8 x.vec (h x (by simp))
  have := enc_len10 x.id.toNat x.id.toNat_lt
  have := enc_len10 x.dist.toNat x.dist.toNat_lt
  rw [e, List.length_append, List.length_append, List.length_append, List.length_cons]; omega
theorem numsOf_lt (n : NoteR) (h : NumsOk n) : ∀ x ∈ numsOf n, x < 18446744073709551616 := by
 obtain ⟨h1, h2, ⟨k0, k1, k2, k3⟩, h4, h5, h6, h7⟩ := h
 have := n.txn.toNat_lt
 have := n.batch.toNat_lt
 have := n.query.toNat_lt
 intro x hx
 simp only [numsOf, List.mem_cons, List.not_mem_nil, or_false] at hx
 omega
theorem secP_len {n : NoteR} (h : NFair n) : (secP n).length ≤ 50 := by
 have := encParts_len n.parts h.parts
 have := h.sizes.1
 have := enc_len10 n.parts.length (by omega)
 unfold secP
 split
 ·rw [List.length_append]; omega
 ·simp
theorem secO_len {n : NoteR} (h : NFair n) : (secO n).length ≤ 1610 := by
 have := encOps_len n.ops h.ops
 have := h.sizes.2.1
 have := enc_len10 n.ops.length (by omega)
 unfold secO
 split
 ·rw [List.length_append]; omega
 ·simp
theorem secV_len {n : NoteR} (h : NFair n) : (secV n).length ≤ 90 := by
 have := encVec_len8 n.vec h.vec
 unfold secV
 split
 ·exact this
 ·simp
theorem secH_len {n : NoteR} (h : NFair n) : (secH n).length ≤ 1770 := by
 have := encHits_len n.hits h.hits
 have := h.sizes.2.2
 have := enc_len10 n.hits.length (by omega)
 unfold secH
 split
 ·rw [List.length_append]; omega
 ·simp
theorem secF_len {n : NoteR} (h : NFair n) : (enc n.kind.toNat ++ encFrom n.kind.toNat 0 (numsOf n)).length ≤ 120 := by
 have := encFrom_len n.kind.toNat (numsOf n) 0 (numsOf_lt n h.nums)
 have := h.kind
 have := enc_len10 n.kind.toNat (by omega)
 have e : (numsOf n).length = 11 := rfl
 rw [List.length_append]; omega
theorem encNote_len {n : NoteR} (h : NFair n) : (encNote n).length ≤ 4096 := by
 have := secF_len h
 have := secP_len h
 have := secO_len h
 have := secV_len h
 have := secH_len h
 unfold encNote
 simp only [List.length_append] at *
 omega
theorem idx_nums (xs : List Nat) (h : xs.length = 11) (j : Nat) (x : Nat) (hx : xs[j]? = some x) : ∀ w : World, (Instr.index 128 (.agg (xs.map fun x : Nat => Value.int .u64 (x : Int)).toArray) (.int .i64 (j : Int))).run Tryd.prog w = .ok (.int .u64 (x : Int)) w := by
 intro w
 have hj : j < 11 := by have := (List.getElem?_eq_some_iff.1 hx).1; omega
 match xs, h with
 | [b0, b1, b2, b3, b4, b5, b6, b7, b8, b9, b10], _ =>
  rcases (show j = 0 ∨ j = 1 ∨ j = 2 ∨ j = 3 ∨ j = 4 ∨ j = 5 ∨ j = 6 ∨ j = 7 ∨ j = 8 ∨ j = 9 ∨ j = 10 by omega) with rfl | rfl | rfl | rfl | rfl | rfl | rfl | rfl | rfl | rfl | rfl
  all_goals
   simp at hx
   subst hx
   refine Eq.trans ?_ rfl
   kernel_rfl
theorem wrap_u64 (z : Int) (h0 : 0 ≤ z) (h : z < 18446744073709551616) : IntKind.u64.wrap z = z := by
 simp [IntKind.wrap, IntKind.signed, IntKind.bits]
 omega
theorem encs1 (v : Nat) (h : v < 18446744073709551616) : encs [UInt64.ofNat v] = enc v := by simp [encs, u64_of v h]
theorem encs2 (v u : Nat) (h : v < 18446744073709551616) (h2 : u < 18446744073709551616) : encs [UInt64.ofNat v, UInt64.ofNat u] = enc v ++ enc u := by simp [encs, u64_of v h, u64_of u h2]
theorem encVecs1 (v : List Int32) : encVecs [v] = encVec v := by simp [encVecs]
theorem wrap_pow (j : Nat) (hj : j < 20) : wrap64 ((2 : Int) ^ j) = ((2 ^ j : Nat) : Int) := by
 have hp : 2 ^ j ≤ 2 ^ 19 := Nat.pow_le_pow_right (by decide) (by omega)
 have e : (2 : Int) ^ j = ((2 ^ j : Nat) : Int) := by push_cast; rfl
 rw [e]
 generalize 2 ^ j = m at *
 unfold wrap64
 omega
theorem nums_value (n : NoteR) (h : NumsOk n) : Value.agg #[.int .u64 (n.txn.toNat : Int), .int .u64 (n.batch.toNat : Int), .int .u64 (n.stamp.toNat : Int), .int .u64 (n.after.toNat : Int), .int .u64 (n.mark.toNat : Int), .int .u64 (n.query.toNat : Int), .int .u64 (n.id.toNat : Int), .int .u64 (IntKind.u64.wrap n.k), .int .u64 (IntKind.u64.wrap n.ef), .int .u64 (IntKind.u64.wrap n.code), .int .u64 (IntKind.u64.wrap n.who)] = Value.agg ((numsOf n).map fun x : Nat => Value.int .u64 (x : Int)).toArray := by
 obtain ⟨_, _, ⟨k0, k1, k2, k3⟩, h4, h5, h6, h7⟩ := h
 have f : ∀ z : Int, 0 ≤ z → z < 18446744073709551616 → IntKind.u64.wrap z = (z.toNat : Int) := fun z a b => by rw [wrap_u64 z a b]; omega
 rw [f n.k k0 (by omega), f n.ef k1 (by omega), f n.code k3 (by omega), f n.who k2 (by omega)]
 rfl
theorem PkS.start (w0 w : World) (b : Nat) (n : NoteR) (vp vo vv vh : Value) (hb : Box w b n vp vo vv vh) (hB : Below w0.heap.size w0 w) (hge : w0.heap.size ≤ b) : PkS w0 (w.alloc (.cells #[.slice none 0 0] 122)) b w.heap.size n vp vo vv vh none [] :=
 ⟨hb.below ((Below.refl w.heap.size w).alloc (Nat.le_refl _) _) hb.lt, Wf.fresh hB.size, hB.alloc hB.size _, by have := hb.lt; omega, by simp, hge⟩
set_option maxHeartbeats 8000000 in
set_option maxRecDepth 100000 in
theorem npack_any (w : World) (S : Nat → Prop) (n : NoteR) (V : Value) (hN : Srt w) (hB : Nib w) (hV : Nt w S n V) :
  Calls Tryd.prog 20 #[V] w fun e w' => ∃ v, e = .returned (.tuple #[v, .int .i64 (if nright n then 0 else 4)]) ∧ OwnB w' w.heap.size (if nright n then frame (encNote n) else []) v ∧ Below w.heap.size w w' := by
 have hV0 := hV.old
 clear hV
 have hright := fun w' hN' hV' => nright_any w' (· < w.heap.size) n V hN' hV'
 obtain ⟨R, hR⟩ : ∃ R, R = nright n := ⟨_, rfl⟩
 rw [← hR] at hright ⊢
 have HR := Lib.hid hR
 clear hR
 have HRI := Lib.hid hright
 clear hright
 have hV1 := hV0
 obtain ⟨vp, vo, vv, vh, rfl, h1, h2, h3, h4, _⟩ := hV1
 have HV := Lib.hid hV0
 clear hV0
 unfold noteV at HV HRI ⊢
 obtain ⟨ap, np, cp, rfl⟩ := Sl.shape h1
 obtain ⟨ao, no, co, rfl⟩ := Sl.shape h2
 obtain ⟨av, nv, cv, rfl⟩ := Sl.shape h3
 obtain ⟨ah, nh, ch, rfl⟩ := Sl.shape h4
 have hbx := Box.new w n (.slice ap np cp) (.slice ao no co) (.slice av nv cv) (.slice ah nh ch)
 have hal := (Below.refl w.heap.size w).alloc (Nat.le_refl _) (.cells #[.int .u8 (n.kind.toNat : Int), .int .u64 (n.txn.toNat : Int), .int .u64 (n.batch.toNat : Int), .int .u64 (n.stamp.toNat : Int), .int .u64 (n.after.toNat : Int), .int .u64 (n.mark.toNat : Int), .int .u64 (n.query.toNat : Int), .int .u64 (n.id.toNat : Int), .int .i64 n.k, .int .i64 n.ef, .int .i64 n.code, .int .i64 n.who, .slice ap np cp, .slice ao no co, .slice av nv cv, .slice ah nh ch] 33)
 go_enter Tryd.func20, Tryd.ntmps20
 go_wp2_with (first | ((with_reducible apply ugZ); rfl) | ((with_reducible (first | apply len_B | apply len_BB | apply len_N | apply len_V | apply len_VV | apply len_P | apply len_O | apply len_H)); assumption) | ((with_reducible refine stop_if kT ?_ ?_); rfl))
 generalize w.alloc (.cells #[.int .u8 (n.kind.toNat : Int), .int .u64 (n.txn.toNat : Int), .int .u64 (n.batch.toNat : Int), .int .u64 (n.stamp.toNat : Int), .int .u64 (n.after.toNat : Int), .int .u64 (n.mark.toNat : Int), .int .u64 (n.query.toNat : Int), .int .u64 (n.id.toNat : Int), .int .i64 n.k, .int .i64 n.ef, .int .i64 n.code, .int .i64 n.who, .slice ap np cp, .slice ao no co, .slice av nv cv, .slice ah nh ch] 33) = w1 at hbx hal ⊢
 obtain ⟨bn, hbn⟩ : ∃ bn, bn = w.heap.size := ⟨_, rfl⟩
 rw [← hbn] at hbx ⊢
 have HBN := Lib.hid hbn
 clear hbn
 refine (HRI.out w1 (hN.below hal (Nat.le_refl _)) (HV.out.below hal (Nat.le_refl _))).mono ?_
 rintro e w2 ⟨rfl, hb2⟩
 have hbx2 := hbx.below hb2 hbx.lt
 have hB2 := below_on hal hb2 hal.size
 clear hal hb2 hbx
 cases R
 ·go_wp2_with (first | ((with_reducible apply ugZ); rfl) | ((with_reducible (first | apply len_B | apply len_BB | apply len_N | apply len_V | apply len_VV | apply len_P | apply len_O | apply len_H)); assumption) | ((with_reducible refine stop_if kT ?_ ?_); rfl))
  go_ret2
  exact ⟨_, rfl, Own.nil _ _ _ _, hB2⟩
 ·have hfair := nright_fair HR.out.symm
  clear HRI HR HV
  have hs0 := PkS.start w w2 bn n (.slice ap np cp) (.slice ao no co) (.slice av nv cv) (.slice ah nh ch) hbx2 hB2 (by rw [HBN.out]; exact Nat.le_refl _)
  go_upto_region 4 with (fail)
  generalize w2.alloc (.cells #[.slice none 0 0] 122) = w3 at hs0 ⊢
  obtain ⟨g, hg⟩ : ∃ g, g = w2.heap.size := ⟨_, rfl⟩
  rw [← hg] at hs0 ⊢
  clear hg hbx2 hB2
  have d0 := hs0.bx.c0
  go_wp2_with (first | ((with_reducible apply ugZ); rfl) | ((with_reducible (first | apply len_B | apply len_BB | apply len_N | apply len_V | apply len_VV | apply len_P | apply len_O | apply len_H)); assumption) | ((with_reducible refine stop_if kT ?_ ?_); rfl))
  have hkl := n.kind.toNat_lt
  refine Stop.go (build_n1 n.kind.toNat (by omega) (congrArg (Value.int .u64) (wrap_u64 _ (by omega) (by omega))) fun q w4 hq hb4 hlt4 => ?_)
  go_wp2_with (first | ((with_reducible apply ugZ); rfl) | ((with_reducible (first | apply len_B | apply len_BB | apply len_N | apply len_V | apply len_VV | apply len_P | apply len_O | apply len_H)); assumption) | ((with_reducible refine stop_if kT ?_ ?_); rfl))
  refine (hs0.nums [UInt64.ofNat n.kind.toNat] q hb4 hlt4 hq (by simp) (by simp)).mono ?_
  rintro e w5 ⟨rfl, h5, hs5, _⟩
  clear d0 hq hb4 hlt4 hs0
  rw [encs1 _ (by omega), List.nil_append] at hs5
  have hF := secF_len hfair
  obtain ⟨d1, d2, d3, d4, d5, d6, d7, d8, d9, d10, d11⟩ := hs5.bx.nums
  go_upto_region 7 with (fail)
  have hA2 := nums_value n hfair.nums
  obtain ⟨ARR, hARR⟩ : ∃ ARR : Value, ARR = Value.agg ((numsOf n).map fun x : Nat => Value.int .u64 (x : Int)).toArray := ⟨_, rfl⟩
  rw [← hARR] at hA2
  rw [hA2]
  have HARR := Lib.hid hARR
  clear hA2 hARR d1 d2 d3 d4 d5 d6 d7 d8 d9 d10 d11
  have hNk : ∀ wq, Below w.heap.size w wq → Srt wq := fun wq hb => hN.below hb (Nat.le_refl _)
  obtain ⟨XS, hXS⟩ : ∃ XS, XS = numsOf n := ⟨_, rfl⟩
  obtain ⟨K, hK⟩ : ∃ K, K = n.kind.toNat := ⟨_, rfl⟩
  obtain ⟨F0, hF0⟩ : ∃ F0, F0 = enc n.kind.toNat ++ encFrom n.kind.toNat 0 (numsOf n) := ⟨_, rfl⟩
  rw [← hF0] at hF
  have hXl : XS.length = 11 := by rw [hXS]; rfl
  have hXb : ∀ x ∈ XS, x < 18446744073709551616 := by rw [hXS]; exact numsOf_lt n hfair.nums
  have HX := Lib.hid hXb
  have H0 := Lib.hid hF0
  have HXS := Lib.hid hXS
  have HK := Lib.hid hK
  clear hXb hF0 hXS hK hkl
  go_loopg [6, 7, 53] 12 (fun k x6 x7 i wr => ∃ (j : Nat) (h : Option Nat) (L : List UInt8), k = 11 - j + 1 ∧ j ≤ 11 ∧ i = .int .i64 j ∧ PkS w wr bn g n (.slice ap np cp) (.slice ao no co) (.slice av nv cv) (.slice ah nh ch) h L ∧ L ++ encFrom K j (XS.drop j) = F0)
  case atStart => exact ⟨0, h5, _, by omega, by omega, rfl, hs5, by rw [H0.out, HK.out, HXS.out]; rfl⟩
  case round =>
   obtain ⟨j, h, L, hk, hj, rfl, hs, hLF⟩ := hrel
   have Hk := Lib.hid hk
   have HLF := Lib.hid hLF
   have hLl : L.length ≤ 120 := by have := congrArg List.length hLF; rw [List.length_append] at this; omega
   clear hk hLF hs5
   by_cases hlt : j < 11
   ·obtain ⟨x, hx⟩ : ∃ x, XS[j]? = some x := ⟨_, List.getElem?_eq_getElem (by omega)⟩
    have hxl := HX.out x (List.mem_of_getElem? hx)
    have hrun := idx_nums XS hXl j x hx
    rw [HXS.out, ← HARR.out] at hrun
    have hd : XS.drop j = x :: XS.drop (j + 1) := by
     obtain ⟨hl5, e5⟩ := List.getElem?_eq_some_iff.1 hx
     rw [← e5]
     exact List.drop_eq_getElem_cons hl5
    have Hd := Lib.hid hd
    clear hd hx
    go_wp2_with (first | ((with_reducible apply ugZ); rfl) | ((with_reducible (first | apply len_B | apply len_BB | apply len_N | apply len_V | apply len_VV | apply len_P | apply len_O | apply len_H)); assumption) | ((with_reducible refine stop_if kT ?_ ?_); rfl))
    rw [wrap_pow j (by omega)]
    refine (pack1_any wr bn n _ _ _ _ j (hNk wr hs.bl) hs.bx hfair.kind (by omega)).mono ?_
    rintro e wx ⟨rfl, rfl⟩
    cases hf : hasF n.kind.toNat j
    ·go_wp2_with (first | ((with_reducible apply ugZ); rfl) | ((with_reducible (first | apply len_B | apply len_BB | apply len_N | apply len_V | apply len_VV | apply len_P | apply len_O | apply len_H)); assumption) | ((with_reducible refine stop_if kT ?_ ?_); rfl))
     go_roundg (11 - (j + 1) + 1)
     case measure => have := Hk.out; omega
     case rel =>
      refine ⟨j + 1, h, L, by omega, by omega, by go_num, hs, ?_⟩
      rw [← HLF.out, Hd.out, encFrom, HK.out, hf]; simp
    ·go_wp2_with (first | ((with_reducible apply ugZ); rfl) | ((with_reducible (first | apply len_B | apply len_BB | apply len_N | apply len_V | apply len_VV | apply len_P | apply len_O | apply len_H)); assumption) | ((with_reducible refine stop_if kT ?_ ?_); rfl))
     refine Stop.go (build_n1 x hxl rfl fun q w6 hq hb6 hlt6 => ?_)
     go_wp2_with (first | ((with_reducible apply ugZ); rfl) | ((with_reducible (first | apply len_B | apply len_BB | apply len_N | apply len_V | apply len_VV | apply len_P | apply len_O | apply len_H)); assumption) | ((with_reducible refine stop_if kT ?_ ?_); rfl))
     refine (hs.nums [UInt64.ofNat x] q hb6 hlt6 hq (by omega) (by simp)).mono ?_
     rintro e w7 ⟨rfl, h7, hs7, _⟩
     rw [encs1 _ hxl] at hs7
     go_wp2_with (first | ((with_reducible apply ugZ); rfl) | ((with_reducible (first | apply len_B | apply len_BB | apply len_N | apply len_V | apply len_VV | apply len_P | apply len_O | apply len_H)); assumption) | ((with_reducible refine stop_if kT ?_ ?_); rfl))
     go_roundg (11 - (j + 1) + 1)
     case measure => have := Hk.out; omega
     case rel =>
      refine ⟨j + 1, h7, _, by omega, by omega, by go_num, hs7, ?_⟩
      rw [← HLF.out, Hd.out, encFrom, HK.out, hf, if_pos rfl, List.append_assoc]
   ·obtain rfl : j = 11 := by omega
    have e : L = F0 := by rw [← HLF.out, List.drop_of_length_le (by omega), encFrom, List.append_nil]
    subst e
    have hc11 := pack1_any wr bn n _ _ _ _ 11 (hNk wr hs.bl) hs.bx hfair.kind (by omega)
    rw [show ((2 ^ 11 : Nat) : Int) = 2048 from rfl] at hc11
    go_wp2_with (first | ((with_reducible apply ugZ); rfl) | ((with_reducible (first | apply len_B | apply len_BB | apply len_N | apply len_V | apply len_VV | apply len_P | apply len_O | apply len_H)); assumption) | ((with_reducible refine stop_if kT ?_ ?_); rfl))
    refine hc11.mono ?_
    rintro e wx11 ⟨rfl, rfl⟩
    clear hc11
    go_upto_if 67 with (fail)
    go_cut [] (fun wx => ∃ h, PkS w wx bn g n (.slice ap np cp) (.slice ao no co) (.slice av nv cv) (.slice ah nh ch) h (L ++ secP n))
    case first =>
     cases hf : hasF n.kind.toNat 11
     ·go_wp2_with (fail)
      go_meet
      case rel => exact ⟨h, by unfold secP; rw [hf]; simpa using hs⟩
     ·have hpP := h1.below hs.bl (Nat.le_refl _)
      have cP := hs.bx.c12
      have hllP : n.parts.length ≤ 9223372036854775807 := h1.length_le
      go_wp2_with (first | ((with_reducible apply ugZ); rfl) | ((with_reducible (first | apply len_B | apply len_BB | apply len_N | apply len_V | apply len_VV | apply len_P | apply len_O | apply len_H)); assumption) | ((with_reducible refine stop_if kT ?_ ?_); rfl))
      refine Stop.go (build_n1 n.parts.length (by omega) rfl fun q waP hq hbaP hltaP => ?_)
      go_wp2_with (first | ((with_reducible apply ugZ); rfl) | ((with_reducible (first | apply len_B | apply len_BB | apply len_N | apply len_V | apply len_VV | apply len_P | apply len_O | apply len_H)); assumption) | ((with_reducible refine stop_if kT ?_ ?_); rfl))
      refine (hs.nums [UInt64.ofNat n.parts.length] q hbaP hltaP hq (by omega) (by simp)).mono ?_
      rintro e wbP ⟨rfl, hbP, hsbP, _⟩
      rw [encs1 _ (by omega)] at hsbP
      clear hpP cP hq hbaP hltaP
      have hpP := h1.below hsbP.bl (Nat.le_refl _)
      have cP := hsbP.bx.c12
      go_wp2_with (first | ((with_reducible apply ugZ); rfl) | ((with_reducible (first | apply len_B | apply len_BB | apply len_N | apply len_V | apply len_VV | apply len_P | apply len_O | apply len_H)); assumption) | ((with_reducible refine stop_if kT ?_ ?_); rfl))
      have hlP : (encParts n.parts).length ≤ 40 := by have := encParts_len n.parts hfair.parts; have := hfair.sizes.1; omega
      have hlQ := enc_len10 n.parts.length (by omega)
      have hsec : secP n = enc n.parts.length ++ encParts n.parts := by unfold secP; rw [hf, if_pos rfl]
      have HSEC := Lib.hid hsec
      clear hsec
      have HPf := Lib.hid hfair.parts
      go_loopg [9, 78] (n.parts.length + 1) (fun k x9 i wr => ∃ (j : Nat) (h : Option Nat) (M : List UInt8), k = n.parts.length - j + 1 ∧ j ≤ n.parts.length ∧ i = .int .i64 j ∧ PkS w wr bn g n (.slice ap np cp) (.slice ao no co) (.slice av nv cv) (.slice ah nh ch) h M ∧ M ++ encParts (n.parts.drop j) = L ++ secP n)
      case atStart => exact ⟨0, hbP, _, by omega, by omega, rfl, hsbP, by rw [HSEC.out]; simp⟩
      case round =>
       obtain ⟨j, h', M, hk, hj, rfl, hsr, hMF⟩ := hrel
       have Hk2 := Lib.hid hk
       have HMF := Lib.hid hMF
       have hMl : M.length ≤ 1000 := by
        have := congrArg List.length hMF
        rw [HSEC.out] at this
        simp only [List.length_append] at this
        omega
       clear hk hMF hsbP hpP cP
       have hpr := h1.below hsr.bl (Nat.le_refl _)
       by_cases hlt : j < n.parts.length
       ·go_wp2_with (first | ((with_reducible apply ugZ); rfl) | ((with_reducible (first | apply len_B | apply len_BB | apply len_N | apply len_V | apply len_VV | apply len_P | apply len_O | apply len_H)); assumption) | ((with_reducible refine stop_if kT ?_ ?_); rfl))
        refine Stop.go (idx_P hpr rfl (by omega) (by omega) fun b5 o5 p hp hp6 hcell => ?_)
        have hd : n.parts.drop j = p :: n.parts.drop (j + 1) := by
         obtain ⟨hl5, e5⟩ := List.getElem?_eq_some_iff.1 hp
         simp only [Int.toNat_natCast] at e5
         rw [← e5]
         exact List.drop_eq_getElem_cons hlt
        have hpb := HPf.out p (List.mem_of_getElem? hp)
        have Hd := Lib.hid hd
        clear hd hp
        have hpn : IntKind.u64.wrap p = (p.toNat : Int) := by rw [wrap_u64 p (by omega) (by omega)]; omega
        go_wp2_with (first | ((with_reducible apply ugZ); rfl) | ((with_reducible (first | apply len_B | apply len_BB | apply len_N | apply len_V | apply len_VV | apply len_P | apply len_O | apply len_H)); assumption) | ((with_reducible refine stop_if kT ?_ ?_); rfl))
        refine Stop.go (build_n1 p.toNat (by omega) (congrArg (Value.int .u64) (show max p 0 = (p.toNat : Int) by omega)) fun q w6 hq hb6 hlt6 => ?_)
        go_wp2_with (first | ((with_reducible apply ugZ); rfl) | ((with_reducible (first | apply len_B | apply len_BB | apply len_N | apply len_V | apply len_VV | apply len_P | apply len_O | apply len_H)); assumption) | ((with_reducible refine stop_if kT ?_ ?_); rfl))
        refine (hsr.nums [UInt64.ofNat p.toNat] q hb6 hlt6 hq (by omega) (by simp)).mono ?_
        rintro e w7 ⟨rfl, h7, hs7, _⟩
        rw [encs1 _ (by omega)] at hs7
        go_wp2_with (first | ((with_reducible apply ugZ); rfl) | ((with_reducible (first | apply len_B | apply len_BB | apply len_N | apply len_V | apply len_VV | apply len_P | apply len_O | apply len_H)); assumption) | ((with_reducible refine stop_if kT ?_ ?_); rfl))
        go_roundg (n.parts.length - (j + 1) + 1)
        case measure => have := Hk2.out; omega
        case rel =>
         refine ⟨j + 1, h7, _, by omega, by omega, by go_num, hs7, ?_⟩
         rw [← HMF.out, Hd.out, List.append_assoc]
         rfl
       ·have e : M = L ++ secP n := by
         rw [← HMF.out, List.drop_of_length_le (by omega)]
         simp [encParts]
        go_wp2_with (first | ((with_reducible apply ugZ); rfl) | ((with_reducible (first | apply len_B | apply len_BB | apply len_N | apply len_V | apply len_VV | apply len_P | apply len_O | apply len_H)); assumption) | ((with_reducible refine stop_if kT ?_ ?_); rfl))
        go_meet
        case rel => exact ⟨h', by rw [← e]; exact hsr⟩
    case rest =>
     obtain ⟨hP, hsP⟩ := hcut
     obtain ⟨F1, hF1⟩ : ∃ F1, F1 = L ++ secP n := ⟨_, rfl⟩
     rw [← hF1] at hsP
     have hlF1 : F1.length ≤ 170 := by have := secP_len hfair; rw [hF1, List.length_append]; omega
     have HF1 := Lib.hid hF1
     clear hF1
     obtain ⟨wP, rfl⟩ : ∃ wP, wP = wc := ⟨_, rfl⟩
     have hc12 := pack1_any wP bn n _ _ _ _ 12 (hNk wP hsP.bl) hsP.bx hfair.kind (by omega)
     rw [show ((2 ^ 12 : Nat) : Int) = 4096 from rfl] at hc12
     go_wp2_with (first | ((with_reducible apply ugZ); rfl) | ((with_reducible (first | apply len_B | apply len_BB | apply len_N | apply len_V | apply len_VV | apply len_P | apply len_O | apply len_H)); assumption) | ((with_reducible refine stop_if kT ?_ ?_); rfl))
     refine hc12.mono ?_
     rintro e wx12 ⟨rfl, rfl⟩
     clear hc12
     go_upto_if 89 with (fail)
     go_cut [] (fun wx => ∃ h, PkS w wx bn g n (.slice ap np cp) (.slice ao no co) (.slice av nv cv) (.slice ah nh ch) h (F1 ++ secO n))
     case first =>
      cases hf : hasF n.kind.toNat 12
      ·go_wp2_with (fail)
       go_meet
       case rel => exact ⟨hP, by unfold secO; rw [hf]; simpa using hsP⟩
      ·have hpO := h2.below hsP.bl (Nat.le_refl _)
       have cO := hsP.bx.c13
       have hllO : n.ops.length ≤ 9223372036854775807 := h2.length_le
       go_wp2_with (first | ((with_reducible apply ugZ); rfl) | ((with_reducible (first | apply len_B | apply len_BB | apply len_N | apply len_V | apply len_VV | apply len_P | apply len_O | apply len_H)); assumption) | ((with_reducible refine stop_if kT ?_ ?_); rfl))
       refine Stop.go (build_n1 n.ops.length (by omega) rfl fun q waO hq hbaO hltaO => ?_)
       go_wp2_with (first | ((with_reducible apply ugZ); rfl) | ((with_reducible (first | apply len_B | apply len_BB | apply len_N | apply len_V | apply len_VV | apply len_P | apply len_O | apply len_H)); assumption) | ((with_reducible refine stop_if kT ?_ ?_); rfl))
       refine (hsP.nums [UInt64.ofNat n.ops.length] q hbaO hltaO hq (by omega) (by simp)).mono ?_
       rintro e wbO ⟨rfl, hbO, hsbO, _⟩
       rw [encs1 _ (by omega)] at hsbO
       clear hpO cO hq hbaO hltaO
       have hpO := h2.below hsbO.bl (Nat.le_refl _)
       have cO := hsbO.bx.c13
       go_wp2_with (first | ((with_reducible apply ugZ); rfl) | ((with_reducible (first | apply len_B | apply len_BB | apply len_N | apply len_V | apply len_VV | apply len_P | apply len_O | apply len_H)); assumption) | ((with_reducible refine stop_if kT ?_ ?_); rfl))
       have hlP : (encOps n.ops).length ≤ 1600 := by have := encOps_len n.ops hfair.ops; have := hfair.sizes.2.1; omega
       have hlQ := enc_len10 n.ops.length (by omega)
       have H8O := Lib.hid hfair.ops
       have hsec : secO n = enc n.ops.length ++ encOps n.ops := by unfold secO; rw [hf, if_pos rfl]
       have HSEC := Lib.hid hsec
       clear hsec
       go_loopg [11, 100] (n.ops.length + 1) (fun k x9 i wr => ∃ (j : Nat) (h : Option Nat) (M : List UInt8), k = n.ops.length - j + 1 ∧ j ≤ n.ops.length ∧ i = .int .i64 j ∧ PkS w wr bn g n (.slice ap np cp) (.slice ao no co) (.slice av nv cv) (.slice ah nh ch) h M ∧ M ++ encOps (n.ops.drop j) = F1 ++ secO n)
       case atStart => exact ⟨0, hbO, _, by omega, by omega, rfl, hsbO, by rw [HSEC.out]; simp⟩
       case round =>
        obtain ⟨j, h', M, hk, hj, rfl, hsr, hMF⟩ := hrel
        have Hk2 := Lib.hid hk
        have HMF := Lib.hid hMF
        have hMl : M.length ≤ 4000 := by
         have := congrArg List.length hMF
         rw [HSEC.out] at this
         simp only [List.length_append] at this
         omega
        clear hk hMF hsbO hpO cO
        have hpr := h2.below hsr.bl (Nat.le_refl _)
        by_cases hlt : j < n.ops.length
        ·go_wp2_with (first | ((with_reducible apply ugZ); rfl) | ((with_reducible (first | apply len_B | apply len_BB | apply len_N | apply len_V | apply len_VV | apply len_P | apply len_O | apply len_H)); assumption) | ((with_reducible refine stop_if kT ?_ ?_); rfl))
         refine Stop.go (idx_O hpr rfl (by omega) (by omega) fun b5 o5 p pv hp hpv hcell0 hcell1 => ?_)
         have hd : n.ops.drop j = p :: n.ops.drop (j + 1) := by
          obtain ⟨hl5, e5⟩ := List.getElem?_eq_some_iff.1 hp
          simp only [Int.toNat_natCast] at e5
          rw [← e5]
          exact List.drop_eq_getElem_cons hlt
         have hpb := H8O.out p (List.mem_of_getElem? hp)
         have Hd := Lib.hid hd
         clear hd hp
         obtain ⟨pa, pn, pc, rfl⟩ := Sl.shape hpv
         go_wp2_with (first | ((with_reducible apply ugZ); rfl) | ((with_reducible (first | apply len_B | apply len_BB | apply len_N | apply len_V | apply len_VV | apply len_P | apply len_O | apply len_H)); assumption) | ((with_reducible refine stop_if kT ?_ ?_); rfl))
         have hx5 := (Below.refl wr.heap.size wr).alloc (Nat.le_refl _) (.cells #[.int .u64 (p.id.toNat : Int), .slice pa pn pc] 63)
         have hsx := hsr.alloc hx5
         have hvx := hpv.below hx5 (Nat.le_refl _)
         have ex := heap_alloc_new wr (.cells #[.int .u64 (p.id.toNat : Int), .slice pa pn pc] 63)
         generalize wr.alloc (.cells #[.int .u64 (p.id.toNat : Int), .slice pa pn pc] 63) = w5 at hx5 hsx hvx ex ⊢
         obtain ⟨bo, hbo⟩ : ∃ bo, bo = wr.heap.size := ⟨_, rfl⟩
         rw [← hbo] at ex ⊢
         have hbl : bo < w5.heap.size := (Array.getElem?_eq_some_iff.1 ex).1
         have hbg : bo ≠ g := by have := hsr.wf.wr.lt; omega
         have hbh : h' ≠ some bo := fun e => by have := hsr.wf.wr.row_lt _ e; omega
         have hcell : ∀ wq : World, wq.heap[bo]? = some (.cells #[.int .u64 (p.id.toNat : Int), .slice pa pn pc] 63) → wq.cell? ⟨bo, 0, none⟩ = some (.int .u64 (p.id.toNat : Int)) ∧ wq.cell? ⟨bo, 1, none⟩ = some (.slice pa pn pc) := by
          intro wq e2
          simp [World.cell?, e2]
         have HBO := Lib.hid hbo
         clear hbo hcell0 hcell1
         have hidl := p.id.toNat_lt
         have hel := enc_len10 p.id.toNat hidl
         have cA0 := hsx.numsStep ex hbg hbh (((Below.refl w5.heap.size w5).alloc (Nat.le_refl _) (.cells #[.int .u64 (p.id.toNat : Int)] 26)).drew) [UInt64.ofNat p.id.toNat] (.slice (some ⟨w5.heap.size, 0, none⟩) 1 1) (S := (· = w5.heap.size)) (fun k (hk : k = w5.heap.size) => .inl (Nat.le_trans (Nat.le_refl _) (Nat.le_of_eq hk.symm))) (lit_n _ _ _ _ hidl (heap_alloc_new w5 (.cells #[.int .u64 (p.id.toNat : Int)] 26))) hvx (by omega) (by simp)
         have cA := Lib.hid cA0
         clear cA0
         have cB0 := hsx.numsStep ex hbg hbh ((((Below.refl w5.heap.size w5).alloc (Nat.le_refl _) (.cells #[.int .u64 (p.id.toNat : Int)] 26)).alloc ((Below.refl w5.heap.size w5).alloc (Nat.le_refl _) (.cells #[.int .u64 (p.id.toNat : Int)] 26)).size (.cells #[.slice pa pn pc] 30)).drew) [UInt64.ofNat p.id.toNat] (.slice (some ⟨w5.heap.size, 0, none⟩) 1 1) (S := (· = w5.heap.size)) (fun k (hk : k = w5.heap.size) => .inl (Nat.le_trans (Nat.le_refl _) (Nat.le_of_eq hk.symm))) (lit_n _ _ _ _ hidl (two_old w5 (.cells #[.int .u64 (p.id.toNat : Int)] 26) (.cells #[.slice pa pn pc] 30))) hvx (by omega) (by simp)
         have cB := Lib.hid cB0
         clear cB0
         have cC0 := hsx.numsStep ex hbg hbh ((((Below.refl w5.heap.size w5).alloc (Nat.le_refl _) (.cells #[.slice pa pn pc] 30)).alloc ((Below.refl w5.heap.size w5).alloc (Nat.le_refl _) (.cells #[.slice pa pn pc] 30)).size (.cells #[.int .u64 (p.id.toNat : Int)] 26)).drew) [UInt64.ofNat p.id.toNat] (.slice (some ⟨(w5.heap.size + 1), 0, none⟩) 1 1) (S := (· = (w5.heap.size + 1))) (fun k (hk : k = (w5.heap.size + 1)) => .inl (Nat.le_trans (Nat.le_succ _) (Nat.le_of_eq hk.symm))) (lit_n _ _ _ _ hidl (two_new w5 (.cells #[.slice pa pn pc] 30) (.cells #[.int .u64 (p.id.toNat : Int)] 26))) hvx (by omega) (by simp)
         have cC := Lib.hid cC0
         clear cC0
         have vB := Lib.hid (lit_v _ _ w.heap.size p.vec _ _ (hvx.below ((((Below.refl w5.heap.size w5).alloc (Nat.le_refl _) (.cells #[.int .u64 (p.id.toNat : Int)] 26)).alloc ((Below.refl w5.heap.size w5).alloc (Nat.le_refl _) (.cells #[.int .u64 (p.id.toNat : Int)] 26)).size (.cells #[.slice pa pn pc] 30)).drew) (Nat.le_refl _)) (two_new w5 (.cells #[.int .u64 (p.id.toNat : Int)] 26) (.cells #[.slice pa pn pc] 30)))
         have vC := Lib.hid (lit_v _ _ w.heap.size p.vec _ _ (hvx.below ((((Below.refl w5.heap.size w5).alloc (Nat.le_refl _) (.cells #[.slice pa pn pc] 30)).alloc ((Below.refl w5.heap.size w5).alloc (Nat.le_refl _) (.cells #[.slice pa pn pc] 30)).size (.cells #[.int .u64 (p.id.toNat : Int)] 26)).drew) (Nat.le_refl _)) (two_old w5 (.cells #[.slice pa pn pc] 30) (.cells #[.int .u64 (p.id.toNat : Int)] 26)))
         have sB : ∀ k, (k = (w5.heap.size + 1) ∨ k < w.heap.size) → w5.heap.size ≤ k ∨ k < w.heap.size := fun k hk => hk.imp (fun e => Nat.le_trans (Nat.le_succ _) (Nat.le_of_eq e.symm)) id
         have sC : ∀ k, (k = w5.heap.size ∨ k < w.heap.size) → w5.heap.size ≤ k ∨ k < w.heap.size := fun k hk => hk.imp (fun e => Nat.le_of_eq e.symm) id
         have HsB := Lib.hid sB
         have HsC := Lib.hid sC
         clear sB sC
         go_region_held3 (fun wq => wq.cell? ⟨bo, 0, none⟩ = some (.int .u64 (p.id.toNat : Int)) ∧ wq.cell? ⟨bo, 1, none⟩ = some (.slice pa pn pc))
          (first | exact hcell _ ex | exact hcell _ (((((Below.refl w5.heap.size w5).alloc (Nat.le_refl _) (.cells #[.int .u64 (p.id.toNat : Int)] 26)).drew).block bo hbl).trans ex) | exact hcell _ (((((Below.refl w5.heap.size w5).alloc (Nat.le_refl _) (.cells #[.slice pa pn pc] 30)).drew).block bo hbl).trans ex) | exact hcell _ ((((((Below.refl w5.heap.size w5).alloc (Nat.le_refl _) (.cells #[.int .u64 (p.id.toNat : Int)] 26)).alloc ((Below.refl w5.heap.size w5).alloc (Nat.le_refl _) (.cells #[.int .u64 (p.id.toNat : Int)] 26)).size (.cells #[.slice pa pn pc] 30)).drew).block bo hbl).trans ex) | exact hcell _ ((((((Below.refl w5.heap.size w5).alloc (Nat.le_refl _) (.cells #[.slice pa pn pc] 30)).alloc ((Below.refl w5.heap.size w5).alloc (Nat.le_refl _) (.cells #[.slice pa pn pc] 30)).size (.cells #[.int .u64 (p.id.toNat : Int)] 26)).drew).block bo hbl).trans ex) | exact hcell _ ex6 | exact hcell _ ((((Below.refl w6.heap.size w6).alloc (Nat.le_refl _) (.cells #[.slice pa pn pc] 30)).block bo (Array.getElem?_eq_some_iff.1 ex6).1).trans ex6) | exact hcell _ ex7)
          (first
           | (go_at_call 58; (with_reducible refine cA.out.mono ?_); rintro e w6 ⟨rfl, h6, hs6, ex6, hbh6, hpw6, hvs6⟩; rw [encs1 _ hidl] at hs6)
           | (go_at_call 58; (with_reducible refine cB.out.mono ?_); rintro e w6 ⟨rfl, h6, hs6, ex6, hbh6, hpw6, hvs6⟩; rw [encs1 _ hidl] at hs6)
           | (go_at_call 58; (with_reducible refine cC.out.mono ?_); rintro e w6 ⟨rfl, h6, hs6, ex6, hbh6, hpw6, hvs6⟩; rw [encs1 _ hidl] at hs6)
           | (go_at_call 60; have cV := hs6.vecsStep ex6 hbg hbh6 ((Below.refl w6.heap.size w6).alloc (Nat.le_refl _) (.cells #[.slice pa pn pc] 30)) p.vec (.slice (some ⟨w6.heap.size, 0, none⟩) 1 1) (S := fun b => b = w6.heap.size ∨ b < w.heap.size) (hs6.free' ((Below.refl w6.heap.size w6).alloc (Nat.le_refl _) (.cells #[.slice pa pn pc] 30)) (fun k hk => hk.imp (fun e => Nat.le_of_eq e.symm) id)) (lit_v _ _ w.heap.size p.vec _ _ (hpw6.below ((Below.refl w6.heap.size w6).alloc (Nat.le_refl _) (.cells #[.slice pa pn pc] 30)) (Nat.le_refl _)) (heap_alloc_new w6 (.cells #[.slice pa pn pc] 30))) (by simp only [List.length_append]; omega) (by omega); (with_reducible refine cV.mono ?_); rintro e w7 ⟨rfl, h7, hs7, ex7⟩)
           | (go_at_call 60; have hv6 := hvs6 _ _ _ HsB.out vB.out; have cV := hs6.vecsStep ex6 hbg hbh6 (Below.refl w6.heap.size w6) p.vec _ hv6.2 hv6.1 (by simp only [List.length_append]; omega) (by omega); (with_reducible refine cV.mono ?_); rintro e w7 ⟨rfl, h7, hs7, ex7⟩)
           | (go_at_call 60; have hv6 := hvs6 _ _ _ HsC.out vC.out; have cV := hs6.vecsStep ex6 hbg hbh6 (Below.refl w6.heap.size w6) p.vec _ hv6.2 hv6.1 (by simp only [List.length_append]; omega) (by omega); (with_reducible refine cV.mono ?_); rintro e w7 ⟨rfl, h7, hs7, ex7⟩))
         all_goals
          go_wp2_with (first | ((with_reducible apply ugZ); rfl) | ((with_reducible (first | apply len_B | apply len_BB | apply len_N | apply len_V | apply len_VV | apply len_P | apply len_O | apply len_H)); assumption) | ((with_reducible refine stop_if kT ?_ ?_); rfl))
          go_roundg (n.ops.length - (j + 1) + 1)
          case measure => have := Hk2.out; omega
          case rel =>
           refine ⟨j + 1, h7, _, by omega, by omega, by go_num, hs7, ?_⟩
           rw [← HMF.out, Hd.out]
           simp [encOps]
        ·have e : M = F1 ++ secO n := by
          rw [← HMF.out, List.drop_of_length_le (by omega)]
          simp [encOps]
         go_wp2_with (first | ((with_reducible apply ugZ); rfl) | ((with_reducible (first | apply len_B | apply len_BB | apply len_N | apply len_V | apply len_VV | apply len_P | apply len_O | apply len_H)); assumption) | ((with_reducible refine stop_if kT ?_ ?_); rfl))
         go_meet
         case rel => exact ⟨h', by rw [← e]; exact hsr⟩
     case rest =>
      obtain ⟨hO, hsO⟩ := hcut
      obtain ⟨F2, hF2⟩ : ∃ F2, F2 = F1 ++ secO n := ⟨_, rfl⟩
      rw [← hF2] at hsO
      have hlF2 : F2.length ≤ 1780 := by have := secO_len hfair; rw [hF2, List.length_append]; omega
      have HF2 := Lib.hid hF2
      clear hF2
      obtain ⟨wO, rfl⟩ : ∃ wO, wO = wc := ⟨_, rfl⟩
      have hc13 := pack1_any wO bn n _ _ _ _ 13 (hNk wO hsO.bl) hsO.bx hfair.kind (by omega)
      rw [show ((2 ^ 13 : Nat) : Int) = 8192 from rfl] at hc13
      go_wp2_with (first | ((with_reducible apply ugZ); rfl) | ((with_reducible (first | apply len_B | apply len_BB | apply len_N | apply len_V | apply len_VV | apply len_P | apply len_O | apply len_H)); assumption) | ((with_reducible refine stop_if kT ?_ ?_); rfl))
      refine hc13.mono ?_
      rintro e wx13 ⟨rfl, rfl⟩
      clear hc13
      go_upto_if 115 with (fail)
      go_cut [] (fun wx => ∃ h, PkS w wx bn g n (.slice ap np cp) (.slice ao no co) (.slice av nv cv) (.slice ah nh ch) h (F2 ++ secV n))
      case first =>
       cases hf : hasF n.kind.toNat 13
       ·go_wp2_with (fail)
        go_meet
        case rel => exact ⟨hO, by unfold secV; rw [hf]; simpa using hsO⟩
       ·have hpV := h3.below hsO.bl (Nat.le_refl _)
        have cV := hsO.bx.c14
        go_wp2_with (first | ((with_reducible apply ugZ); rfl) | ((with_reducible (first | apply len_B | apply len_BB | apply len_N | apply len_V | apply len_VV | apply len_P | apply len_O | apply len_H)); assumption) | ((with_reducible refine stop_if kT ?_ ?_); rfl))
        refine Stop.go (build_v1 hpV fun q waV hq hbaV hltaV => ?_)
        go_wp2_with (first | ((with_reducible apply ugZ); rfl) | ((with_reducible (first | apply len_B | apply len_BB | apply len_N | apply len_V | apply len_VV | apply len_P | apply len_O | apply len_H)); assumption) | ((with_reducible refine stop_if kT ?_ ?_); rfl))
        refine (hsO.vecs [n.vec] q hbaV hltaV hq (by omega) (by simp) (by intro t ht; simp at ht; subst ht; have := hfair.vec; omega)).mono ?_
        rintro e wbV ⟨rfl, hbV, hsbV, _⟩
        rw [encVecs1] at hsbV
        clear hpV cV hq hbaV hltaV
        go_wp2_with (first | ((with_reducible apply ugZ); rfl) | ((with_reducible (first | apply len_B | apply len_BB | apply len_N | apply len_V | apply len_VV | apply len_P | apply len_O | apply len_H)); assumption) | ((with_reducible refine stop_if kT ?_ ?_); rfl))
        go_meet
        case rel => exact ⟨hbV, by unfold secV; rw [hf, if_pos rfl]; exact hsbV⟩
      case rest =>
       obtain ⟨hV, hsV⟩ := hcut
       obtain ⟨F3, hF3⟩ : ∃ F3, F3 = F2 ++ secV n := ⟨_, rfl⟩
       rw [← hF3] at hsV
       have hlF3 : F3.length ≤ 1870 := by have := secV_len hfair; rw [hF3, List.length_append]; omega
       have HF3 := Lib.hid hF3
       clear hF3
       obtain ⟨wV, rfl⟩ : ∃ wV, wV = wc := ⟨_, rfl⟩
       have hc14 := pack1_any wV bn n _ _ _ _ 14 (hNk wV hsV.bl) hsV.bx hfair.kind (by omega)
       rw [show ((2 ^ 14 : Nat) : Int) = 16384 from rfl] at hc14
       go_wp2_with (first | ((with_reducible apply ugZ); rfl) | ((with_reducible (first | apply len_B | apply len_BB | apply len_N | apply len_V | apply len_VV | apply len_P | apply len_O | apply len_H)); assumption) | ((with_reducible refine stop_if kT ?_ ?_); rfl))
       refine hc14.mono ?_
       rintro e wx14 ⟨rfl, rfl⟩
       clear hc14
       go_upto_if 122 with (fail)
       go_cut [] (fun wx => ∃ h, PkS w wx bn g n (.slice ap np cp) (.slice ao no co) (.slice av nv cv) (.slice ah nh ch) h (F3 ++ secH n))
       case first =>
        cases hf : hasF n.kind.toNat 14
        ·go_wp2_with (fail)
         go_meet
         case rel => exact ⟨hV, by unfold secH; rw [hf]; simpa using hsV⟩
        ·have hpH := h4.below hsV.bl (Nat.le_refl _)
         have cH := hsV.bx.c15
         have hllH : n.hits.length ≤ 9223372036854775807 := h4.length_le
         go_wp2_with (first | ((with_reducible apply ugZ); rfl) | ((with_reducible (first | apply len_B | apply len_BB | apply len_N | apply len_V | apply len_VV | apply len_P | apply len_O | apply len_H)); assumption) | ((with_reducible refine stop_if kT ?_ ?_); rfl))
         refine Stop.go (build_n1 n.hits.length (by omega) rfl fun q waH hq hbaH hltaH => ?_)
         go_wp2_with (first | ((with_reducible apply ugZ); rfl) | ((with_reducible (first | apply len_B | apply len_BB | apply len_N | apply len_V | apply len_VV | apply len_P | apply len_O | apply len_H)); assumption) | ((with_reducible refine stop_if kT ?_ ?_); rfl))
         refine (hsV.nums [UInt64.ofNat n.hits.length] q hbaH hltaH hq (by omega) (by simp)).mono ?_
         rintro e wbH ⟨rfl, hbH, hsbH, _⟩
         rw [encs1 _ (by omega)] at hsbH
         clear hpH cH hq hbaH hltaH
         have hpH := h4.below hsbH.bl (Nat.le_refl _)
         have cH := hsbH.bx.c15
         go_wp2_with (first | ((with_reducible apply ugZ); rfl) | ((with_reducible (first | apply len_B | apply len_BB | apply len_N | apply len_V | apply len_VV | apply len_P | apply len_O | apply len_H)); assumption) | ((with_reducible refine stop_if kT ?_ ?_); rfl))
         have hlP : (encHits n.hits).length ≤ 1760 := by have := encHits_len n.hits hfair.hits; have := hfair.sizes.2.2; omega
         have hlQ := enc_len10 n.hits.length (by omega)
         have H8H := Lib.hid hfair.hits
         have hsec : secH n = enc n.hits.length ++ encHits n.hits := by unfold secH; rw [hf, if_pos rfl]
         have HSEC := Lib.hid hsec
         clear hsec
         go_loopg [13, 133] (n.hits.length + 1) (fun k x9 i wr => ∃ (j : Nat) (h : Option Nat) (M : List UInt8), k = n.hits.length - j + 1 ∧ j ≤ n.hits.length ∧ i = .int .i64 j ∧ PkS w wr bn g n (.slice ap np cp) (.slice ao no co) (.slice av nv cv) (.slice ah nh ch) h M ∧ M ++ encHits (n.hits.drop j) = F3 ++ secH n)
         case atStart => exact ⟨0, hbH, _, by omega, by omega, rfl, hsbH, by rw [HSEC.out]; simp⟩
         case round =>
          obtain ⟨j, h', M, hk, hj, rfl, hsr, hMF⟩ := hrel
          have Hk2 := Lib.hid hk
          have HMF := Lib.hid hMF
          have hMl : M.length ≤ 4000 := by
           have := congrArg List.length hMF
           rw [HSEC.out] at this
           simp only [List.length_append] at this
           omega
          clear hk hMF hsbH hpH cH
          have hpr := h4.below hsr.bl (Nat.le_refl _)
          by_cases hlt : j < n.hits.length
          ·go_wp2_with (first | ((with_reducible apply ugZ); rfl) | ((with_reducible (first | apply len_B | apply len_BB | apply len_N | apply len_V | apply len_VV | apply len_P | apply len_O | apply len_H)); assumption) | ((with_reducible refine stop_if kT ?_ ?_); rfl))
           refine Stop.go (idx_H hpr rfl (by omega) (by omega) fun b5 o5 p pv hp hpv hcell0 hcell1 hcell2 => ?_)
           have hd : n.hits.drop j = p :: n.hits.drop (j + 1) := by
            obtain ⟨hl5, e5⟩ := List.getElem?_eq_some_iff.1 hp
            simp only [Int.toNat_natCast] at e5
            rw [← e5]
            exact List.drop_eq_getElem_cons hlt
           have hpb := H8H.out p (List.mem_of_getElem? hp)
           have Hd := Lib.hid hd
           clear hd hp
           obtain ⟨pa, pn, pc, rfl⟩ := Sl.shape hpv
           go_wp2_with (first | ((with_reducible apply ugZ); rfl) | ((with_reducible (first | apply len_B | apply len_BB | apply len_N | apply len_V | apply len_VV | apply len_P | apply len_O | apply len_H)); assumption) | ((with_reducible refine stop_if kT ?_ ?_); rfl))
           have hx5 := (Below.refl wr.heap.size wr).alloc (Nat.le_refl _) (.cells #[.int .u64 (p.id.toNat : Int), .int .u64 (p.dist.toNat : Int), .slice pa pn pc] 114)
           have hsx := hsr.alloc hx5
           have hvx := hpv.below hx5 (Nat.le_refl _)
           have ex := heap_alloc_new wr (.cells #[.int .u64 (p.id.toNat : Int), .int .u64 (p.dist.toNat : Int), .slice pa pn pc] 114)
           generalize wr.alloc (.cells #[.int .u64 (p.id.toNat : Int), .int .u64 (p.dist.toNat : Int), .slice pa pn pc] 114) = w5 at hx5 hsx hvx ex ⊢
           obtain ⟨bo, hbo⟩ : ∃ bo, bo = wr.heap.size := ⟨_, rfl⟩
           rw [← hbo] at ex ⊢
           have hbl : bo < w5.heap.size := (Array.getElem?_eq_some_iff.1 ex).1
           have hbg : bo ≠ g := by have := hsr.wf.wr.lt; omega
           have hbh : h' ≠ some bo := fun e => by have := hsr.wf.wr.row_lt _ e; omega
           have hcell : ∀ wq : World, wq.heap[bo]? = some (.cells #[.int .u64 (p.id.toNat : Int), .int .u64 (p.dist.toNat : Int), .slice pa pn pc] 114) → wq.cell? ⟨bo, 0, none⟩ = some (.int .u64 (p.id.toNat : Int)) ∧ wq.cell? ⟨bo, 1, none⟩ = some (.int .u64 (p.dist.toNat : Int)) ∧ wq.cell? ⟨bo, 2, none⟩ = some (.slice pa pn pc) := by
            intro wq e2
            simp [World.cell?, e2]
           have HBO := Lib.hid hbo
           clear hbo hcell0 hcell1 hcell2
           have hidl := p.id.toNat_lt
           have hel := enc_len10 p.id.toNat hidl
           have hdl := p.dist.toNat_lt
           have hdel := enc_len10 p.dist.toNat hdl
           have cA0 := hsx.numsStep ex hbg hbh (((Below.refl w5.heap.size w5).alloc (Nat.le_refl _) (.cells #[.int .u64 (p.id.toNat : Int), .int .u64 (p.dist.toNat : Int)] 26)).drew) [UInt64.ofNat p.id.toNat, UInt64.ofNat p.dist.toNat] (.slice (some ⟨w5.heap.size, 0, none⟩) 2 2) (S := (· = w5.heap.size)) (fun k (hk : k = w5.heap.size) => .inl (Nat.le_trans (Nat.le_refl _) (Nat.le_of_eq hk.symm))) (lit_n2 _ _ _ _ _ hidl hdl (heap_alloc_new w5 (.cells #[.int .u64 (p.id.toNat : Int), .int .u64 (p.dist.toNat : Int)] 26))) hvx (by omega) (by simp)
           have cA := Lib.hid cA0
           clear cA0
           have cB0 := hsx.numsStep ex hbg hbh ((((Below.refl w5.heap.size w5).alloc (Nat.le_refl _) (.cells #[.int .u64 (p.id.toNat : Int), .int .u64 (p.dist.toNat : Int)] 26)).alloc ((Below.refl w5.heap.size w5).alloc (Nat.le_refl _) (.cells #[.int .u64 (p.id.toNat : Int), .int .u64 (p.dist.toNat : Int)] 26)).size (.cells #[.slice pa pn pc] 30)).drew) [UInt64.ofNat p.id.toNat, UInt64.ofNat p.dist.toNat] (.slice (some ⟨w5.heap.size, 0, none⟩) 2 2) (S := (· = w5.heap.size)) (fun k (hk : k = w5.heap.size) => .inl (Nat.le_trans (Nat.le_refl _) (Nat.le_of_eq hk.symm))) (lit_n2 _ _ _ _ _ hidl hdl (two_old w5 (.cells #[.int .u64 (p.id.toNat : Int), .int .u64 (p.dist.toNat : Int)] 26) (.cells #[.slice pa pn pc] 30))) hvx (by omega) (by simp)
           have cB := Lib.hid cB0
           clear cB0
           have cC0 := hsx.numsStep ex hbg hbh ((((Below.refl w5.heap.size w5).alloc (Nat.le_refl _) (.cells #[.slice pa pn pc] 30)).alloc ((Below.refl w5.heap.size w5).alloc (Nat.le_refl _) (.cells #[.slice pa pn pc] 30)).size (.cells #[.int .u64 (p.id.toNat : Int), .int .u64 (p.dist.toNat : Int)] 26)).drew) [UInt64.ofNat p.id.toNat, UInt64.ofNat p.dist.toNat] (.slice (some ⟨(w5.heap.size + 1), 0, none⟩) 2 2) (S := (· = (w5.heap.size + 1))) (fun k (hk : k = (w5.heap.size + 1)) => .inl (Nat.le_trans (Nat.le_succ _) (Nat.le_of_eq hk.symm))) (lit_n2 _ _ _ _ _ hidl hdl (two_new w5 (.cells #[.slice pa pn pc] 30) (.cells #[.int .u64 (p.id.toNat : Int), .int .u64 (p.dist.toNat : Int)] 26))) hvx (by omega) (by simp)
           have cC := Lib.hid cC0
           clear cC0
           have vB := Lib.hid (lit_v _ _ w.heap.size p.vec _ _ (hvx.below ((((Below.refl w5.heap.size w5).alloc (Nat.le_refl _) (.cells #[.int .u64 (p.id.toNat : Int), .int .u64 (p.dist.toNat : Int)] 26)).alloc ((Below.refl w5.heap.size w5).alloc (Nat.le_refl _) (.cells #[.int .u64 (p.id.toNat : Int), .int .u64 (p.dist.toNat : Int)] 26)).size (.cells #[.slice pa pn pc] 30)).drew) (Nat.le_refl _)) (two_new w5 (.cells #[.int .u64 (p.id.toNat : Int), .int .u64 (p.dist.toNat : Int)] 26) (.cells #[.slice pa pn pc] 30)))
           have vC := Lib.hid (lit_v _ _ w.heap.size p.vec _ _ (hvx.below ((((Below.refl w5.heap.size w5).alloc (Nat.le_refl _) (.cells #[.slice pa pn pc] 30)).alloc ((Below.refl w5.heap.size w5).alloc (Nat.le_refl _) (.cells #[.slice pa pn pc] 30)).size (.cells #[.int .u64 (p.id.toNat : Int), .int .u64 (p.dist.toNat : Int)] 26)).drew) (Nat.le_refl _)) (two_old w5 (.cells #[.slice pa pn pc] 30) (.cells #[.int .u64 (p.id.toNat : Int), .int .u64 (p.dist.toNat : Int)] 26)))
           have sB : ∀ k, (k = (w5.heap.size + 1) ∨ k < w.heap.size) → w5.heap.size ≤ k ∨ k < w.heap.size := fun k hk => hk.imp (fun e => Nat.le_trans (Nat.le_succ _) (Nat.le_of_eq e.symm)) id
           have sC : ∀ k, (k = w5.heap.size ∨ k < w.heap.size) → w5.heap.size ≤ k ∨ k < w.heap.size := fun k hk => hk.imp (fun e => Nat.le_of_eq e.symm) id
           have HsB := Lib.hid sB
           have HsC := Lib.hid sC
           clear sB sC
           go_region_held3 (fun wq => wq.cell? ⟨bo, 0, none⟩ = some (.int .u64 (p.id.toNat : Int)) ∧ wq.cell? ⟨bo, 1, none⟩ = some (.int .u64 (p.dist.toNat : Int)) ∧ wq.cell? ⟨bo, 2, none⟩ = some (.slice pa pn pc))
            (first | exact hcell _ ex | exact hcell _ (((((Below.refl w5.heap.size w5).alloc (Nat.le_refl _) (.cells #[.int .u64 (p.id.toNat : Int), .int .u64 (p.dist.toNat : Int)] 26)).drew).block bo hbl).trans ex) | exact hcell _ (((((Below.refl w5.heap.size w5).alloc (Nat.le_refl _) (.cells #[.slice pa pn pc] 30)).drew).block bo hbl).trans ex) | exact hcell _ ((((((Below.refl w5.heap.size w5).alloc (Nat.le_refl _) (.cells #[.int .u64 (p.id.toNat : Int), .int .u64 (p.dist.toNat : Int)] 26)).alloc ((Below.refl w5.heap.size w5).alloc (Nat.le_refl _) (.cells #[.int .u64 (p.id.toNat : Int), .int .u64 (p.dist.toNat : Int)] 26)).size (.cells #[.slice pa pn pc] 30)).drew).block bo hbl).trans ex) | exact hcell _ ((((((Below.refl w5.heap.size w5).alloc (Nat.le_refl _) (.cells #[.slice pa pn pc] 30)).alloc ((Below.refl w5.heap.size w5).alloc (Nat.le_refl _) (.cells #[.slice pa pn pc] 30)).size (.cells #[.int .u64 (p.id.toNat : Int), .int .u64 (p.dist.toNat : Int)] 26)).drew).block bo hbl).trans ex) | exact hcell _ ex6 | exact hcell _ ((((Below.refl w6.heap.size w6).alloc (Nat.le_refl _) (.cells #[.slice pa pn pc] 30)).block bo (Array.getElem?_eq_some_iff.1 ex6).1).trans ex6) | exact hcell _ ex7)
            (first
             | (go_at_call 58; (with_reducible refine cA.out.mono ?_); rintro e w6 ⟨rfl, h6, hs6, ex6, hbh6, hpw6, hvs6⟩; rw [encs2 _ _ hidl hdl] at hs6)
             | (go_at_call 58; (with_reducible refine cB.out.mono ?_); rintro e w6 ⟨rfl, h6, hs6, ex6, hbh6, hpw6, hvs6⟩; rw [encs2 _ _ hidl hdl] at hs6)
             | (go_at_call 58; (with_reducible refine cC.out.mono ?_); rintro e w6 ⟨rfl, h6, hs6, ex6, hbh6, hpw6, hvs6⟩; rw [encs2 _ _ hidl hdl] at hs6)
             | (go_at_call 60; have cV := hs6.vecsStep ex6 hbg hbh6 ((Below.refl w6.heap.size w6).alloc (Nat.le_refl _) (.cells #[.slice pa pn pc] 30)) p.vec (.slice (some ⟨w6.heap.size, 0, none⟩) 1 1) (S := fun b => b = w6.heap.size ∨ b < w.heap.size) (hs6.free' ((Below.refl w6.heap.size w6).alloc (Nat.le_refl _) (.cells #[.slice pa pn pc] 30)) (fun k hk => hk.imp (fun e => Nat.le_of_eq e.symm) id)) (lit_v _ _ w.heap.size p.vec _ _ (hpw6.below ((Below.refl w6.heap.size w6).alloc (Nat.le_refl _) (.cells #[.slice pa pn pc] 30)) (Nat.le_refl _)) (heap_alloc_new w6 (.cells #[.slice pa pn pc] 30))) (by simp only [List.length_append]; omega) (by omega); (with_reducible refine cV.mono ?_); rintro e w7 ⟨rfl, h7, hs7, ex7⟩)
             | (go_at_call 60; have hv6 := hvs6 _ _ _ HsB.out vB.out; have cV := hs6.vecsStep ex6 hbg hbh6 (Below.refl w6.heap.size w6) p.vec _ hv6.2 hv6.1 (by simp only [List.length_append]; omega) (by omega); (with_reducible refine cV.mono ?_); rintro e w7 ⟨rfl, h7, hs7, ex7⟩)
             | (go_at_call 60; have hv6 := hvs6 _ _ _ HsC.out vC.out; have cV := hs6.vecsStep ex6 hbg hbh6 (Below.refl w6.heap.size w6) p.vec _ hv6.2 hv6.1 (by simp only [List.length_append]; omega) (by omega); (with_reducible refine cV.mono ?_); rintro e w7 ⟨rfl, h7, hs7, ex7⟩))
           all_goals
            go_wp2_with (first | ((with_reducible apply ugZ); rfl) | ((with_reducible (first | apply len_B | apply len_BB | apply len_N | apply len_V | apply len_VV | apply len_P | apply len_O | apply len_H)); assumption) | ((with_reducible refine stop_if kT ?_ ?_); rfl))
            go_roundg (n.hits.length - (j + 1) + 1)
            case measure => have := Hk2.out; omega
            case rel =>
             refine ⟨j + 1, h7, _, by omega, by omega, by go_num, hs7, ?_⟩
             rw [← HMF.out, Hd.out]
             simp [encHits]
          ·have e : M = F3 ++ secH n := by
            rw [← HMF.out, List.drop_of_length_le (by omega)]
            simp [encHits]
           go_wp2_with (first | ((with_reducible apply ugZ); rfl) | ((with_reducible (first | apply len_B | apply len_BB | apply len_N | apply len_V | apply len_VV | apply len_P | apply len_O | apply len_H)); assumption) | ((with_reducible refine stop_if kT ?_ ?_); rfl))
           go_meet
           case rel => exact ⟨h', by rw [← e]; exact hsr⟩
       case rest =>
        obtain ⟨hH, hsH⟩ := hcut
        obtain ⟨F4, hF4⟩ : ∃ F4, F4 = F3 ++ secH n := ⟨_, rfl⟩
        rw [← hF4] at hsH
        have hlF4 : F4.length ≤ 3640 := by have := secH_len hfair; rw [hF4, List.length_append]; omega
        have HF4 := Lib.hid hF4
        clear hF4
        obtain ⟨wH, rfl⟩ : ∃ wH, wH = wc := ⟨_, rfl⟩
        go_wp2_with (first | ((with_reducible apply ugZ); rfl) | ((with_reducible (first | apply len_B | apply len_BB | apply len_N | apply len_V | apply len_VV | apply len_P | apply len_O | apply len_H)); assumption) | ((with_reducible refine stop_if kT ?_ ?_); rfl))
        refine (wbytes_any wH g hH F4 hsH.wf.wr (by omega)).mono ?_
        rintro e w8 ⟨q8, rfl, hq8, hb8⟩
        have hB8 := below_on hsH.bl hb8 hsH.bl.size
        have hq8s := hq8.sl'
        go_wp2_with (first | ((with_reducible apply ugZ); rfl) | ((with_reducible (first | apply len_B | apply len_BB | apply len_N | apply len_V | apply len_VV | apply len_P | apply len_O | apply len_H)); assumption) | ((with_reducible refine stop_if kT ?_ ?_); rfl))
        refine Stop.go (build_BB (S := fun b => wH.heap.size ≤ b) [F4] [q8] rfl rfl ⟨[q8], [], rfl, ⟨_, rfl, hq8s⟩, rfl⟩ (by simp) fun q9 w9 k1 k2 k3 k4 => ?_)
        have hB9 := hB8.grown0 k2 hB8.size
        have hq9 := k1.sl (S' := fun _ => True) (fun _ _ _ => trivial) (fun _ _ => trivial)
        have hB9n : Nib w9 := hB.below hB9 (Nat.le_refl _)
        have hF4 : F4 = encNote n := by rw [HF4.out, HF3.out, HF2.out, HF1.out, H0.out, encNote]
        go_wp2_with (first | ((with_reducible apply ugZ); rfl) | ((with_reducible (first | apply len_B | apply len_BB | apply len_N | apply len_V | apply len_VV | apply len_P | apply len_O | apply len_H)); assumption) | ((with_reducible refine stop_if kT ?_ ?_); rfl))
        refine (sframe_any w9 _ [F4] q9 hB9n hq9 (by simp) (by simp; omega)).mono ?_
        rintro e w10 ⟨v, rfl, hv, hb10⟩
        go_wp2_with (first | ((with_reducible apply ugZ); rfl) | ((with_reducible (first | apply len_B | apply len_BB | apply len_N | apply len_V | apply len_VV | apply len_P | apply len_O | apply len_H)); assumption) | ((with_reducible refine stop_if kT ?_ ?_); rfl))
        go_ret2
        rw [hF4] at hv
        refine ⟨v, rfl, ?_, below_on hB9 hb10 hB9.size⟩
        have hv2 : OwnB w10 w9.heap.size (frame (encNote n)) v := by simpa using hv
        exact hv2.rebase fun b hb => Nat.le_trans hB9.size (hv2.ge b hb).1
end Go.Proofs.YtjkffjngamagkaaDoor
