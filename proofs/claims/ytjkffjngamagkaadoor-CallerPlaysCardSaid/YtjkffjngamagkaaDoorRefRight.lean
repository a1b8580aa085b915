/- armillaryref12: Right. -/
import Derived.Test.YtjkffjngamagkaaDoorRefRight0
import Derived.Test.YtjkffjngamagkaaDoorPackE
import Derived.Deep.DeepCutAuto
namespace Go.Arm
open Go.RowKit
def lastOf : Option Int → List Int → Option Int
 | q, [] => q
 | _, p :: l => lastOf (some p) l
theorem partsFrom_snoc : ∀ (l : List Int) (q : Option Int) (p : Int), partsFrom q (l ++ [p]) = (partsFrom q l && partOk (lastOf q l) p)
 | [], q, p => by simp [partsFrom, lastOf]
 | x :: l, q, p => by
  rw [List.cons_append, partsFrom_cons, partsFrom_cons, partsFrom_snoc l, lastOf, Bool.and_assoc]
theorem lastOf_snoc : ∀ (l : List Int) (q : Option Int) (p : Int), lastOf q (l ++ [p]) = some p
 | [], _, _ => rfl
 | x :: l, q, p => by rw [List.cons_append, lastOf, lastOf_snoc l]
theorem lastOf_take (l : List Int) (j : Nat) (y : Int) (h : l[j]? = some y) : lastOf none (l.take (j + 1)) = some y := by
 rw [take_snoc l j y h, lastOf_snoc]
theorem all_take_step {α : Type} (f : α → Bool) (l : List α) (j : Nat) (y : α) (h : l[j]? = some y) : (l.take (j + 1)).all f = ((l.take j).all f && f y) := by
 rw [take_snoc l j y h, List.all_append]; simp
theorem parts_take_step (l : List Int) (j : Nat) (y : Int) (h : l[j]? = some y) : partsFrom none (l.take (j + 1)) = (partsFrom none (l.take j) && partOk (lastOf none (l.take j)) y) := by
 rw [take_snoc l j y h, partsFrom_snoc]
theorem u64_conv (x : Int) (h : 0 ≤ x) (h2 : x ≤ 9223372036854775807) : IntKind.u64.wrap x = ((x.toNat : Nat) : Int) := by
 simp [IntKind.wrap, IntKind.signed, IntKind.bits]; omega
end Go.Arm
namespace Go.Proofs.YtjkffjngamagkaaDoor
open Go Go.RowKit Go.Arm
theorem Sl.len_is {α : Type} [Rep α] {w : World} {S : Nat → Prop} {l : List α} {a : Option Addr} {n c : Nat} (h : Sl w S l (.slice a n c)) : n = l.length := by
 obtain ⟨_, _, _, e, _⟩ := h
 cases e
 rfl
set_option maxHeartbeats 16000000 in
set_option maxRecDepth 100000 in
theorem rright_any (w : World) (S : Nat → Prop) (n : NoteR) (V : Value) (hV : Nt w S n V) :
  Calls Tryd.prog 25 #[V] w fun e w' => e = .returned (.bool (nright n)) ∧ Below w.heap.size w w' := by
 have hV0 := hV.old
 clear hV
 rw [← rright_eq]
 obtain ⟨R, hR⟩ : ∃ R, R = rright n := ⟨_, rfl⟩
 rw [← hR]
 unfold rright at hR
 have HR := Lib.hid hR
 clear hR
 obtain ⟨vp, vo, vv, vh, rfl, h1, h2, h3, h4, i7, i8, i9, i10⟩ := hV0
 obtain ⟨ap, np, cp, rfl⟩ := Sl.shape h1
 obtain ⟨ao, no, co, rfl⟩ := Sl.shape h2
 obtain ⟨av, nv, cv, rfl⟩ := Sl.shape h3
 obtain ⟨ah, nh, ch, rfl⟩ := Sl.shape h4
 obtain rfl := Sl.len_is h1
 obtain rfl := Sl.len_is h2
 obtain rfl := Sl.len_is h3
 obtain rfl := Sl.len_is h4
 have hm1 := h1.length_le
 have hm2 := h2.length_le
 have hm3 := h3.length_le
 have hm4 := h4.length_le
 unfold maxLen at hm1 hm2 hm3 hm4
 unfold I64 at i7 i8 i9 i10
 have hk := n.kind.toNat_lt
 go_enter Tryd.func25, Tryd.ntmps25
 go_wp2_with (first | ((with_reducible apply ugZ); rfl) | ((with_reducible (first | apply len_B | apply len_BB | apply len_N | apply len_V | apply len_VV | apply len_P | apply len_O | apply len_H)); assumption) | ((with_reducible refine stop_if kL ?_ ?_); rfl))
 refine Stop.go (box_R (n := n) rfl fun b w1 hb hbg ha1 => ?_)
 have p1 := h1.below ha1 (Nat.le_refl _)
 have p2 := h2.below ha1 (Nat.le_refl _)
 have p3 := h3.below ha1 (Nat.le_refl _)
 have p4 := h4.below ha1 (Nat.le_refl _)
 clear h1 h2 h3 h4
 have P1 := Lib.hid p1
 have P2 := Lib.hid p2
 have P4 := Lib.hid p4
 clear p1 p2 p4
 obtain ⟨c0, c1, c2, c3, c4, c5, c6, c7, c8, c9, c10, c11, c12, c13, c14, c15⟩ := hb.cells
 go_wp2_with (first | ((with_reducible apply ugZ); rfl) | ((with_reducible (first | apply len_B | apply len_BB | apply len_N | apply len_V | apply len_VV | apply len_P | apply len_O | apply len_H)); assumption) | ((with_reducible refine stop_if kK ?_ ?_); rfl))
 refine (rname_any w1 n.kind.toNat n.kind.toNat_lt).mono ?_
 rintro e w2 ⟨rfl, rfl⟩
 obtain ⟨nm, hnm⟩ : ∃ nm : ByteArray, nm = ⟨(sortName n.kind.toNat).toArray⟩ := ⟨_, rfl⟩
 obtain ⟨nl, hnl⟩ : ∃ nl : ByteArray, nl = ⟨(sortLets n.kind.toNat).toArray⟩ := ⟨_, rfl⟩
 rw [← hnm, ← hnl]
 clear hnl
 have Hn := Lib.hid hnm
 clear hnm
 by_cases hnE : sortName n.kind.toNat = []
 ·have hn0 : nm = ⟨#[]⟩ := by rw [Hn.out, hnE]
  subst hn0
  have e : R = false := by rw [HR.out, hnE]; rfl
  subst e
  clear HR hnE Hn
  go_wp2_with (fail)
  go_ret
  exact ⟨rfl, ha1⟩
 have hn0 : nm.toList.isEmpty = false := by
  rw [Hn.out, ByteArray.toList_mk]
  simp [hnE]
 have hne : (sortName n.kind.toNat).isEmpty = false := by simp [hnE]
 have e := HR.out
 rw [hne] at e
 simp only [Bool.not_false, Bool.true_and] at e
 have HR := Lib.hid e
 clear e hne hnE Hn
 by_cases s7 : n.k < 0
 ·have e : R = false := by
   rw [HR.out, rsigns, decide_eq_false (show ¬ 0 ≤ n.k by omega)]; simp
  subst e
  clear HR
  go_wp2_with (fail)
  go_ret
  exact ⟨rfl, ha1⟩
 by_cases s8 : n.ef < 0
 ·have e : R = false := by
   rw [HR.out, rsigns, decide_eq_false (show ¬ 0 ≤ n.ef by omega)]; simp
  subst e
  clear HR
  go_wp2_with (fail)
  go_ret
  exact ⟨rfl, ha1⟩
 by_cases s9 : n.code < 0
 ·have e : R = false := by
   rw [HR.out, rsigns, decide_eq_false (show ¬ 0 ≤ n.code by omega)]; simp
  subst e
  clear HR
  go_wp2_with (fail)
  go_ret
  exact ⟨rfl, ha1⟩
 by_cases s10 : n.who < 0
 ·have e : R = false := by
   rw [HR.out, rsigns, decide_eq_false (show ¬ 0 ≤ n.who by omega)]; simp
  subst e
  clear HR
  go_wp2_with (fail)
  go_ret
  exact ⟨rfl, ha1⟩
 have e := HR.out
 rw [rsigns, decide_eq_true (show 0 ≤ n.k by omega), decide_eq_true (show 0 ≤ n.ef by omega), decide_eq_true (show 0 ≤ n.code by omega), decide_eq_true (show 0 ≤ n.who by omega)] at e
 simp only [Bool.and_self, Bool.true_and] at e
 have HR := Lib.hid e
 clear e
 obtain ⟨z7, hz7⟩ : ∃ z : Nat, n.k = (z : Int) := ⟨n.k.toNat, by omega⟩
 have zb7 : z7 ≤ 9223372036854775807 := by omega
 have zt7 : n.k.toNat = z7 := by omega
 rw [hz7] at c8 s7
 obtain ⟨z8, hz8⟩ : ∃ z : Nat, n.ef = (z : Int) := ⟨n.ef.toNat, by omega⟩
 have zb8 : z8 ≤ 9223372036854775807 := by omega
 have zt8 : n.ef.toNat = z8 := by omega
 rw [hz8] at c9 s8
 obtain ⟨z9, hz9⟩ : ∃ z : Nat, n.code = (z : Int) := ⟨n.code.toNat, by omega⟩
 have zb9 : z9 ≤ 9223372036854775807 := by omega
 have zt9 : n.code.toNat = z9 := by omega
 rw [hz9] at c10 s9
 obtain ⟨z10, hz10⟩ : ∃ z : Nat, n.who = (z : Int) := ⟨n.who.toNat, by omega⟩
 have zb10 : z10 ≤ 9223372036854775807 := by omega
 have zt10 : n.who.toNat = z10 := by omega
 rw [hz10] at c11 s10
 clear i7 i8 i9 i10
 obtain ⟨B0, hB0⟩ : ∃ B, B = numR n.kind.toNat 0 n.txn.toNat 18446744073709551615 := ⟨_, rfl⟩
 obtain ⟨B1, hB1⟩ : ∃ B, B = numR n.kind.toNat 1 n.batch.toNat 18446744073709551615 := ⟨_, rfl⟩
 obtain ⟨B2, hB2⟩ : ∃ B, B = numR n.kind.toNat 2 n.stamp.toNat 1099511627776 := ⟨_, rfl⟩
 obtain ⟨B3, hB3⟩ : ∃ B, B = numR n.kind.toNat 3 n.after.toNat 1099511627776 := ⟨_, rfl⟩
 obtain ⟨B4, hB4⟩ : ∃ B, B = numR n.kind.toNat 4 n.mark.toNat 1099511627776 := ⟨_, rfl⟩
 obtain ⟨B5, hB5⟩ : ∃ B, B = numR n.kind.toNat 5 n.query.toNat 18446744073709551615 := ⟨_, rfl⟩
 obtain ⟨B6, hB6⟩ : ∃ B, B = numR n.kind.toNat 6 n.id.toNat 1099511627776 := ⟨_, rfl⟩
 obtain ⟨B7, hB7⟩ : ∃ B, B = numR n.kind.toNat 7 n.k.toNat 16 := ⟨_, rfl⟩
 obtain ⟨B8, hB8⟩ : ∃ B, B = numR n.kind.toNat 8 n.ef.toNat 256 := ⟨_, rfl⟩
 obtain ⟨B9, hB9⟩ : ∃ B, B = numR n.kind.toNat 9 n.code.toNat 13 := ⟨_, rfl⟩
 obtain ⟨B10, hB10⟩ : ∃ B, B = numR n.kind.toNat 10 n.who.toNat 15 := ⟨_, rfl⟩
 have hRN : rnums n = (B0 && B1 && B2 && B3 && B4 && B5 && B6 && B7 && B8 && B9 && B10) := by rw [hB0, hB1, hB2, hB3, hB4, hB5, hB6, hB7, hB8, hB9, hB10]; rfl
 have HRN := Lib.hid hRN
 have q0 := num12_any w1 n.kind.toNat 0 n.txn.toNat 18446744073709551615 116 ((n.txn.toNat : Int)) 18446744073709551615 n.kind.toNat_lt (by decide) (by decide) (rfl) (by decide)
 rw [← hB0] at q0
 have Q0 := Lib.hid q0
 have q1 := num12_any w1 n.kind.toNat 1 n.batch.toNat 18446744073709551615 98 ((n.batch.toNat : Int)) 18446744073709551615 n.kind.toNat_lt (by decide) (by decide) (rfl) (by decide)
 rw [← hB1] at q1
 have Q1 := Lib.hid q1
 have q2 := num12_any w1 n.kind.toNat 2 n.stamp.toNat 1099511627776 115 ((n.stamp.toNat : Int)) 1099511627776 n.kind.toNat_lt (by decide) (by decide) (rfl) (by decide)
 rw [← hB2] at q2
 have Q2 := Lib.hid q2
 have q3 := num12_any w1 n.kind.toNat 3 n.after.toNat 1099511627776 97 ((n.after.toNat : Int)) 1099511627776 n.kind.toNat_lt (by decide) (by decide) (rfl) (by decide)
 rw [← hB3] at q3
 have Q3 := Lib.hid q3
 have q4 := num12_any w1 n.kind.toNat 4 n.mark.toNat 1099511627776 109 ((n.mark.toNat : Int)) 1099511627776 n.kind.toNat_lt (by decide) (by decide) (rfl) (by decide)
 rw [← hB4] at q4
 have Q4 := Lib.hid q4
 have q5 := num12_any w1 n.kind.toNat 5 n.query.toNat 18446744073709551615 113 ((n.query.toNat : Int)) 18446744073709551615 n.kind.toNat_lt (by decide) (by decide) (rfl) (by decide)
 rw [← hB5] at q5
 have Q5 := Lib.hid q5
 have q6 := num12_any w1 n.kind.toNat 6 n.id.toNat 1099511627776 105 ((n.id.toNat : Int)) 1099511627776 n.kind.toNat_lt (by decide) (by decide) (rfl) (by decide)
 rw [← hB6] at q6
 have Q6 := Lib.hid q6
 have q7 := num12_any w1 n.kind.toNat 7 n.k.toNat 16 107 ((z7 : Int)) 16 n.kind.toNat_lt (by decide) (by decide) ((by rw [zt7])) (by decide)
 rw [← hB7] at q7
 have Q7 := Lib.hid q7
 have q8 := num12_any w1 n.kind.toNat 8 n.ef.toNat 256 101 ((z8 : Int)) 256 n.kind.toNat_lt (by decide) (by decide) ((by rw [zt8])) (by decide)
 rw [← hB8] at q8
 have Q8 := Lib.hid q8
 have q9 := num12_any w1 n.kind.toNat 9 n.code.toNat 13 99 ((z9 : Int)) 13 n.kind.toNat_lt (by decide) (by decide) ((by rw [zt9])) (by decide)
 rw [← hB9] at q9
 have Q9 := Lib.hid q9
 have q10 := num12_any w1 n.kind.toNat 10 n.who.toNat 15 119 ((z10 : Int)) 15 n.kind.toNat_lt (by decide) (by decide) ((by rw [zt10])) (by decide)
 rw [← hB10] at q10
 have Q10 := Lib.hid q10
 clear hz7 hz8 hz9 hz10 zt7 zt8 zt9 zt10 hRN hB0 q0 hB1 q1 hB2 q2 hB3 q3 hB4 q4 hB5 q5 hB6 q6 hB7 q7 hB8 q8 hB9 q9 hB10 q10
 go_upto_region 5 with (fail)
 go_cut [6] (fun x6 wx => x6 = .bool (rnums n) ∧ wx = w1)
 case first =>
  as_aux_lemma =>
   go_step
   try simp only [List.append_eq, List.cons_append, List.nil_append]
   go_wp2_with (fail)
   refine Q0.out.mono ?_
   rintro e wq ⟨rfl, rfl⟩
   cases B0
   ·as_aux_lemma =>
     go_wp2_with (fail)
     go_meet
     case rel => exact ⟨by rw [HRN.out]; rfl, rfl⟩
   go_wp2_with (fail)
   refine Q1.out.mono ?_
   rintro e wq ⟨rfl, rfl⟩
   cases B1
   ·as_aux_lemma =>
     go_wp2_with (fail)
     go_meet
     case rel => exact ⟨by rw [HRN.out]; rfl, rfl⟩
   go_wp2_with (fail)
   refine Q2.out.mono ?_
   rintro e wq ⟨rfl, rfl⟩
   cases B2
   ·as_aux_lemma =>
     go_wp2_with (fail)
     go_meet
     case rel => exact ⟨by rw [HRN.out]; rfl, rfl⟩
   go_wp2_with (fail)
   refine Q3.out.mono ?_
   rintro e wq ⟨rfl, rfl⟩
   cases B3
   ·as_aux_lemma =>
     go_wp2_with (fail)
     go_meet
     case rel => exact ⟨by rw [HRN.out]; rfl, rfl⟩
   go_wp2_with (fail)
   refine Q4.out.mono ?_
   rintro e wq ⟨rfl, rfl⟩
   cases B4
   ·as_aux_lemma =>
     go_wp2_with (fail)
     go_meet
     case rel => exact ⟨by rw [HRN.out]; rfl, rfl⟩
   go_wp2_with (fail)
   refine Q5.out.mono ?_
   rintro e wq ⟨rfl, rfl⟩
   cases B5
   ·as_aux_lemma =>
     go_wp2_with (fail)
     go_meet
     case rel => exact ⟨by rw [HRN.out]; rfl, rfl⟩
   go_wp2_with (fail)
   refine Q6.out.mono ?_
   rintro e wq ⟨rfl, rfl⟩
   cases B6
   ·as_aux_lemma =>
     go_wp2_with (fail)
     go_meet
     case rel => exact ⟨by rw [HRN.out]; rfl, rfl⟩
   go_wp2_with (fail)
   refine Q7.out.mono ?_
   rintro e wq ⟨rfl, rfl⟩
   cases B7
   ·as_aux_lemma =>
     go_wp2_with (fail)
     go_meet
     case rel => exact ⟨by rw [HRN.out]; rfl, rfl⟩
   go_wp2_with (fail)
   refine Q8.out.mono ?_
   rintro e wq ⟨rfl, rfl⟩
   cases B8
   ·as_aux_lemma =>
     go_wp2_with (fail)
     go_meet
     case rel => exact ⟨by rw [HRN.out]; rfl, rfl⟩
   go_wp2_with (fail)
   refine Q9.out.mono ?_
   rintro e wq ⟨rfl, rfl⟩
   cases B9
   ·as_aux_lemma =>
     go_wp2_with (fail)
     go_meet
     case rel => exact ⟨by rw [HRN.out]; rfl, rfl⟩
   go_wp2_with (fail)
   refine Q10.out.mono ?_
   rintro e wq ⟨rfl, rfl⟩
   cases B10
   ·as_aux_lemma =>
     go_wp2_with (fail)
     go_meet
     case rel => exact ⟨by rw [HRN.out]; rfl, rfl⟩
   go_wp2_with (fail)
   go_meet
   case rel => exact ⟨by rw [HRN.out]; rfl, rfl⟩
 case rest =>
  obtain ⟨rfl, rfl⟩ := hcut
  clear HRN Q0 Q1 Q2 Q3 Q4 Q5 Q6 Q7 Q8 Q9 Q10
  obtain ⟨RN, hRN⟩ : ∃ RN, RN = rnums n := ⟨_, rfl⟩
  rw [← hRN]
  have HRN := Lib.hid hRN
  clear hRN
  obtain ⟨B11, hB11⟩ : ∃ B, B = numR n.kind.toNat 11 n.parts.length 4 := ⟨_, rfl⟩
  obtain ⟨B12, hB12⟩ : ∃ B, B = numR n.kind.toNat 12 n.ops.length 16 := ⟨_, rfl⟩
  obtain ⟨B13, hB13⟩ : ∃ B, B = numR n.kind.toNat 13 n.vec.length 8 := ⟨_, rfl⟩
  obtain ⟨B14, hB14⟩ : ∃ B, B = numR n.kind.toNat 14 n.hits.length 16 := ⟨_, rfl⟩
  obtain ⟨BV, hBV⟩ : ∃ B, B = vecBare n.vec := ⟨_, rfl⟩
  have hRS : rsizes n = (B11 && B12 && B13 && B14 && BV) := by rw [hB11, hB12, hB13, hB14, hBV]; rfl
  have HRS := Lib.hid hRS
  have q11 := num12_any wc n.kind.toNat 11 n.parts.length 4 112 (n.parts.length : Int) 4 n.kind.toNat_lt (by decide) (by decide) rfl (by decide)
  rw [← hB11] at q11
  have Q11 := Lib.hid q11
  have q12 := num12_any wc n.kind.toNat 12 n.ops.length 16 111 (n.ops.length : Int) 16 n.kind.toNat_lt (by decide) (by decide) rfl (by decide)
  rw [← hB12] at q12
  have Q12 := Lib.hid q12
  have q13 := num12_any wc n.kind.toNat 13 n.vec.length 8 118 (n.vec.length : Int) 8 n.kind.toNat_lt (by decide) (by decide) rfl (by decide)
  rw [← hB13] at q13
  have Q13 := Lib.hid q13
  have q14 := num12_any wc n.kind.toNat 14 n.hits.length 16 104 (n.hits.length : Int) 16 n.kind.toNat_lt (by decide) (by decide) rfl (by decide)
  rw [← hB14] at q14
  have Q14 := Lib.hid q14
  have qv := vec12_any wc _ n.vec _ p3
  rw [← hBV] at qv
  have QV := Lib.hid qv
  clear hRS hBV qv p3 hB11 q11 hB12 q12 hB13 q13 hB14 q14
  go_upto_region 6 with (fail)
  go_cut [6] (fun x6 wx' => x6 = .bool (RN && rsizes n) ∧ wx' = wc)
  case first =>
   as_aux_lemma =>
    cases RN
    ·go_step
     try simp only [List.append_eq, List.cons_append, List.nil_append]
     go_wp2_with (fail)
     go_meet
     case rel => exact ⟨rfl, rfl⟩
    go_step
    try simp only [List.append_eq, List.cons_append, List.nil_append]
    go_wp2_with (fail)
    refine Q11.out.mono ?_
    rintro e wq ⟨rfl, rfl⟩
    cases B11
    ·as_aux_lemma =>
      go_wp2_with (fail)
      go_meet
      case rel => exact ⟨by rw [HRS.out]; rfl, rfl⟩
    go_wp2_with (fail)
    refine Q12.out.mono ?_
    rintro e wq ⟨rfl, rfl⟩
    cases B12
    ·as_aux_lemma =>
      go_wp2_with (fail)
      go_meet
      case rel => exact ⟨by rw [HRS.out]; rfl, rfl⟩
    go_wp2_with (fail)
    refine Q13.out.mono ?_
    rintro e wq ⟨rfl, rfl⟩
    cases B13
    ·as_aux_lemma =>
      go_wp2_with (fail)
      go_meet
      case rel => exact ⟨by rw [HRS.out]; rfl, rfl⟩
    go_wp2_with (fail)
    refine Q14.out.mono ?_
    rintro e wq ⟨rfl, rfl⟩
    cases B14
    ·as_aux_lemma =>
      go_wp2_with (fail)
      go_meet
      case rel => exact ⟨by rw [HRS.out]; rfl, rfl⟩
    go_wp2_with (fail)
    refine QV.out.mono ?_
    rintro e wq ⟨rfl, rfl⟩
    cases BV
    ·as_aux_lemma =>
      go_wp2_with (fail)
      go_meet
      case rel => exact ⟨by rw [HRS.out]; rfl, rfl⟩
    go_wp2_with (fail)
    go_meet
    case rel => exact ⟨by rw [HRS.out]; rfl, rfl⟩
  case rest =>
   obtain ⟨rfl, rfl⟩ := hcut
   clear HRS QV Q11 Q12 Q13 Q14
   obtain ⟨OK, hOK⟩ : ∃ OK, OK = (RN && rsizes n) := ⟨_, rfl⟩
   rw [← hOK]
   have e := HR.out
   rw [← HRN.out, ← hOK] at e
   have HR := Lib.hid e
   clear e hOK HRN
   go_wp2_with (first | ((with_reducible apply ugZ); rfl) | ((with_reducible (first | apply len_B | apply len_BB | apply len_N | apply len_V | apply len_VV | apply len_P | apply len_O | apply len_H)); assumption) | ((with_reducible refine stop_if kK ?_ ?_); rfl))
   go_loopg [6, 151] (n.parts.length + 1) (fun kk x6 x151 wr => ∃ j : Nat, kk = n.parts.length - j + 1 ∧ j ≤ n.parts.length ∧ x151 = .int .i64 j ∧ x6 = .bool (OK && partsFrom none (n.parts.take j)) ∧ wc = wr)
   case atStart => exact ⟨0, by omega, by omega, rfl, by simp [partsFrom], rfl⟩
   case round =>
    obtain ⟨j, hk, hj, rfl, rfl, rfl⟩ := hrel
    have Hk := Lib.hid hk
    clear hk
    by_cases hlt : j < n.parts.length
    ·have hltI : (j : Int) < (n.parts.length : Int) := by omega
     obtain ⟨b1, o1, y1, x1, hy1, hr1, hx1, hc1⟩ := P1.out.index_run1 (P := Tryd.prog) rowP rfl .i64 j (by omega) (by omega)
     have e1 : [x1] = [Value.int .i64 y1] := hr1.1
     have hyI := hr1.2
     unfold I64 at hyI
     simp only [List.cons.injEq, and_true] at e1
     subst e1
     rw [Int.toNat_natCast] at hy1
     have hst := parts_take_step n.parts j y1 hy1
     obtain ⟨bb, hbb⟩ : ∃ bb, bb = (OK && partsFrom none (n.parts.take j)) := ⟨_, rfl⟩
     have hst' : (OK && partsFrom none (n.parts.take (j + 1))) = (bb && partOk (lastOf none (n.parts.take j)) y1) := by rw [hst, hbb, Bool.and_assoc]
     rw [← hbb]
     have Hst := Lib.hid hst'
     clear hst hst' hbb hr1
     have Hy1 := Lib.hid hy1
     clear hy1
     cases bb
     ·go_wp2_with (fail)
      go_roundg (n.parts.length - (j + 1) + 1)
      case measure => have := Hk.out; omega
      case rel => exact ⟨j + 1, by omega, by omega, by go_num, by rw [Hst.out]; rfl, rfl⟩
     ·by_cases g1 : y1 ≥ 0
      ·by_cases g2 : y1 ≤ 15
       ·by_cases g3 : j = 0
        ·have g3b : ((j : Int) == 0) = true := by rw [g3]; rfl
         have ho : partOk (lastOf none (n.parts.take j)) y1 = true := by rw [g3]; exact partOk_none y1 g1 (by omega)
         have Ho := Lib.hid ho
         clear g3 ho
         go_wp2_with (fail)
         go_roundg (n.parts.length - (j + 1) + 1)
         case measure => have := Hk.out; omega
         case rel => exact ⟨j + 1, by omega, by omega, by go_num, by rw [Hst.out]; rw [Ho.out]; rfl, rfl⟩
        ·have g3b : ((j : Int) == 0) = false := beq_eq_false_iff_ne.2 (by omega)
         obtain ⟨b2, o2, y2, x2, hy2, hr2, hx2, hc2⟩ := P1.out.index_run1 (P := Tryd.prog) rowP rfl .i64 ((j : Int) - 1) (by omega) (by omega)
         have e2 : [x2] = [Value.int .i64 y2] := hr2.1
         simp only [List.cons.injEq, and_true] at e2
         subst e2
         obtain ⟨j', hj'⟩ : ∃ j', j = j' + 1 := ⟨j - 1, by omega⟩
         have ho : partOk (lastOf none (n.parts.take j)) y1 = decide (y2 < y1) := by
          rw [show ((j : Int) - 1).toNat = j' by omega] at hy2
          rw [hj', lastOf_take n.parts j' y2 hy2]
          exact partOk_some y2 y1 g1 (by omega)
         have Ho := Lib.hid ho
         have hjw : wrap64 ((j : Int) - 1) = (j : Int) - 1 := by unfold wrap64; omega
         clear g3 ho hj' hy2 hr2
         by_cases g4 : y2 < y1
         ·go_wp2_with (fail)
          go_roundg (n.parts.length - (j + 1) + 1)
          case measure => have := Hk.out; omega
          case rel => exact ⟨j + 1, by omega, by omega, by go_num, by rw [Hst.out]; rw [Ho.out, decide_eq_true g4]; rfl, rfl⟩
         ·go_wp2_with (fail)
          go_roundg (n.parts.length - (j + 1) + 1)
          case measure => have := Hk.out; omega
          case rel => exact ⟨j + 1, by omega, by omega, by go_num, by rw [Hst.out]; rw [Ho.out, decide_eq_false (show ¬ y2 < y1 by omega)]; rfl, rfl⟩
       ·have ho : partOk (lastOf none (n.parts.take j)) y1 = false := partOk_bad _ _ (.inr (by omega))
        have Ho := Lib.hid ho
        clear ho
        go_wp2_with (fail)
        go_roundg (n.parts.length - (j + 1) + 1)
        case measure => have := Hk.out; omega
        case rel => exact ⟨j + 1, by omega, by omega, by go_num, by rw [Hst.out]; rw [Ho.out]; rfl, rfl⟩
      ·have ho : partOk (lastOf none (n.parts.take j)) y1 = false := partOk_bad _ _ (.inl (by omega))
       have Ho := Lib.hid ho
       clear ho
       go_wp2_with (fail)
       go_roundg (n.parts.length - (j + 1) + 1)
       case measure => have := Hk.out; omega
       case rel => exact ⟨j + 1, by omega, by omega, by go_num, by rw [Hst.out]; rw [Ho.out]; rfl, rfl⟩
    ·have hltI : ¬ (j : Int) < (n.parts.length : Int) := by omega
     obtain rfl : j = n.parts.length := by omega
     rw [List.take_of_length_le (Nat.le_refl _)]
     obtain ⟨OK2, hOK2⟩ : ∃ OK2, OK2 = (OK && partsFrom none n.parts) := ⟨_, rfl⟩
     rw [← hOK2]
     have e := HR.out
     rw [← hOK2] at e
     have HR := Lib.hid e
     clear e hOK2 Hk hj hltI hlt
     go_wp2_with (fail)
     go_loopg [6, 183] (n.ops.length + 1) (fun kk x6 x183 wr => ∃ j : Nat, kk = n.ops.length - j + 1 ∧ j ≤ n.ops.length ∧ x183 = .int .i64 j ∧ x6 = .bool (OK2 && (n.ops.take j).all opRight) ∧ Below wc.heap.size wc wr)
     case atStart => exact ⟨0, by omega, by omega, rfl, by simp, Below.refl _ _⟩
     case round =>
      obtain ⟨j, hk, hj, rfl, rfl, hbr⟩ := hrel
      have Hk := Lib.hid hk
      clear hk c0 c1 c2 c3 c4 c5 c6 c7 c8 c9 c10 c11 c12 c13 c14 c15
      obtain ⟨c0, c1, c2, c3, c4, c5, c6, c7, c8, c9, c10, c11, c12, c13, c14, c15⟩ := (hb.below hbr hb.lt).cells
      have pr := P2.out.below hbr (Nat.le_refl _)
      by_cases hlt : j < n.ops.length
      ·have hltI : (j : Int) < (n.ops.length : Int) := by omega
       go_wp2_with (first | ((with_reducible apply ugZ); rfl) | ((with_reducible (first | apply len_B | apply len_BB | apply len_N | apply len_V | apply len_VV | apply len_P | apply len_O | apply len_H)); assumption) | ((with_reducible refine stop_if kK ?_ ?_); rfl))
       refine Stop.go (idx_O pr rfl (by omega) hltI fun bb oo y v hy hv k0 k1 => ?_)
       rw [Int.toNat_natCast] at hy
       obtain ⟨va, vn, vc, rfl⟩ := Sl.shape hv
       have hst := all_take_step opRight n.ops j y hy
       obtain ⟨BB, hBB⟩ : ∃ BB, BB = (OK2 && (n.ops.take j).all opRight) := ⟨_, rfl⟩
       have hst' : (OK2 && (n.ops.take (j + 1)).all opRight) = (BB && opRight y) := by rw [hst, hBB, Bool.and_assoc]
       rw [← hBB]
       have hal := (Below.refl wr.heap.size wr).alloc (Nat.le_refl _) (.cells #[.int .u64 (y.id.toNat : Int), .slice va vn vc] 63)
       have hq := vec12_any (wr.alloc (.cells #[.int .u64 (y.id.toNat : Int), .slice va vn vc] 63)) _ y.vec _ (hv.below hal (Nat.le_refl _))
       have hbw := below_on hbr hal hbr.size
       have Hst := Lib.hid hst'
       have Hbw := Lib.hid hbw
       have Hq := Lib.hid hq
       clear hst hst' hBB hy hal hbw hq pr hv
       cases BB
       ·go_wp2_with (fail)
        go_roundg (n.ops.length - (j + 1) + 1)
        case measure => have := Hk.out; omega
        case rel => exact ⟨j + 1, by omega, by omega, by go_num, by rw [Hst.out]; rfl, Hbw.out⟩
       ·by_cases g1 : y.id.toNat ≤ 1099511627776
        ·have g1I : (y.id.toNat : Int) ≤ 1099511627776 := by omega
         go_wp2_with (fail)
         refine Hq.out.mono ?_
         rintro e wq ⟨rfl, rfl⟩
         go_wp2_with (fail)
         go_roundg (n.ops.length - (j + 1) + 1)
         case measure => have := Hk.out; omega
         case rel => exact ⟨j + 1, by omega, by omega, by go_num, by rw [Hst.out]; rw [opRight, decide_eq_true g1]; rfl, Hbw.out⟩
        ·have g1I : ¬ (y.id.toNat : Int) ≤ 1099511627776 := by omega
         go_wp2_with (fail)
         go_roundg (n.ops.length - (j + 1) + 1)
         case measure => have := Hk.out; omega
         case rel => exact ⟨j + 1, by omega, by omega, by go_num, by rw [Hst.out]; rw [opRight, decide_eq_false g1]; rfl, Hbw.out⟩
      ·have hltI : ¬ (j : Int) < (n.ops.length : Int) := by omega
       obtain rfl : j = n.ops.length := by omega
       rw [List.take_of_length_le (Nat.le_refl _)]
       obtain ⟨OK3, hOK3⟩ : ∃ OK3, OK3 = (OK2 && n.ops.all opRight) := ⟨_, rfl⟩
       rw [← hOK3]
       have e := HR.out
       rw [← hOK3] at e
       have HR := Lib.hid e
       clear e hOK3 Hk hj hltI hlt pr
       obtain ⟨w5, rfl⟩ : ∃ w5, w5 = wr := ⟨_, rfl⟩
       go_wp2_with (fail)
       go_loopg [6, 202] (n.hits.length + 1) (fun kk x6 x202 wr => ∃ j : Nat, kk = n.hits.length - j + 1 ∧ j ≤ n.hits.length ∧ x202 = .int .i64 j ∧ x6 = .bool (OK3 && (n.hits.take j).all hitRight) ∧ Below wc.heap.size wc wr)
       case atStart => exact ⟨0, by omega, by omega, rfl, by simp, hbr⟩
       case round =>
        obtain ⟨j, hk, hj, rfl, rfl, hbr⟩ := hrel
        have Hk := Lib.hid hk
        clear hk c0 c1 c2 c3 c4 c5 c6 c7 c8 c9 c10 c11 c12 c13 c14 c15
        obtain ⟨c0, c1, c2, c3, c4, c5, c6, c7, c8, c9, c10, c11, c12, c13, c14, c15⟩ := (hb.below hbr hb.lt).cells
        have pr := P4.out.below hbr (Nat.le_refl _)
        by_cases hlt : j < n.hits.length
        ·have hltI : (j : Int) < (n.hits.length : Int) := by omega
         go_wp2_with (first | ((with_reducible apply ugZ); rfl) | ((with_reducible (first | apply len_B | apply len_BB | apply len_N | apply len_V | apply len_VV | apply len_P | apply len_O | apply len_H)); assumption) | ((with_reducible refine stop_if kK ?_ ?_); rfl))
         refine Stop.go (idx_H pr rfl (by omega) hltI fun bb oo y v hy hv k0 k1 k2 => ?_)
         rw [Int.toNat_natCast] at hy
         obtain ⟨va, vn, vc, rfl⟩ := Sl.shape hv
         have hst := all_take_step hitRight n.hits j y hy
         obtain ⟨BB, hBB⟩ : ∃ BB, BB = (OK3 && (n.hits.take j).all hitRight) := ⟨_, rfl⟩
         have hst' : (OK3 && (n.hits.take (j + 1)).all hitRight) = (BB && hitRight y) := by rw [hst, hBB, Bool.and_assoc]
         rw [← hBB]
         have hal := (Below.refl wr.heap.size wr).alloc (Nat.le_refl _) (.cells #[.int .u64 (y.id.toNat : Int), .int .u64 (y.dist.toNat : Int), .slice va vn vc] 114)
         have hq := r3right_any (wr.alloc (.cells #[.int .u64 (y.id.toNat : Int), .int .u64 (y.dist.toNat : Int), .slice va vn vc] 114)) _ y.vec _ (hv.below hal (Nat.le_refl _))
         have hbw := below_on hbr hal hbr.size
         have Hst := Lib.hid hst'
         have Hbw := Lib.hid hbw
         have Hq := Lib.hid hq
         clear hst hst' hBB hy hal hbw hq pr hv
         cases BB
         ·go_wp2_with (fail)
          go_roundg (n.hits.length - (j + 1) + 1)
          case measure => have := Hk.out; omega
          case rel => exact ⟨j + 1, by omega, by omega, by go_num, by rw [Hst.out]; rfl, Hbw.out⟩
         ·by_cases g1 : y.id.toNat ≤ 1099511627776
          ·have g1I : (y.id.toNat : Int) ≤ 1099511627776 := by omega
           go_wp2_with (fail)
           refine Hq.out.mono ?_
           rintro e wq ⟨rfl, rfl⟩
           go_wp2_with (fail)
           go_roundg (n.hits.length - (j + 1) + 1)
           case measure => have := Hk.out; omega
           case rel => exact ⟨j + 1, by omega, by omega, by go_num, by rw [Hst.out]; rw [hitRight, decide_eq_true g1]; rfl, Hbw.out⟩
          ·have g1I : ¬ (y.id.toNat : Int) ≤ 1099511627776 := by omega
           go_wp2_with (fail)
           go_roundg (n.hits.length - (j + 1) + 1)
           case measure => have := Hk.out; omega
           case rel => exact ⟨j + 1, by omega, by omega, by go_num, by rw [Hst.out]; rw [hitRight, decide_eq_false g1]; rfl, Hbw.out⟩
        ·have hltI : ¬ (j : Int) < (n.hits.length : Int) := by omega
         obtain rfl : j = n.hits.length := by omega
         rw [List.take_of_length_le (Nat.le_refl _)]
         obtain ⟨OK4, hOK4⟩ : ∃ OK4, OK4 = (OK3 && n.hits.all hitRight) := ⟨_, rfl⟩
         rw [← hOK4]
         have e := HR.out
         rw [← hOK4] at e
         have HR := Lib.hid e
         clear e hOK4 Hk hj hltI hlt pr
         go_wp2_with (fail)
         go_ret
         rw [HR.out]
         exact ⟨rfl, below_on ha1 hbr ha1.size⟩
end Go.Proofs.YtjkffjngamagkaaDoor
