/- armillaryref12: Same. -/
import Derived.Test.YtjkffjngamagkaaDoorPackF
import Derived.Test.YtjkffjngamagkaaDoorPackE
import Derived.Test.YtjkffjngamagkaaDoorNoteSame
import Derived.Deep.DeepCutAuto
namespace Go.Proofs.YtjkffjngamagkaaDoor
open Go Go.RowKit Go.Arm
theorem Sl.len_eq {α : Type} [Rep α] {w : World} {S : Nat → Prop} {l : List α} {a : Option Addr} {n c : Nat} (h : Sl w S l (.slice a n c)) : n = l.length := by
 obtain ⟨_, _, _, e, _⟩ := h
 cases e
 rfl
set_option maxHeartbeats 16000000 in
set_option maxRecDepth 100000 in
theorem rsame_any (w : World) (S S' : Nat → Prop) (n m : NoteR) (V U : Value) (hV : Nt w S n V) (hU : Nt w S' m U) :
  Calls Tryd.prog 17 #[V, U] w fun e w' => e = .returned (.bool (n == m)) ∧ Below w.heap.size w w' := by
 have hV0 := hV.old
 have hU0 := hU.old
 clear hV hU
 obtain ⟨R, hR⟩ : ∃ R, R = (n == m) := ⟨_, rfl⟩
 rw [← hR]
 have HR := Lib.hid hR
 clear hR
 obtain ⟨vp, vo, vv, vh, rfl, h1, h2, h3, h4, _⟩ := hV0
 obtain ⟨up, uo, uv, uh, rfl, k1, k2, k3, k4, _⟩ := hU0
 unfold noteV
 obtain ⟨ap1, np1, cp1, rfl⟩ := Sl.shape h1
 obtain ⟨ao1, no1, co1, rfl⟩ := Sl.shape h2
 obtain ⟨av1, nv1, cv1, rfl⟩ := Sl.shape h3
 obtain ⟨ah1, nh1, ch1, rfl⟩ := Sl.shape h4
 obtain ⟨ap2, np2, cp2, rfl⟩ := Sl.shape k1
 obtain ⟨ao2, no2, co2, rfl⟩ := Sl.shape k2
 obtain ⟨av2, nv2, cv2, rfl⟩ := Sl.shape k3
 obtain ⟨ah2, nh2, ch2, rfl⟩ := Sl.shape k4
 obtain rfl := Sl.len_eq h1
 obtain rfl := Sl.len_eq k1
 have ha1 := (Below.refl w.heap.size w).alloc (Nat.le_refl _) (.cells #[.int .u8 (n.kind.toNat : Int), .int .u64 (n.txn.toNat : Int), .int .u64 (n.batch.toNat : Int), .int .u64 (n.stamp.toNat : Int), .int .u64 (n.after.toNat : Int), .int .u64 (n.mark.toNat : Int), .int .u64 (n.query.toNat : Int), .int .u64 (n.id.toNat : Int), .int .i64 n.k, .int .i64 n.ef, .int .i64 n.code, .int .i64 n.who, .slice ap1 n.parts.length cp1, .slice ao1 no1 co1, .slice av1 nv1 cv1, .slice ah1 nh1 ch1] 36)
 have ha2 := ha1.alloc ha1.size (.cells #[.int .u8 (m.kind.toNat : Int), .int .u64 (m.txn.toNat : Int), .int .u64 (m.batch.toNat : Int), .int .u64 (m.stamp.toNat : Int), .int .u64 (m.after.toNat : Int), .int .u64 (m.mark.toNat : Int), .int .u64 (m.query.toNat : Int), .int .u64 (m.id.toNat : Int), .int .i64 m.k, .int .i64 m.ef, .int .i64 m.code, .int .i64 m.who, .slice ap2 m.parts.length cp2, .slice ao2 no2 co2, .slice av2 nv2 cv2, .slice ah2 nh2 ch2] 36)
 have b1 := RBox.new w n (.slice ap1 n.parts.length cp1) (.slice ao1 no1 co1) (.slice av1 nv1 cv1) (.slice ah1 nh1 ch1)
 have b1' := b1.below ((Below.refl _ _).alloc (Nat.le_refl _) (.cells #[.int .u8 (m.kind.toNat : Int), .int .u64 (m.txn.toNat : Int), .int .u64 (m.batch.toNat : Int), .int .u64 (m.stamp.toNat : Int), .int .u64 (m.after.toNat : Int), .int .u64 (m.mark.toNat : Int), .int .u64 (m.query.toNat : Int), .int .u64 (m.id.toNat : Int), .int .i64 m.k, .int .i64 m.ef, .int .i64 m.code, .int .i64 m.who, .slice ap2 m.parts.length cp2, .slice ao2 no2 co2, .slice av2 nv2 cv2, .slice ah2 nh2 ch2] 36)) b1.lt
 have b2 := RBox.new (w.alloc (.cells #[.int .u8 (n.kind.toNat : Int), .int .u64 (n.txn.toNat : Int), .int .u64 (n.batch.toNat : Int), .int .u64 (n.stamp.toNat : Int), .int .u64 (n.after.toNat : Int), .int .u64 (n.mark.toNat : Int), .int .u64 (n.query.toNat : Int), .int .u64 (n.id.toNat : Int), .int .i64 n.k, .int .i64 n.ef, .int .i64 n.code, .int .i64 n.who, .slice ap1 n.parts.length cp1, .slice ao1 no1 co1, .slice av1 nv1 cv1, .slice ah1 nh1 ch1] 36)) m (.slice ap2 m.parts.length cp2) (.slice ao2 no2 co2) (.slice av2 nv2 cv2) (.slice ah2 nh2 ch2)
 have e2 : (w.alloc (.cells #[.int .u8 (n.kind.toNat : Int), .int .u64 (n.txn.toNat : Int), .int .u64 (n.batch.toNat : Int), .int .u64 (n.stamp.toNat : Int), .int .u64 (n.after.toNat : Int), .int .u64 (n.mark.toNat : Int), .int .u64 (n.query.toNat : Int), .int .u64 (n.id.toNat : Int), .int .i64 n.k, .int .i64 n.ef, .int .i64 n.code, .int .i64 n.who, .slice ap1 n.parts.length cp1, .slice ao1 no1 co1, .slice av1 nv1 cv1, .slice ah1 nh1 ch1] 36)).heap.size = w.heap.size + 1 := by
  show (w.heap.push _).size = _
  exact Array.size_push _
 rw [e2] at b2
 have HL := Lib.hid ha2
 have hW0 : ∃ w1, w1 = (w.alloc (.cells #[.int .u8 (n.kind.toNat : Int), .int .u64 (n.txn.toNat : Int), .int .u64 (n.batch.toNat : Int), .int .u64 (n.stamp.toNat : Int), .int .u64 (n.after.toNat : Int), .int .u64 (n.mark.toNat : Int), .int .u64 (n.query.toNat : Int), .int .u64 (n.id.toNat : Int), .int .i64 n.k, .int .i64 n.ef, .int .i64 n.code, .int .i64 n.who, .slice ap1 n.parts.length cp1, .slice ao1 no1 co1, .slice av1 nv1 cv1, .slice ah1 nh1 ch1] 36)).alloc (.cells #[.int .u8 (m.kind.toNat : Int), .int .u64 (m.txn.toNat : Int), .int .u64 (m.batch.toNat : Int), .int .u64 (m.stamp.toNat : Int), .int .u64 (m.after.toNat : Int), .int .u64 (m.mark.toNat : Int), .int .u64 (m.query.toNat : Int), .int .u64 (m.id.toNat : Int), .int .i64 m.k, .int .i64 m.ef, .int .i64 m.code, .int .i64 m.who, .slice ap2 m.parts.length cp2, .slice ao2 no2 co2, .slice av2 nv2 cv2, .slice ah2 nh2 ch2] 36) := ⟨_, rfl⟩
 obtain ⟨w1, hW⟩ := hW0
 rw [← hW] at ha2 b1' b2
 have HW := Lib.hid hW
 clear hW e2 b1 ha1
 have p1 := h1.below ha2 (Nat.le_refl _)
 have p2 := k1.below ha2 (Nat.le_refl _)
 have o1 := h2.below ha2 (Nat.le_refl _)
 have o2 := k2.below ha2 (Nat.le_refl _)
 have v1 := h3.below ha2 (Nat.le_refl _)
 have v2 := k3.below ha2 (Nat.le_refl _)
 have t1 := h4.below ha2 (Nat.le_refl _)
 have t2 := k4.below ha2 (Nat.le_refl _)
 have P := Lib.hid p1
 have P' := Lib.hid p2
 have O := Lib.hid o1
 have O' := Lib.hid o2
 have X := Lib.hid v1
 have X' := Lib.hid v2
 have T := Lib.hid t1
 have T' := Lib.hid t2
 clear p1 p2 o1 o2 v1 v2 t1 t2 h1 h2 h3 h4 k1 k2 k3 k4
 by_cases q0 : n.kind = m.kind
 ·have q0b : (((n.kind.toNat : Nat) : Int) != ((m.kind.toNat : Nat) : Int)) = false := by rw [q0]; simp
  have Q0 := Lib.hid q0
  clear q0
  by_cases q1 : n.txn = m.txn
  ·have q1b : (((n.txn.toNat : Nat) : Int) != ((m.txn.toNat : Nat) : Int)) = false := by rw [q1]; simp
   have Q1 := Lib.hid q1
   clear q1
   by_cases q2 : n.batch = m.batch
   ·have q2b : (((n.batch.toNat : Nat) : Int) != ((m.batch.toNat : Nat) : Int)) = false := by rw [q2]; simp
    have Q2 := Lib.hid q2
    clear q2
    by_cases q3 : n.stamp = m.stamp
    ·have q3b : (((n.stamp.toNat : Nat) : Int) != ((m.stamp.toNat : Nat) : Int)) = false := by rw [q3]; simp
     have Q3 := Lib.hid q3
     clear q3
     by_cases q4 : n.after = m.after
     ·have q4b : (((n.after.toNat : Nat) : Int) != ((m.after.toNat : Nat) : Int)) = false := by rw [q4]; simp
      have Q4 := Lib.hid q4
      clear q4
      by_cases q5 : n.mark = m.mark
      ·have q5b : (((n.mark.toNat : Nat) : Int) != ((m.mark.toNat : Nat) : Int)) = false := by rw [q5]; simp
       have Q5 := Lib.hid q5
       clear q5
       by_cases q6 : n.query = m.query
       ·have q6b : (((n.query.toNat : Nat) : Int) != ((m.query.toNat : Nat) : Int)) = false := by rw [q6]; simp
        have Q6 := Lib.hid q6
        clear q6
        by_cases q7 : n.id = m.id
        ·have q7b : (((n.id.toNat : Nat) : Int) != ((m.id.toNat : Nat) : Int)) = false := by rw [q7]; simp
         have Q7 := Lib.hid q7
         clear q7
         by_cases q8 : n.k = m.k
         ·have q8b : (n.k != m.k) = false := by rw [q8]; simp
          have Q8 := Lib.hid q8
          clear q8
          by_cases q9 : n.ef = m.ef
          ·have q9b : (n.ef != m.ef) = false := by rw [q9]; simp
           have Q9 := Lib.hid q9
           clear q9
           by_cases q10 : n.code = m.code
           ·have q10b : (n.code != m.code) = false := by rw [q10]; simp
            have Q10 := Lib.hid q10
            clear q10
            by_cases q11 : n.who = m.who
            ·have q11b : (n.who != m.who) = false := by rw [q11]; simp
             have Q11 := Lib.hid q11
             clear q11
             by_cases ql : n.parts.length = m.parts.length
             ·have qlb : ((n.parts.length : Int) != (m.parts.length : Int)) = false := by simp [ql]
              have QL := Lib.hid ql
              have p1 := P.out
              have p2 := P'.out
              have hpl : n.parts.length ≤ 9223372036854775807 := p1.length_le
              clear ql
              go_enter Tryd.func17, Tryd.ntmps17
              go_upto_region 3 with (fail)
              rw [← HW.out]
              have c12 := b1'.c12
              have d12 := b2.c12
              go_wp2_with (first | ((with_reducible apply ugZ); rfl) | ((with_reducible (first | apply len_B | apply len_BB | apply len_N | apply len_V | apply len_VV | apply len_P | apply len_O | apply len_H)); assumption) | ((with_reducible refine stop_if kK ?_ ?_); rfl))
              go_loopg [5, 100] (n.parts.length + 1) (fun k x i wr => ∃ j : Nat, k = n.parts.length - j + 1 ∧ j ≤ n.parts.length ∧ i = .int .i64 j ∧ n.parts.take j = m.parts.take j ∧ Below w1.heap.size w1 wr)
              case atStart => exact ⟨0, by omega, by omega, rfl, by simp, Below.refl _ _⟩
              case round =>
               obtain ⟨j, hk, hj, rfl, htk, hbr⟩ := hrel
               have Hk := Lib.hid hk
               have Htk := Lib.hid htk
               clear hk htk p1 p2 c12 d12
               have c12 := (b1'.below hbr b1'.lt).c12
               have d12 := (b2.below hbr b2.lt).c12
               by_cases hlt : j < n.parts.length
               ·have hjm : j < m.parts.length := by rw [← QL.out]; exact hlt
                obtain ⟨b1, o1, y1, x1, hy1, hr1, hx1, hc1⟩ := (P.out.below hbr (Nat.le_refl _)).index_run1 (P := Tryd.prog) rowP rfl .i64 j (by omega) (by omega)
                obtain ⟨b3, o3, y3, x3, hy3, hr3, hx3, hc3⟩ := (P'.out.below hbr (Nat.le_refl _)).index_run1 (P := Tryd.prog) rowP rfl .i64 j (by omega) (by omega)
                have e1 : [x1] = [Value.int .i64 y1] := hr1.1
                have e3 : [x3] = [Value.int .i64 y3] := hr3.1
                simp only [List.cons.injEq, and_true] at e1 e3
                subst e1
                subst e3
                have Hy1 := Lib.hid hy1
                have Hy3 := Lib.hid hy3
                clear hr1 hr3 hy1 hy3
                by_cases hyy : y1 = y3
                ·subst hyy
                 go_wp2_with (first | ((with_reducible apply ugZ); rfl) | ((with_reducible (first | apply len_B | apply len_BB | apply len_N | apply len_V | apply len_VV | apply len_P | apply len_O | apply len_H)); assumption) | ((with_reducible refine stop_if kK ?_ ?_); rfl))
                 go_quiet (fail)
                 go_wp2_with (first | ((with_reducible apply ugZ); rfl) | ((with_reducible (first | apply len_B | apply len_BB | apply len_N | apply len_V | apply len_VV | apply len_P | apply len_O | apply len_H)); assumption) | ((with_reducible refine stop_if kK ?_ ?_); rfl))
                 go_roundg (n.parts.length - (j + 1) + 1)
                 case measure => have := Hk.out; omega
                 case rel =>
                  refine ⟨j + 1, by omega, by omega, by go_num, ?_, hbr.trans ⟨rfl, rfl, rfl, Nat.le_refl _, fun _ _ => rfl⟩⟩
                  rw [take_snocG n.parts j y1 (by simpa using Hy1.out), take_snocG m.parts j y1 (by simpa using Hy3.out), Htk.out]
                ·have hyb : (y1 != y3) = true := by
                  rw [bne_iff_ne]
                  exact hyy
                 go_wp2_with (first | ((with_reducible apply ugZ); rfl) | ((with_reducible (first | apply len_B | apply len_BB | apply len_N | apply len_V | apply len_VV | apply len_P | apply len_O | apply len_H)); assumption) | ((with_reducible refine stop_if kK ?_ ?_); rfl))
                 go_quiet (fail)
                 go_wp2_with (first | ((with_reducible apply ugZ); rfl) | ((with_reducible (first | apply len_B | apply len_BB | apply len_N | apply len_V | apply len_VV | apply len_P | apply len_O | apply len_H)); assumption) | ((with_reducible refine stop_if kK ?_ ?_); rfl))
                 go_ret
                 have e : (n == m) = false := by
                  rw [beq_eq_false_iff_ne]
                  rintro rfl
                  have := Hy1.out.symm.trans Hy3.out
                  exact hyy (Option.some.inj this)
                 rw [HR.out, e]
                 exact ⟨rfl, (below_on ha2 hbr ha2.size).trans ⟨rfl, rfl, rfl, Nat.le_refl _, fun _ _ => rfl⟩⟩
               ·have QP := Lib.hid (same_takeG n.parts m.parts j QL.out (by omega) Htk.out)
                obtain ⟨w2, rfl⟩ : ∃ w2, w2 = wr := ⟨_, rfl⟩
                have c13 := (b1'.below hbr b1'.lt).c13
                have d13 := (b2.below hbr b2.lt).c13
                go_wp2_with (fail)
                refine (rsameO_any w2 _ _ n.ops m.ops _ _ (O.out.below hbr (Nat.le_refl _)) (O'.out.below hbr (Nat.le_refl _))).mono ?_
                rintro e w3 ⟨nq3, rfl, hw3⟩
                have hb3 : Below w1.heap.size w1 w3 := by rw [hw3]; exact hbr.trans ⟨rfl, rfl, rfl, Nat.le_refl _, fun _ _ => rfl⟩
                clear hw3
                obtain ⟨c0, c1, c2, c3, c4, c5, c6, c7, c8, c9, c10, c11, c12, c13, c14, c15⟩ := (b1'.below hb3 b1'.lt).cells
                obtain ⟨d0, d1, d2, d3, d4, d5, d6, d7, d8, d9, d10, d11, d12, d13, d14, d15⟩ := (b2.below hb3 b2.lt).cells
                by_cases qo : n.ops = m.ops
                ·have qob : (n.ops == m.ops) = true := by rw [qo]; simp
                 have Qqo := Lib.hid qo
                 rw [qob]
                 clear qo qob
                 go_wp2_with (fail)
                 refine (samevec_any w3 _ _ n.vec m.vec _ _ (X.out.below hb3 (Nat.le_refl _)) (X'.out.below hb3 (Nat.le_refl _))).mono ?_
                 rintro e w4 ⟨nq4, rfl, hw4⟩
                 have hb4 : Below w1.heap.size w1 w4 := by rw [hw4]; exact hb3.trans ⟨rfl, rfl, rfl, Nat.le_refl _, fun _ _ => rfl⟩
                 clear hw4
                 obtain ⟨c0, c1, c2, c3, c4, c5, c6, c7, c8, c9, c10, c11, c12, c13, c14, c15⟩ := (b1'.below hb4 b1'.lt).cells
                 obtain ⟨d0, d1, d2, d3, d4, d5, d6, d7, d8, d9, d10, d11, d12, d13, d14, d15⟩ := (b2.below hb4 b2.lt).cells
                 by_cases qv : n.vec = m.vec
                 ·have qvb : (n.vec == m.vec) = true := by rw [qv]; simp
                  have Qqv := Lib.hid qv
                  rw [qvb]
                  clear qv qvb
                  go_wp2_with (fail)
                  refine (rsameH_any w4 _ _ n.hits m.hits _ _ (T.out.below hb4 (Nat.le_refl _)) (T'.out.below hb4 (Nat.le_refl _))).mono ?_
                  rintro e w5 ⟨nq5, rfl, hw5⟩
                  have hB5 : Below w.heap.size w w5 := by rw [hw5]; exact (below_on ha2 hb4 ha2.size).trans ⟨rfl, rfl, rfl, Nat.le_refl _, fun _ _ => rfl⟩
                  clear hw5
                  by_cases qh : n.hits = m.hits
                  ·have qhb : (n.hits == m.hits) = true := by rw [qh]; simp
                   have Qqh := Lib.hid qh
                   rw [qhb]
                   clear qh qhb
                   go_wp2_with (fail)
                   go_ret
                   have e : (n == m) = true := by
                    rw [beq_iff_eq]
                    have a0 := Q0.out; have a1 := Q1.out; have a2 := Q2.out; have a3 := Q3.out; have a4 := Q4.out; have a5 := Q5.out; have a6 := Q6.out; have a7 := Q7.out; have a8 := Q8.out; have a9 := Q9.out; have a10 := Q10.out; have a11 := Q11.out
                    have l1 := QP.out; have l2 := Qqv.out; have l3 := Qqo.out; have l4 := Qqh.out
                    exact note_ext a0 a1 a2 a3 a4 a5 a6 a7 a8 a9 a10 a11 l1 l3 l2 l4
                   rw [HR.out, e]
                   exact ⟨rfl, hB5⟩
                  ·have qhb : (n.hits == m.hits) = false := by rw [beq_eq_false_iff_ne]; exact qh
                   have Qqh := Lib.hid qh
                   rw [qhb]
                   clear qh qhb
                   go_wp2_with (fail)
                   go_ret
                   have e : (n == m) = false := by
                    rw [beq_eq_false_iff_ne]
                    rintro rfl
                    exact Qqh.out rfl
                   rw [HR.out, e]
                   exact ⟨rfl, hB5⟩
                 ·have qvb : (n.vec == m.vec) = false := by rw [beq_eq_false_iff_ne]; exact qv
                  have Qqv := Lib.hid qv
                  rw [qvb]
                  clear qv qvb
                  go_wp2_with (fail)
                  go_ret
                  have e : (n == m) = false := by
                   rw [beq_eq_false_iff_ne]
                   rintro rfl
                   exact Qqv.out rfl
                  rw [HR.out, e]
                  exact ⟨rfl, below_on ha2 hb4 ha2.size⟩
                ·have qob : (n.ops == m.ops) = false := by rw [beq_eq_false_iff_ne]; exact qo
                 have Qqo := Lib.hid qo
                 rw [qob]
                 clear qo qob
                 go_wp2_with (fail)
                 go_ret
                 have e : (n == m) = false := by
                  rw [beq_eq_false_iff_ne]
                  rintro rfl
                  exact Qqo.out rfl
                 rw [HR.out, e]
                 exact ⟨rfl, below_on ha2 hb3 ha2.size⟩
             ·have qlb : ((n.parts.length : Int) != (m.parts.length : Int)) = true := by rw [bne_iff_ne]; omega
              have p1 := P.out
              have p2 := P'.out
              have QL := Lib.hid ql
              clear ql
              go_enter Tryd.func17, Tryd.ntmps17
              go_wp2_with (fail)
              go_ret
              have e : (n == m) = false := by
               rw [beq_eq_false_iff_ne]
               rintro rfl
               exact QL.out rfl
              rw [HR.out, e]
              exact ⟨rfl, HL.out⟩
            ·have q11b : (n.who != m.who) = true := by simpa using q11
             have Q11 := Lib.hid q11
             clear q11
             go_enter Tryd.func17, Tryd.ntmps17
             go_wp2_with (fail)
             go_ret
             have e : (n == m) = false := by
              rw [beq_eq_false_iff_ne]
              rintro rfl
              exact Q11.out rfl
             rw [HR.out, e]
             exact ⟨rfl, HL.out⟩
           ·have q10b : (n.code != m.code) = true := by simpa using q10
            have Q10 := Lib.hid q10
            clear q10
            go_enter Tryd.func17, Tryd.ntmps17
            go_wp2_with (fail)
            go_ret
            have e : (n == m) = false := by
             rw [beq_eq_false_iff_ne]
             rintro rfl
             exact Q10.out rfl
            rw [HR.out, e]
            exact ⟨rfl, HL.out⟩
          ·have q9b : (n.ef != m.ef) = true := by simpa using q9
           have Q9 := Lib.hid q9
           clear q9
           go_enter Tryd.func17, Tryd.ntmps17
           go_wp2_with (fail)
           go_ret
           have e : (n == m) = false := by
            rw [beq_eq_false_iff_ne]
            rintro rfl
            exact Q9.out rfl
           rw [HR.out, e]
           exact ⟨rfl, HL.out⟩
         ·have q8b : (n.k != m.k) = true := by simpa using q8
          have Q8 := Lib.hid q8
          clear q8
          go_enter Tryd.func17, Tryd.ntmps17
          go_wp2_with (fail)
          go_ret
          have e : (n == m) = false := by
           rw [beq_eq_false_iff_ne]
           rintro rfl
           exact Q8.out rfl
          rw [HR.out, e]
          exact ⟨rfl, HL.out⟩
        ·have q7b : (((n.id.toNat : Nat) : Int) != ((m.id.toNat : Nat) : Int)) = true := by
          rw [bne_iff_ne]
          exact fun h => q7 (UInt64.toNat_inj.1 (by omega))
         have Q7 := Lib.hid q7
         clear q7
         go_enter Tryd.func17, Tryd.ntmps17
         go_wp2_with (fail)
         go_ret
         have e : (n == m) = false := by
          rw [beq_eq_false_iff_ne]
          rintro rfl
          exact Q7.out rfl
         rw [HR.out, e]
         exact ⟨rfl, HL.out⟩
       ·have q6b : (((n.query.toNat : Nat) : Int) != ((m.query.toNat : Nat) : Int)) = true := by
         rw [bne_iff_ne]
         exact fun h => q6 (UInt64.toNat_inj.1 (by omega))
        have Q6 := Lib.hid q6
        clear q6
        go_enter Tryd.func17, Tryd.ntmps17
        go_wp2_with (fail)
        go_ret
        have e : (n == m) = false := by
         rw [beq_eq_false_iff_ne]
         rintro rfl
         exact Q6.out rfl
        rw [HR.out, e]
        exact ⟨rfl, HL.out⟩
      ·have q5b : (((n.mark.toNat : Nat) : Int) != ((m.mark.toNat : Nat) : Int)) = true := by
        rw [bne_iff_ne]
        exact fun h => q5 (UInt64.toNat_inj.1 (by omega))
       have Q5 := Lib.hid q5
       clear q5
       go_enter Tryd.func17, Tryd.ntmps17
       go_wp2_with (fail)
       go_ret
       have e : (n == m) = false := by
        rw [beq_eq_false_iff_ne]
        rintro rfl
        exact Q5.out rfl
       rw [HR.out, e]
       exact ⟨rfl, HL.out⟩
     ·have q4b : (((n.after.toNat : Nat) : Int) != ((m.after.toNat : Nat) : Int)) = true := by
       rw [bne_iff_ne]
       exact fun h => q4 (UInt64.toNat_inj.1 (by omega))
      have Q4 := Lib.hid q4
      clear q4
      go_enter Tryd.func17, Tryd.ntmps17
      go_wp2_with (fail)
      go_ret
      have e : (n == m) = false := by
       rw [beq_eq_false_iff_ne]
       rintro rfl
       exact Q4.out rfl
      rw [HR.out, e]
      exact ⟨rfl, HL.out⟩
    ·have q3b : (((n.stamp.toNat : Nat) : Int) != ((m.stamp.toNat : Nat) : Int)) = true := by
      rw [bne_iff_ne]
      exact fun h => q3 (UInt64.toNat_inj.1 (by omega))
     have Q3 := Lib.hid q3
     clear q3
     go_enter Tryd.func17, Tryd.ntmps17
     go_wp2_with (fail)
     go_ret
     have e : (n == m) = false := by
      rw [beq_eq_false_iff_ne]
      rintro rfl
      exact Q3.out rfl
     rw [HR.out, e]
     exact ⟨rfl, HL.out⟩
   ·have q2b : (((n.batch.toNat : Nat) : Int) != ((m.batch.toNat : Nat) : Int)) = true := by
     rw [bne_iff_ne]
     exact fun h => q2 (UInt64.toNat_inj.1 (by omega))
    have Q2 := Lib.hid q2
    clear q2
    go_enter Tryd.func17, Tryd.ntmps17
    go_wp2_with (fail)
    go_ret
    have e : (n == m) = false := by
     rw [beq_eq_false_iff_ne]
     rintro rfl
     exact Q2.out rfl
    rw [HR.out, e]
    exact ⟨rfl, HL.out⟩
  ·have q1b : (((n.txn.toNat : Nat) : Int) != ((m.txn.toNat : Nat) : Int)) = true := by
    rw [bne_iff_ne]
    exact fun h => q1 (UInt64.toNat_inj.1 (by omega))
   have Q1 := Lib.hid q1
   clear q1
   go_enter Tryd.func17, Tryd.ntmps17
   go_wp2_with (fail)
   go_ret
   have e : (n == m) = false := by
    rw [beq_eq_false_iff_ne]
    rintro rfl
    exact Q1.out rfl
   rw [HR.out, e]
   exact ⟨rfl, HL.out⟩
 ·have q0b : (((n.kind.toNat : Nat) : Int) != ((m.kind.toNat : Nat) : Int)) = true := by
   rw [bne_iff_ne]
   exact fun h => q0 (UInt8.toNat_inj.1 (by omega))
  have Q0 := Lib.hid q0
  clear q0
  go_enter Tryd.func17, Tryd.ntmps17
  go_wp2_with (fail)
  go_ret
  have e : (n == m) = false := by
   rw [beq_eq_false_iff_ne]
   rintro rfl
   exact Q0.out rfl
  rw [HR.out, e]
  exact ⟨rfl, HL.out⟩
end Go.Proofs.YtjkffjngamagkaaDoor
