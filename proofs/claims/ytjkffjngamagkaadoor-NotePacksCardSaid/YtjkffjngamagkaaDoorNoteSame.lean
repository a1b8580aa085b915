/- package note: Same. -/
import Derived.Test.YtjkffjngamagkaaDoorPackF
import Derived.Deep.DeepCutAuto
namespace Go.Proofs.YtjkffjngamagkaaDoor
open Go Go.RowKit Go.Arm

theorem note_ext {n m : NoteR} (h0 : n.kind = m.kind) (h1 : n.txn = m.txn) (h2 : n.batch = m.batch) (h3 : n.stamp = m.stamp) (h4 : n.after = m.after) (h5 : n.mark = m.mark) (h6 : n.query = m.query) (h7 : n.id = m.id) (h8 : n.k = m.k) (h9 : n.ef = m.ef) (h10 : n.code = m.code) (h11 : n.who = m.who) (l1 : n.parts = m.parts) (l2 : n.ops = m.ops) (l3 : n.vec = m.vec) (l4 : n.hits = m.hits) : n = m := by
  cases n; cases m; simp_all

set_option maxHeartbeats 16000000 in
set_option maxRecDepth 100000 in
theorem nsame_any (w : World) (S S' : Nat → Prop) (n m : NoteR) (V U : Value) (hV : Nt w S n V) (hU : Nt w S' m U) :
    Calls Tryd.prog 26 #[V, U] w fun e w' => e = .returned (.bool (n == m)) ∧ Below w.heap.size w w' := by
  have hV0 := hV.old
  have hU0 := hU.old
  clear hV hU
  obtain ⟨R, hR⟩ : ∃ R, R = (n == m) := ⟨_, rfl⟩
  rw [← hR]
  have HR := Lib.hid hR
  clear hR
  obtain ⟨vp, vo, vv, vh, rfl, h1, h2, h3, h4, _⟩ := hV0
  obtain ⟨up, uo, uv, uh, rfl, k1, k2, k3, k4, _⟩ := hU0
  unfold noteV
  obtain ⟨ap1, np1, cp1, rfl⟩ := Sl.shape h1
  obtain ⟨ao1, no1, co1, rfl⟩ := Sl.shape h2
  obtain ⟨av1, nv1, cv1, rfl⟩ := Sl.shape h3
  obtain ⟨ah1, nh1, ch1, rfl⟩ := Sl.shape h4
  obtain ⟨ap2, np2, cp2, rfl⟩ := Sl.shape k1
  obtain ⟨ao2, no2, co2, rfl⟩ := Sl.shape k2
  obtain ⟨av2, nv2, cv2, rfl⟩ := Sl.shape k3
  obtain ⟨ah2, nh2, ch2, rfl⟩ := Sl.shape k4
  have ha1 := (Below.refl w.heap.size w).alloc (Nat.le_refl _) (.cells #[.int .u8 (n.kind.toNat : Int), .int .u64 (n.txn.toNat : Int), .int .u64 (n.batch.toNat : Int), .int .u64 (n.stamp.toNat : Int), .int .u64 (n.after.toNat : Int), .int .u64 (n.mark.toNat : Int), .int .u64 (n.query.toNat : Int), .int .u64 (n.id.toNat : Int), .int .i64 n.k, .int .i64 n.ef, .int .i64 n.code, .int .i64 n.who, .slice ap1 np1 cp1, .slice ao1 no1 co1, .slice av1 nv1 cv1, .slice ah1 nh1 ch1] 33)
  have ha2 := ha1.alloc ha1.size (.cells #[.int .u8 (m.kind.toNat : Int), .int .u64 (m.txn.toNat : Int), .int .u64 (m.batch.toNat : Int), .int .u64 (m.stamp.toNat : Int), .int .u64 (m.after.toNat : Int), .int .u64 (m.mark.toNat : Int), .int .u64 (m.query.toNat : Int), .int .u64 (m.id.toNat : Int), .int .i64 m.k, .int .i64 m.ef, .int .i64 m.code, .int .i64 m.who, .slice ap2 np2 cp2, .slice ao2 no2 co2, .slice av2 nv2 cv2, .slice ah2 nh2 ch2] 33)
  have b1 := Box.new w n (.slice ap1 np1 cp1) (.slice ao1 no1 co1) (.slice av1 nv1 cv1) (.slice ah1 nh1 ch1)
  have b1' := b1.below ((Below.refl _ _).alloc (Nat.le_refl _) (.cells #[.int .u8 (m.kind.toNat : Int), .int .u64 (m.txn.toNat : Int), .int .u64 (m.batch.toNat : Int), .int .u64 (m.stamp.toNat : Int), .int .u64 (m.after.toNat : Int), .int .u64 (m.mark.toNat : Int), .int .u64 (m.query.toNat : Int), .int .u64 (m.id.toNat : Int), .int .i64 m.k, .int .i64 m.ef, .int .i64 m.code, .int .i64 m.who, .slice ap2 np2 cp2, .slice ao2 no2 co2, .slice av2 nv2 cv2, .slice ah2 nh2 ch2] 33)) b1.lt
  have b2 := Box.new (w.alloc (.cells #[.int .u8 (n.kind.toNat : Int), .int .u64 (n.txn.toNat : Int), .int .u64 (n.batch.toNat : Int), .int .u64 (n.stamp.toNat : Int), .int .u64 (n.after.toNat : Int), .int .u64 (n.mark.toNat : Int), .int .u64 (n.query.toNat : Int), .int .u64 (n.id.toNat : Int), .int .i64 n.k, .int .i64 n.ef, .int .i64 n.code, .int .i64 n.who, .slice ap1 np1 cp1, .slice ao1 no1 co1, .slice av1 nv1 cv1, .slice ah1 nh1 ch1] 33)) m (.slice ap2 np2 cp2) (.slice ao2 no2 co2) (.slice av2 nv2 cv2) (.slice ah2 nh2 ch2)
  have e2 : (w.alloc (.cells #[.int .u8 (n.kind.toNat : Int), .int .u64 (n.txn.toNat : Int), .int .u64 (n.batch.toNat : Int), .int .u64 (n.stamp.toNat : Int), .int .u64 (n.after.toNat : Int), .int .u64 (n.mark.toNat : Int), .int .u64 (n.query.toNat : Int), .int .u64 (n.id.toNat : Int), .int .i64 n.k, .int .i64 n.ef, .int .i64 n.code, .int .i64 n.who, .slice ap1 np1 cp1, .slice ao1 no1 co1, .slice av1 nv1 cv1, .slice ah1 nh1 ch1] 33)).heap.size = w.heap.size + 1 := by
    show (w.heap.push _).size = _
    exact Array.size_push _
  rw [e2] at b2
  go_enter Tryd.func26, Tryd.ntmps26
  go_upto_region 1 with (fail)
  generalize (w.alloc (.cells #[.int .u8 (n.kind.toNat : Int), .int .u64 (n.txn.toNat : Int), .int .u64 (n.batch.toNat : Int), .int .u64 (n.stamp.toNat : Int), .int .u64 (n.after.toNat : Int), .int .u64 (n.mark.toNat : Int), .int .u64 (n.query.toNat : Int), .int .u64 (n.id.toNat : Int), .int .i64 n.k, .int .i64 n.ef, .int .i64 n.code, .int .i64 n.who, .slice ap1 np1 cp1, .slice ao1 no1 co1, .slice av1 nv1 cv1, .slice ah1 nh1 ch1] 33)).alloc (.cells #[.int .u8 (m.kind.toNat : Int), .int .u64 (m.txn.toNat : Int), .int .u64 (m.batch.toNat : Int), .int .u64 (m.stamp.toNat : Int), .int .u64 (m.after.toNat : Int), .int .u64 (m.mark.toNat : Int), .int .u64 (m.query.toNat : Int), .int .u64 (m.id.toNat : Int), .int .i64 m.k, .int .i64 m.ef, .int .i64 m.code, .int .i64 m.who, .slice ap2 np2 cp2, .slice ao2 no2 co2, .slice av2 nv2 cv2, .slice ah2 nh2 ch2] 33) = w1 at ha2 b1' b2 ⊢
  obtain ⟨bn, hbn⟩ : ∃ bn, bn = w.heap.size := ⟨_, rfl⟩
  obtain ⟨bm, hbm⟩ : ∃ bm, bm = w.heap.size + 1 := ⟨_, rfl⟩
  rw [← hbn] at b1'
  rw [← hbm] at b2
  rw [← hbm, ← hbn]
  clear hbn hbm e2 b1 ha1
  have p1 := h1.below ha2 (Nat.le_refl _)
  have p2 := k1.below ha2 (Nat.le_refl _)
  have o1 := h2.below ha2 (Nat.le_refl _)
  have o2 := k2.below ha2 (Nat.le_refl _)
  have v1 := h3.below ha2 (Nat.le_refl _)
  have v2 := k3.below ha2 (Nat.le_refl _)
  have t1 := h4.below ha2 (Nat.le_refl _)
  have t2 := k4.below ha2 (Nat.le_refl _)
  have P := Lib.hid p1
  have P' := Lib.hid p2
  have O := Lib.hid o1
  have O' := Lib.hid o2
  have X := Lib.hid v1
  have X' := Lib.hid v2
  have T := Lib.hid t1
  have T' := Lib.hid t2
  clear p1 p2 o1 o2 v1 v2 t1 t2 h1 h2 h3 h4 k1 k2 k3 k4
  obtain ⟨c0, c1, c2, c3, c4, c5, c6, c7, c8, c9, c10, c11, c12, c13, c14, c15⟩ := b1'.cells
  obtain ⟨d0, d1, d2, d3, d4, d5, d6, d7, d8, d9, d10, d11, d12, d13, d14, d15⟩ := b2.cells
  by_cases q0 : n.kind = m.kind
  · have q0b : (((n.kind.toNat : Nat) : Int) == ((m.kind.toNat : Nat) : Int)) = true := by rw [q0]; simp
    have Q0 := Lib.hid q0
    clear q0
    by_cases q1 : n.txn = m.txn
    · have q1b : (((n.txn.toNat : Nat) : Int) == ((m.txn.toNat : Nat) : Int)) = true := by rw [q1]; simp
      have Q1 := Lib.hid q1
      clear q1
      by_cases q2 : n.batch = m.batch
      · have q2b : (((n.batch.toNat : Nat) : Int) == ((m.batch.toNat : Nat) : Int)) = true := by rw [q2]; simp
        have Q2 := Lib.hid q2
        clear q2
        by_cases q3 : n.stamp = m.stamp
        · have q3b : (((n.stamp.toNat : Nat) : Int) == ((m.stamp.toNat : Nat) : Int)) = true := by rw [q3]; simp
          have Q3 := Lib.hid q3
          clear q3
          by_cases q4 : n.after = m.after
          · have q4b : (((n.after.toNat : Nat) : Int) == ((m.after.toNat : Nat) : Int)) = true := by rw [q4]; simp
            have Q4 := Lib.hid q4
            clear q4
            by_cases q5 : n.mark = m.mark
            · have q5b : (((n.mark.toNat : Nat) : Int) == ((m.mark.toNat : Nat) : Int)) = true := by rw [q5]; simp
              have Q5 := Lib.hid q5
              clear q5
              by_cases q6 : n.query = m.query
              · have q6b : (((n.query.toNat : Nat) : Int) == ((m.query.toNat : Nat) : Int)) = true := by rw [q6]; simp
                have Q6 := Lib.hid q6
                clear q6
                by_cases q7 : n.id = m.id
                · have q7b : (((n.id.toNat : Nat) : Int) == ((m.id.toNat : Nat) : Int)) = true := by rw [q7]; simp
                  have Q7 := Lib.hid q7
                  clear q7
                  by_cases q8 : n.k = m.k
                  · have q8b : (n.k != m.k) = false := by rw [q8]; simp
                    have Q8 := Lib.hid q8
                    clear q8
                    by_cases q9 : n.ef = m.ef
                    · have q9b : (n.ef != m.ef) = false := by rw [q9]; simp
                      have Q9 := Lib.hid q9
                      clear q9
                      by_cases q10 : n.code = m.code
                      · have q10b : (n.code != m.code) = false := by rw [q10]; simp
                        have Q10 := Lib.hid q10
                        clear q10
                        by_cases q11 : n.who = m.who
                        · have q11b : (n.who != m.who) = false := by rw [q11]; simp
                          have Q11 := Lib.hid q11
                          clear q11
                          go_wp2_with (fail)
                          refine (eqI_any w1 _ _ n.parts m.parts _ _ P.out P'.out).mono ?_
                          rintro e w2 ⟨nq, rfl, hw2⟩
                          have hb2 : Below w1.heap.size w1 w2 := by rw [hw2]; exact (Below.refl w1.heap.size w1).trans ⟨rfl, rfl, rfl, Nat.le_refl _, fun _ _ => rfl⟩
                          clear hw2 c0 c1 c2 c3 c4 c5 c6 c7 c8 c9 c10 c11 c12 c13 c14 c15 d0 d1 d2 d3 d4 d5 d6 d7 d8 d9 d10 d11 d12 d13 d14 d15
                          obtain ⟨c0, c1, c2, c3, c4, c5, c6, c7, c8, c9, c10, c11, c12, c13, c14, c15⟩ := (b1'.below hb2 b1'.lt).cells
                          obtain ⟨d0, d1, d2, d3, d4, d5, d6, d7, d8, d9, d10, d11, d12, d13, d14, d15⟩ := (b2.below hb2 b2.lt).cells
                          by_cases qp : n.parts = m.parts
                          · have qpb : (n.parts == m.parts) = true := by rw [qp]; simp
                            have Qqp := Lib.hid qp
                            rw [qpb]
                            clear qp qpb
                            go_wp2_with (fail)
                            refine (eqV_any w2 _ _ n.vec m.vec _ _ (X.out.below hb2 (Nat.le_refl _)) (X'.out.below hb2 (Nat.le_refl _))).mono ?_
                            rintro e w3 ⟨nq, rfl, hw3⟩
                            have hb3 : Below w1.heap.size w1 w3 := by rw [hw3]; exact hb2.trans ⟨rfl, rfl, rfl, Nat.le_refl _, fun _ _ => rfl⟩
                            clear hw3
                            obtain ⟨c0, c1, c2, c3, c4, c5, c6, c7, c8, c9, c10, c11, c12, c13, c14, c15⟩ := (b1'.below hb3 b1'.lt).cells
                            obtain ⟨d0, d1, d2, d3, d4, d5, d6, d7, d8, d9, d10, d11, d12, d13, d14, d15⟩ := (b2.below hb3 b2.lt).cells
                            by_cases qv : n.vec = m.vec
                            · have qvb : (n.vec == m.vec) = true := by rw [qv]; simp
                              have Qqv := Lib.hid qv
                              rw [qvb]
                              clear qv qvb
                              go_wp2_with (fail)
                              refine (eqO_any w3 _ _ n.ops m.ops _ _ (O.out.below hb3 (Nat.le_refl _)) (O'.out.below hb3 (Nat.le_refl _))).mono ?_
                              rintro e w4 ⟨rfl, hb4⟩
                              have hb34 := below_on hb3 hb4 hb3.size
                              obtain ⟨c0, c1, c2, c3, c4, c5, c6, c7, c8, c9, c10, c11, c12, c13, c14, c15⟩ := (b1'.below hb34 b1'.lt).cells
                              obtain ⟨d0, d1, d2, d3, d4, d5, d6, d7, d8, d9, d10, d11, d12, d13, d14, d15⟩ := (b2.below hb34 b2.lt).cells
                              by_cases qo : n.ops = m.ops
                              · have qob : (n.ops == m.ops) = true := by rw [qo]; simp
                                have Qqo := Lib.hid qo
                                rw [qob]
                                clear qo qob
                                go_wp2_with (fail)
                                refine (eqH_any w4 _ _ n.hits m.hits _ _ (T.out.below hb34 (Nat.le_refl _)) (T'.out.below hb34 (Nat.le_refl _))).mono ?_
                                rintro e w5 ⟨rfl, hb5⟩
                                have hB5 := below_on (below_on ha2 hb34 ha2.size) hb5 (Nat.le_trans ha2.size hb34.size)
                                by_cases qh : n.hits = m.hits
                                · have qhb : (n.hits == m.hits) = true := by rw [qh]; simp
                                  have Qqh := Lib.hid qh
                                  rw [qhb]
                                  clear qh qhb
                                  go_wp2_with (fail)
                                  go_ret
                                  have e : (n == m) = true := by
                                    rw [beq_iff_eq]
                                    have a0 := Q0.out; have a1 := Q1.out; have a2 := Q2.out; have a3 := Q3.out; have a4 := Q4.out; have a5 := Q5.out; have a6 := Q6.out; have a7 := Q7.out; have a8 := Q8.out; have a9 := Q9.out; have a10 := Q10.out; have a11 := Q11.out
                                    have l1 := Qqp.out; have l2 := Qqv.out; have l3 := Qqo.out; have l4 := Qqh.out
                                    exact note_ext a0 a1 a2 a3 a4 a5 a6 a7 a8 a9 a10 a11 l1 l3 l2 l4
                                  rw [HR.out, e]
                                  exact ⟨rfl, hB5⟩
                                · have qhb : (n.hits == m.hits) = false := by rw [beq_eq_false_iff_ne]; exact qh
                                  have Qqh := Lib.hid qh
                                  rw [qhb]
                                  clear qh qhb
                                  go_wp2_with (fail)
                                  go_ret
                                  have e : (n == m) = false := by
                                    rw [beq_eq_false_iff_ne]
                                    rintro rfl
                                    exact Qqh.out rfl
                                  rw [HR.out, e]
                                  exact ⟨rfl, hB5⟩
                              · have qob : (n.ops == m.ops) = false := by rw [beq_eq_false_iff_ne]; exact qo
                                have Qqo := Lib.hid qo
                                rw [qob]
                                clear qo qob
                                go_wp2_with (fail)
                                go_ret
                                have e : (n == m) = false := by
                                  rw [beq_eq_false_iff_ne]
                                  rintro rfl
                                  exact Qqo.out rfl
                                rw [HR.out, e]
                                exact ⟨rfl, below_on ha2 hb34 ha2.size⟩
                            · have qvb : (n.vec == m.vec) = false := by rw [beq_eq_false_iff_ne]; exact qv
                              have Qqv := Lib.hid qv
                              rw [qvb]
                              clear qv qvb
                              go_wp2_with (fail)
                              go_ret
                              have e : (n == m) = false := by
                                rw [beq_eq_false_iff_ne]
                                rintro rfl
                                exact Qqv.out rfl
                              rw [HR.out, e]
                              exact ⟨rfl, below_on ha2 hb3 ha2.size⟩
                          · have qpb : (n.parts == m.parts) = false := by rw [beq_eq_false_iff_ne]; exact qp
                            have Qqp := Lib.hid qp
                            rw [qpb]
                            clear qp qpb
                            go_wp2_with (fail)
                            go_ret
                            have e : (n == m) = false := by
                              rw [beq_eq_false_iff_ne]
                              rintro rfl
                              exact Qqp.out rfl
                            rw [HR.out, e]
                            exact ⟨rfl, below_on ha2 hb2 ha2.size⟩
                        · have q11b : (n.who != m.who) = true := by simpa using q11
                          have Q11 := Lib.hid q11
                          clear q11
                          go_wp2_with (fail)
                          go_ret
                          have e : (n == m) = false := by
                            rw [beq_eq_false_iff_ne]
                            rintro rfl
                            exact Q11.out rfl
                          rw [HR.out, e]
                          exact ⟨rfl, ha2⟩
                      · have q10b : (n.code != m.code) = true := by simpa using q10
                        have Q10 := Lib.hid q10
                        clear q10
                        go_wp2_with (fail)
                        go_ret
                        have e : (n == m) = false := by
                          rw [beq_eq_false_iff_ne]
                          rintro rfl
                          exact Q10.out rfl
                        rw [HR.out, e]
                        exact ⟨rfl, ha2⟩
                    · have q9b : (n.ef != m.ef) = true := by simpa using q9
                      have Q9 := Lib.hid q9
                      clear q9
                      go_wp2_with (fail)
                      go_ret
                      have e : (n == m) = false := by
                        rw [beq_eq_false_iff_ne]
                        rintro rfl
                        exact Q9.out rfl
                      rw [HR.out, e]
                      exact ⟨rfl, ha2⟩
                  · have q8b : (n.k != m.k) = true := by simpa using q8
                    have Q8 := Lib.hid q8
                    clear q8
                    go_wp2_with (fail)
                    go_ret
                    have e : (n == m) = false := by
                      rw [beq_eq_false_iff_ne]
                      rintro rfl
                      exact Q8.out rfl
                    rw [HR.out, e]
                    exact ⟨rfl, ha2⟩
                · have q7b : (((n.id.toNat : Nat) : Int) == ((m.id.toNat : Nat) : Int)) = false := by
                    rw [beq_eq_false_iff_ne]
                    exact fun h => q7 (UInt64.toNat_inj.1 (by omega))
                  have Q7 := Lib.hid q7
                  clear q7
                  go_wp2_with (fail)
                  go_ret
                  have e : (n == m) = false := by
                    rw [beq_eq_false_iff_ne]
                    rintro rfl
                    exact Q7.out rfl
                  rw [HR.out, e]
                  exact ⟨rfl, ha2⟩
              · have q6b : (((n.query.toNat : Nat) : Int) == ((m.query.toNat : Nat) : Int)) = false := by
                  rw [beq_eq_false_iff_ne]
                  exact fun h => q6 (UInt64.toNat_inj.1 (by omega))
                have Q6 := Lib.hid q6
                clear q6
                go_wp2_with (fail)
                go_ret
                have e : (n == m) = false := by
                  rw [beq_eq_false_iff_ne]
                  rintro rfl
                  exact Q6.out rfl
                rw [HR.out, e]
                exact ⟨rfl, ha2⟩
            · have q5b : (((n.mark.toNat : Nat) : Int) == ((m.mark.toNat : Nat) : Int)) = false := by
                rw [beq_eq_false_iff_ne]
                exact fun h => q5 (UInt64.toNat_inj.1 (by omega))
              have Q5 := Lib.hid q5
              clear q5
              go_wp2_with (fail)
              go_ret
              have e : (n == m) = false := by
                rw [beq_eq_false_iff_ne]
                rintro rfl
                exact Q5.out rfl
              rw [HR.out, e]
              exact ⟨rfl, ha2⟩
          · have q4b : (((n.after.toNat : Nat) : Int) == ((m.after.toNat : Nat) : Int)) = false := by
              rw [beq_eq_false_iff_ne]
              exact fun h => q4 (UInt64.toNat_inj.1 (by omega))
            have Q4 := Lib.hid q4
            clear q4
            go_wp2_with (fail)
            go_ret
            have e : (n == m) = false := by
              rw [beq_eq_false_iff_ne]
              rintro rfl
              exact Q4.out rfl
            rw [HR.out, e]
            exact ⟨rfl, ha2⟩
        · have q3b : (((n.stamp.toNat : Nat) : Int) == ((m.stamp.toNat : Nat) : Int)) = false := by
            rw [beq_eq_false_iff_ne]
            exact fun h => q3 (UInt64.toNat_inj.1 (by omega))
          have Q3 := Lib.hid q3
          clear q3
          go_wp2_with (fail)
          go_ret
          have e : (n == m) = false := by
            rw [beq_eq_false_iff_ne]
            rintro rfl
            exact Q3.out rfl
          rw [HR.out, e]
          exact ⟨rfl, ha2⟩
      · have q2b : (((n.batch.toNat : Nat) : Int) == ((m.batch.toNat : Nat) : Int)) = false := by
          rw [beq_eq_false_iff_ne]
          exact fun h => q2 (UInt64.toNat_inj.1 (by omega))
        have Q2 := Lib.hid q2
        clear q2
        go_wp2_with (fail)
        go_ret
        have e : (n == m) = false := by
          rw [beq_eq_false_iff_ne]
          rintro rfl
          exact Q2.out rfl
        rw [HR.out, e]
        exact ⟨rfl, ha2⟩
    · have q1b : (((n.txn.toNat : Nat) : Int) == ((m.txn.toNat : Nat) : Int)) = false := by
        rw [beq_eq_false_iff_ne]
        exact fun h => q1 (UInt64.toNat_inj.1 (by omega))
      have Q1 := Lib.hid q1
      clear q1
      go_wp2_with (fail)
      go_ret
      have e : (n == m) = false := by
        rw [beq_eq_false_iff_ne]
        rintro rfl
        exact Q1.out rfl
      rw [HR.out, e]
      exact ⟨rfl, ha2⟩
  · have q0b : (((n.kind.toNat : Nat) : Int) == ((m.kind.toNat : Nat) : Int)) = false := by
      rw [beq_eq_false_iff_ne]
      exact fun h => q0 (UInt8.toNat_inj.1 (by omega))
    have Q0 := Lib.hid q0
    clear q0
    go_wp2_with (fail)
    go_ret
    have e : (n == m) = false := by
      rw [beq_eq_false_iff_ne]
      rintro rfl
      exact Q0.out rfl
    rw [HR.out, e]
    exact ⟨rfl, ha2⟩
end Go.Proofs.YtjkffjngamagkaaDoor
