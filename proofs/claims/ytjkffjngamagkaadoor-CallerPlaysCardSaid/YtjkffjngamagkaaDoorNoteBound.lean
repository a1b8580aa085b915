/- package note: bounded. -/
import Derived.Test.YtjkffjngamagkaaDoorPackB
namespace Go.Arm
def NumsOk (n : NoteR) : Prop :=
 (n.stamp.toNat ≤ 1099511627776 ∧ n.after.toNat ≤ 1099511627776 ∧ n.mark.toNat ≤ 1099511627776) ∧ n.id.toNat ≤ 1099511627776 ∧ (0 ≤ n.k ∧ 0 ≤ n.ef ∧ 0 ≤ n.who ∧ 0 ≤ n.code) ∧ n.k ≤ 16 ∧ n.ef ≤ 256 ∧ n.who < 16 ∧ n.code ≤ 13
instance (n : NoteR) : Decidable (NumsOk n) := by unfold NumsOk; infer_instance
def SizesOk (n : NoteR) : Prop := n.parts.length ≤ 4 ∧ n.ops.length ≤ 16 ∧ n.hits.length ≤ 16
instance (n : NoteR) : Decidable (SizesOk n) := by unfold SizesOk; infer_instance
def partOk (prev : Option Int) (p : Int) : Bool := decide (0 ≤ p) && decide (p < 16) && (match prev with | none => true | some q => decide (q < p))
def partsFrom : Option Int → List Int → Bool
 | _, [] => true
 | prev, p :: l => partOk prev p && partsFrom (some p) l
theorem partsFrom_cons (prev : Option Int) (p : Int) (l : List Int) : partsFrom prev (p :: l) = (partOk prev p && partsFrom (some p) l) := by rw [partsFrom]
theorem partOk_bad (prev : Option Int) (p : Int) (h : p < 0 ∨ 16 ≤ p) : partOk prev p = false := by
 unfold partOk
 rcases h with h | h
 ·rw [decide_eq_false (show ¬ 0 ≤ p by omega)]; simp
 ·rw [decide_eq_false (show ¬ p < 16 by omega)]; simp
theorem partOk_none (p : Int) (h : 0 ≤ p) (h2 : p < 16) : partOk none p = true := by simp [partOk, h, h2]
theorem partOk_some (q p : Int) (h : 0 ≤ p) (h2 : p < 16) : partOk (some q) p = decide (q < p) := by simp [partOk, h, h2]
theorem parts_bad (prev : Option Int) (p : Int) (l : List Int) (h : p < 0 ∨ 16 ≤ p) : partsFrom prev (p :: l) = false := by
 rw [partsFrom_cons, partOk_bad _ _ h, Bool.false_and]
theorem parts_le (q p : Int) (l : List Int) (h : p ≤ q) : partsFrom (some q) (p :: l) = false := by
 have e : decide (q < p) = false := decide_eq_false (by omega)
 rw [partsFrom_cons]
 unfold partOk
 simp only [e, Bool.and_false, Bool.false_and]
theorem parts_none (p : Int) (l : List Int) (h : 0 ≤ p) (h2 : p < 16) : partsFrom none (p :: l) = partsFrom (some p) l := by
 rw [partsFrom_cons, partOk_none p h h2, Bool.true_and]
theorem parts_some (q p : Int) (l : List Int) (h : 0 ≤ p) (h2 : p < 16) (h3 : q < p) : partsFrom (some q) (p :: l) = partsFrom (some p) l := by
 rw [partsFrom_cons, partOk_some q p h h2, decide_eq_true h3, Bool.true_and]
def bounded (n : NoteR) : Bool := decide (NumsOk n) && decide (SizesOk n) && vecBare n.vec && partsFrom none n.parts && n.ops.all opRight && n.hits.all hitRight
end Go.Arm
namespace Go.Proofs.YtjkffjngamagkaaDoor
open Go Go.RowKit Go.Arm
section
variable {ops : Array Oper} {Q : Exit → Act → World → Prop} {a : Act} {w : World} {rest : List Oper}
variable {dst : Option Tmp} {ty : TypeId} {pos : String} {after : Array Edge}
theorem max3 {Q : Exit → Act → World → Prop} {x y z : Operand} {k : IntKind} {t1 t2 t3 : TypeId} {n m l : Int} (hx : a.eval x = .int k n) (hy : a.eval y = .int k m) (hz : a.eval z = .int k l) (h : ∀ r : Int, r = max (max n m) l → wpList Tryd.prog ops Q rest (a.put dst (.int k r)) w) :
  wpList Tryd.prog ops Q (⟨dst, .call ⟨.builtin .max, #[x, y, z], #[t1, t2, t3]⟩, ty, pos, after, none⟩ :: rest) a w := by
 refine wpList_plain rfl fun K hK => ?_
 have hrun : (Builtin.max_ #[t1, t2, t3] ty #[.int k n, .int k m, .int k l]).run Tryd.prog w = .ok (.int k (max (max n m) l)) w := by
  have e : (if l > (if m > n then m else n) then l else (if m > n then m else n)) = max (max n m) l := by split <;> split <;> omega
  rw [← e]
  simp [Builtin.max_, Builtin.max2]
 unfold Oper.wp
 simp only [BigFrame.execOp_builtin, BigFrame.builtin_max, List.map_toArray, List.map_cons, List.map_nil, hx, hy, hz, Sem.run_bind, hrun, Result.andThen_ok, Sem.run_pure]
 exact hK _ _ (h _ rfl)
theorem min4 {Q : Exit → Act → World → Prop} {x y z u : Operand} {k : IntKind} {t1 t2 t3 t4 : TypeId} {n m l o : Int} (hx : a.eval x = .int k n) (hy : a.eval y = .int k m) (hz : a.eval z = .int k l) (hu : a.eval u = .int k o) (h : ∀ r : Int, r = min (min (min n m) l) o → wpList Tryd.prog ops Q rest (a.put dst (.int k r)) w) :
  wpList Tryd.prog ops Q (⟨dst, .call ⟨.builtin .min, #[x, y, z, u], #[t1, t2, t3, t4]⟩, ty, pos, after, none⟩ :: rest) a w := by
 refine wpList_plain rfl fun K hK => ?_
 have hrun : (Builtin.min_ #[t1, t2, t3, t4] ty #[.int k n, .int k m, .int k l, .int k o]).run Tryd.prog w = .ok (.int k (min (min (min n m) l) o)) w := by
  have e1 : (if m < n then m else n) = min n m := by omega
  simp [Builtin.min_, Builtin.min2, e1]
  omega
 unfold Oper.wp
 simp only [BigFrame.execOp_builtin, BigFrame.builtin_min, List.map_toArray, List.map_cons, List.map_nil, hx, hy, hz, hu, Sem.run_bind, hrun, Result.andThen_ok, Sem.run_pure]
 exact hK _ _ (h _ rfl)
end
set_option maxHeartbeats 8000000 in
set_option maxRecDepth 100000 in
theorem bounded_any (w : World) (S : Nat → Prop) (n : NoteR) (V : Value) (hV : Nt w S n V) :
  Calls Tryd.prog 70 #[V] w fun e w' => e = .returned (.bool (bounded n)) ∧ Below w.heap.size w w' := by
 have hV0 := hV.old
 clear hV
 obtain ⟨R, hR⟩ : ∃ R, R = bounded n := ⟨_, rfl⟩
 rw [← hR]
 unfold bounded at hR
 have HR := Lib.hid hR
 clear hR
 obtain ⟨vp, vo, vv, vh, rfl, h1, h2, h3, h4, m1, m2, m3, m4⟩ := hV0
 unfold I64 at m1 m2 m3 m4
 unfold noteV
 obtain ⟨ap, np, cp, rfl⟩ := Sl.shape h1
 obtain ⟨ao, no, co, rfl⟩ := Sl.shape h2
 obtain ⟨av, nv, cv, rfl⟩ := Sl.shape h3
 obtain ⟨ah, nh, ch, rfl⟩ := Sl.shape h4
 have hal := (Below.refl w.heap.size w).alloc (Nat.le_refl _) (.cells #[.int .u8 (n.kind.toNat : Int), .int .u64 (n.txn.toNat : Int), .int .u64 (n.batch.toNat : Int), .int .u64 (n.stamp.toNat : Int), .int .u64 (n.after.toNat : Int), .int .u64 (n.mark.toNat : Int), .int .u64 (n.query.toNat : Int), .int .u64 (n.id.toNat : Int), .int .i64 n.k, .int .i64 n.ef, .int .i64 n.code, .int .i64 n.who, .slice ap np cp, .slice ao no co, .slice av nv cv, .slice ah nh ch] 33)
 have g1 := h1.below hal (Nat.le_refl _)
 have g2 := h2.below hal (Nat.le_refl _)
 have g3 := h3.below hal (Nat.le_refl _)
 have g4 := h4.below hal (Nat.le_refl _)
 have hpl : n.parts.length ≤ 9223372036854775807 := h1.length_le
 have hol : n.ops.length ≤ 9223372036854775807 := h2.length_le
 have hhl : n.hits.length ≤ 9223372036854775807 := h4.length_le
 clear h1 h2 h3 h4
 go_enter Tryd.func70, Tryd.ntmps70
 go_wp2_with (first | ((with_reducible apply ugZ); rfl) | ((with_reducible (first | apply len_B | apply len_BB | apply len_N | apply len_V | apply len_VV | apply len_P | apply len_O | apply len_H)); assumption) | ((with_reducible refine stop_if kT ?_ ?_); rfl))
 refine Stop.go (max3 rfl rfl rfl fun r1 hr1 => ?_)
 have HR1 := Lib.hid hr1
 clear hr1
 by_cases c1 : 1099511627776 < r1
 ·go_wp2_with (fail)
  have e : R = false := by
   rw [HR.out, decide_eq_false (show ¬ NumsOk n by unfold NumsOk; have := HR1.out; omega)]
   simp
  rw [e]
  go_ret
  exact ⟨rfl, hal⟩
 ·by_cases c2 : (1099511627776 : Int) < (n.id.toNat : Int)
  ·go_wp2_with (fail)
   have e : R = false := by
    rw [HR.out, decide_eq_false (show ¬ NumsOk n by unfold NumsOk;  omega)]
    simp
   rw [e]
   go_ret
   exact ⟨rfl, hal⟩
  ·go_wp2_with (first | ((with_reducible apply ugZ); rfl) | ((with_reducible (first | apply len_B | apply len_BB | apply len_N | apply len_V | apply len_VV | apply len_P | apply len_O | apply len_H)); assumption) | ((with_reducible refine stop_if kT ?_ ?_); rfl))
   refine Stop.go (min4 rfl rfl rfl rfl fun r2 hr2 => ?_)
   have HR2 := Lib.hid hr2
   clear hr2
   by_cases c3 : r2 < 0
   ·go_wp2_with (fail)
    have e : R = false := by
     rw [HR.out, decide_eq_false (show ¬ NumsOk n by unfold NumsOk; have := HR2.out; omega)]
     simp
    rw [e]
    go_ret
    exact ⟨rfl, hal⟩
   ·by_cases c4 : 16 < n.k
    ·go_wp2_with (fail)
     have e : R = false := by
      rw [HR.out, decide_eq_false (show ¬ NumsOk n by unfold NumsOk;  omega)]
      simp
     rw [e]
     go_ret
     exact ⟨rfl, hal⟩
    ·by_cases c5 : 256 < n.ef
     ·go_wp2_with (fail)
      have e : R = false := by
       rw [HR.out, decide_eq_false (show ¬ NumsOk n by unfold NumsOk;  omega)]
       simp
      rw [e]
      go_ret
      exact ⟨rfl, hal⟩
     ·by_cases c6 : 16 ≤ n.who
      ·go_wp2_with (fail)
       have e : R = false := by
        rw [HR.out, decide_eq_false (show ¬ NumsOk n by unfold NumsOk;  omega)]
        simp
       rw [e]
       go_ret
       exact ⟨rfl, hal⟩
      ·by_cases c7 : 13 < n.code
       ·go_wp2_with (fail)
        have e : R = false := by
         rw [HR.out, decide_eq_false (show ¬ NumsOk n by unfold NumsOk;  omega)]
         simp
        rw [e]
        go_ret
        exact ⟨rfl, hal⟩
       ·have hnums : NumsOk n := by unfold NumsOk; have := HR1.out; have := HR2.out; omega
        have e := HR.out
        rw [decide_eq_true hnums] at e
        have HR := Lib.hid e
        clear e
        by_cases d1 : (4 : Int) < (n.parts.length : Int)
        ·go_wp2_with (first | ((with_reducible apply ugZ); rfl) | ((with_reducible (first | apply len_B | apply len_BB | apply len_N | apply len_V | apply len_VV | apply len_P | apply len_O | apply len_H)); assumption) | ((with_reducible refine stop_if kT ?_ ?_); rfl))
         have e : R = false := by
          rw [HR.out, decide_eq_false (show ¬ SizesOk n by unfold SizesOk; omega)]
          simp
         rw [e]
         go_ret
         exact ⟨rfl, hal⟩
        ·by_cases d2 : (16 : Int) < (n.ops.length : Int)
         ·go_wp2_with (first | ((with_reducible apply ugZ); rfl) | ((with_reducible (first | apply len_B | apply len_BB | apply len_N | apply len_V | apply len_VV | apply len_P | apply len_O | apply len_H)); assumption) | ((with_reducible refine stop_if kT ?_ ?_); rfl))
          have e : R = false := by
           rw [HR.out, decide_eq_false (show ¬ SizesOk n by unfold SizesOk; omega)]
           simp
          rw [e]
          go_ret
          exact ⟨rfl, hal⟩
         ·by_cases d3 : (16 : Int) < (n.hits.length : Int)
          ·go_wp2_with (first | ((with_reducible apply ugZ); rfl) | ((with_reducible (first | apply len_B | apply len_BB | apply len_N | apply len_V | apply len_VV | apply len_P | apply len_O | apply len_H)); assumption) | ((with_reducible refine stop_if kT ?_ ?_); rfl))
           have e : R = false := by
            rw [HR.out, decide_eq_false (show ¬ SizesOk n by unfold SizesOk; omega)]
            simp
           rw [e]
           go_ret
           exact ⟨rfl, hal⟩
          ·have hsz : SizesOk n := by unfold SizesOk; omega
           have e := HR.out
           rw [decide_eq_true hsz] at e
           have HR := Lib.hid e
           clear e
           go_wp2_with (first | ((with_reducible apply ugZ); rfl) | ((with_reducible (first | apply len_B | apply len_BB | apply len_N | apply len_V | apply len_VV | apply len_P | apply len_O | apply len_H)); assumption) | ((with_reducible refine stop_if kT ?_ ?_); rfl))
           have e1 := heap_alloc_new w (.cells #[.int .u8 (n.kind.toNat : Int), .int .u64 (n.txn.toNat : Int), .int .u64 (n.batch.toNat : Int), .int .u64 (n.stamp.toNat : Int), .int .u64 (n.after.toNat : Int), .int .u64 (n.mark.toNat : Int), .int .u64 (n.query.toNat : Int), .int .u64 (n.id.toNat : Int), .int .i64 n.k, .int .i64 n.ef, .int .i64 n.code, .int .i64 n.who, .slice ap np cp, .slice ao no co, .slice av nv cv, .slice ah nh ch] 33)
           obtain ⟨w1, hw1⟩ : ∃ w1, w1 = w.alloc (.cells #[.int .u8 (n.kind.toNat : Int), .int .u64 (n.txn.toNat : Int), .int .u64 (n.batch.toNat : Int), .int .u64 (n.stamp.toNat : Int), .int .u64 (n.after.toNat : Int), .int .u64 (n.mark.toNat : Int), .int .u64 (n.query.toNat : Int), .int .u64 (n.id.toNat : Int), .int .i64 n.k, .int .i64 n.ef, .int .i64 n.code, .int .i64 n.who, .slice ap np cp, .slice ao no co, .slice av nv cv, .slice ah nh ch] 33) := ⟨_, rfl⟩
           rw [← hw1] at hal g1 g2 g3 g4 e1 ⊢
           clear hw1
           have hI : ∀ wq, Below w1.heap.size w1 wq → wq.cell? ⟨w.heap.size, 12, none⟩ = some (.slice ap np cp) ∧ wq.cell? ⟨w.heap.size, 13, none⟩ = some (.slice ao no co) ∧ wq.cell? ⟨w.heap.size, 15, none⟩ = some (.slice ah nh ch) := by
            intro wq hb
            have e2 := hb.block w.heap.size (Array.getElem?_eq_some_iff.1 e1).1
            rw [e1] at e2
            simp [World.cell?, e2]
           refine (bare_any w1 _ _ _ g3).mono ?_
           rintro e w2 ⟨rfl, hb2⟩
           obtain ⟨c12, c13, c15⟩ := hI w2 hb2
           by_cases hbv : vecBare n.vec = true
           ·rw [hbv]
            have e := HR.out
            rw [hbv] at e
            have HR := Lib.hid e
            clear e
            have p2 := g1.below hb2 (Nat.le_refl _)
            go_wp2_with (first | ((with_reducible apply ugZ); rfl) | ((with_reducible (first | apply len_B | apply len_BB | apply len_N | apply len_V | apply len_VV | apply len_P | apply len_O | apply len_H)); assumption) | ((with_reducible refine stop_if kT ?_ ?_); rfl))
            go_loopg [3, 4, 76] (n.parts.length + 1) (fun k x y i wr => ∃ j : Nat, k = n.parts.length - j + 1 ∧ j ≤ n.parts.length ∧ i = .int .i64 j ∧ wr = w2 ∧ partsFrom none n.parts = partsFrom (if j = 0 then none else n.parts[j - 1]?) (n.parts.drop j))
            case atStart => exact ⟨0, by omega, by omega, rfl, rfl, by simp⟩
            case round =>
             obtain ⟨j, hk, hj, rfl, rfl, hpf⟩ := hrel
             have Hk := Lib.hid hk
             have Hpf := Lib.hid hpf
             clear hk hpf
             by_cases hlt : j < n.parts.length
             ·go_wp2_with (first | ((with_reducible apply ugZ); rfl) | ((with_reducible (first | apply len_B | apply len_BB | apply len_N | apply len_V | apply len_VV | apply len_P | apply len_O | apply len_H)); assumption) | ((with_reducible refine stop_if kT ?_ ?_); rfl))
              refine Stop.go (idx_P p2 rfl (by omega) (by omega) fun b5 o5 p hp hp6 hcell => ?_)
              have hd : n.parts.drop j = p :: n.parts.drop (j + 1) := by
               obtain ⟨hl5, e5⟩ := List.getElem?_eq_some_iff.1 hp
               simp only [Int.toNat_natCast] at e5
               rw [← e5]
               exact List.drop_eq_getElem_cons hlt
              have Hd := Lib.hid hd
              have HP := Lib.hid hp
              clear hd hp
              by_cases q1 : p < 0
              ·go_wp2_with (fail)
               have e : R = false := by
                rw [HR.out, Hpf.out, Hd.out, parts_bad _ _ _ (Or.inl q1)]
                simp
               rw [e]
               go_ret
               exact ⟨rfl, below_on hal hb2 hal.size⟩
              ·have q1' : 0 ≤ p := by omega
               by_cases q2 : 16 ≤ p
               ·go_wp2_with (fail)
                have e : R = false := by
                 rw [HR.out, Hpf.out, Hd.out, parts_bad _ _ _ (Or.inr q2)]
                 simp
                rw [e]
                go_ret
                exact ⟨rfl, below_on hal hb2 hal.size⟩
               ·have q2' : p < 16 := by omega
                by_cases hj0 : (0 : Int) < (j : Int)
                ·go_wp2_with (first | ((with_reducible apply ugZ); rfl) | ((with_reducible (first | apply len_B | apply len_BB | apply len_N | apply len_V | apply len_VV | apply len_P | apply len_O | apply len_H)); assumption) | ((with_reducible refine stop_if kT ?_ ?_); rfl))
                 refine Stop.go (idx_P p2 rfl (by omega) (by omega) fun b7 o7 q hq hq6 hcell3 => ?_)
                 have hq' : n.parts[j - 1]? = some q := by rw [← hq]; congr 1; omega
                 have HQ := Lib.hid hq'
                 clear hq hq'
                 by_cases q3 : p ≤ q
                 ·go_wp2_with (fail)
                  have e : R = false := by
                   rw [HR.out, Hpf.out, Hd.out, if_neg (by omega), HQ.out, parts_le q p _ q3]
                   simp
                  rw [e]
                  go_ret
                  exact ⟨rfl, below_on hal hb2 hal.size⟩
                 ·have q3' : q < p := by omega
                  go_wp2_with (fail)
                  go_roundg (n.parts.length - (j + 1) + 1)
                  case measure => have := Hk.out; omega
                  case rel =>
                   refine ⟨j + 1, by omega, by omega, by go_num, rfl, ?_⟩
                   rw [Hpf.out, Hd.out, if_neg (by omega), HQ.out, if_neg (by omega), show n.parts[j + 1 - 1]? = some p from by simpa using HP.out, parts_some q p _ q1' q2' q3']
                ·go_wp2_with (fail)
                 go_roundg (n.parts.length - (j + 1) + 1)
                 case measure => have := Hk.out; omega
                 case rel =>
                  refine ⟨j + 1, by omega, by omega, by go_num, rfl, ?_⟩
                  rw [Hpf.out, Hd.out, if_pos (by omega), if_neg (by omega), show n.parts[j + 1 - 1]? = some p from by simpa using HP.out, parts_none p _ q1' q2']
             ·have hpt : partsFrom none n.parts = true := by rw [Hpf.out, List.drop_of_length_le (by omega)]; rfl
              have e := HR.out
              rw [hpt] at e
              have HR := Lib.hid e
              clear e hpt
              have o2 := g2.below hb2 (Nat.le_refl _)
              go_wp2_with (first | ((with_reducible apply ugZ); rfl) | ((with_reducible (first | apply len_B | apply len_BB | apply len_N | apply len_V | apply len_VV | apply len_P | apply len_O | apply len_H)); assumption) | ((with_reducible refine stop_if kT ?_ ?_); rfl))
              refine (contains_O _ _ n.ops _ o2).mono ?_
              rintro e w3 ⟨rfl, hb3⟩
              have hB3 := below_on hb2 hb3 hb2.size
              obtain ⟨d12, d13, d15⟩ := hI w3 hB3
              have h3h := g4.below hB3 (Nat.le_refl _)
              by_cases ha : n.ops.all opRight = true
              ·rw [ha]
               have e := HR.out
               rw [ha] at e
               have HR := Lib.hid e
               clear e
               simp only [Bool.not_true]
               go_wp2_with (first | ((with_reducible apply ugZ); rfl) | ((with_reducible (first | apply len_B | apply len_BB | apply len_N | apply len_V | apply len_VV | apply len_P | apply len_O | apply len_H)); assumption) | ((with_reducible refine stop_if kT ?_ ?_); rfl))
               refine (contains_H w3 _ n.hits _ h3h).mono ?_
               rintro e w4 ⟨rfl, hb4⟩
               go_wp2_with (first | ((with_reducible apply ugZ); rfl) | ((with_reducible (first | apply len_B | apply len_BB | apply len_N | apply len_V | apply len_VV | apply len_P | apply len_O | apply len_H)); assumption) | ((with_reducible refine stop_if kT ?_ ?_); rfl))
               go_ret
               rw [HR.out]
               refine ⟨by simp, below_on (below_on hal hB3 hal.size) hb4 (by have := hal.size; have := hB3.size; omega)⟩
              ·rw [Bool.not_eq_true] at ha
               have e : R = false := by rw [HR.out, ha]; simp
               rw [ha]
               simp only [Bool.not_false]
               go_wp2_with (first | ((with_reducible apply ugZ); rfl) | ((with_reducible (first | apply len_B | apply len_BB | apply len_N | apply len_V | apply len_VV | apply len_P | apply len_O | apply len_H)); assumption) | ((with_reducible refine stop_if kT ?_ ?_); rfl))
               go_ret
               rw [e]
               exact ⟨rfl, below_on hal hB3 hal.size⟩
           ·rw [Bool.not_eq_true] at hbv
            have e : R = false := by
             rw [HR.out, hbv]
             simp
            rw [hbv]
            go_wp2_with (first | ((with_reducible apply ugZ); rfl) | ((with_reducible (first | apply len_B | apply len_BB | apply len_N | apply len_V | apply len_VV | apply len_P | apply len_O | apply len_H)); assumption) | ((with_reducible refine stop_if kT ?_ ?_); rfl))
            go_ret
            rw [e]
            exact ⟨rfl, below_on hal hb2 hal.size⟩
end Go.Proofs.YtjkffjngamagkaaDoor
