/- An Item and two Writers side by side. -/
import Derived.Test.YtfgagfemhmcdfaaFew
namespace Go.Proofs.Ytfgagfemhmcdfaa
open Go Go.RowKit Go.Arm

structure St (w1 w : World) (bx : Nat) (vn vt vv : Value) (ga : Nat) (ha : Option Nat) (la : List UInt8) (gb : Nat) (hb : Option Nat) (lb : List UInt8) : Prop where
  below : Below w1.heap.size w1 w
  it : It w bx 0 vn vt vv 0
  ge : w1.heap.size ≤ bx
  wa : Wf w1 w ga ha la
  wb : Wf w1 w gb hb lb
  ne : ga ≠ gb
  xa : bx ≠ ga
  xb : bx ≠ gb
  rxa : ha ≠ some bx
  rxb : hb ≠ some bx
  rab : ha ≠ some gb
  rba : hb ≠ some ga
  rr : ∀ k, ha = some k → hb ≠ some k

theorem St.swap {w1 w : World} {bx : Nat} {vn vt vv : Value} {ga : Nat} {ha : Option Nat} {la : List UInt8} {gb : Nat} {hb : Option Nat} {lb : List UInt8} (s : St w1 w bx vn vt vv ga ha la gb hb lb) : St w1 w bx vn vt vv gb hb lb ga ha la :=
  ⟨s.below, s.it, s.ge, s.wb, s.wa, s.ne.symm, s.xb, s.xa, s.rxb, s.rxa, s.rba, s.rab, fun k h1 h2 => s.rr k h2 h1⟩

theorem St.alloc {w1 w w' : World} {bx : Nat} {vn vt vv : Value} {ga : Nat} {ha : Option Nat} {la : List UInt8} {gb : Nat} {hb : Option Nat} {lb : List UInt8} (s : St w1 w bx vn vt vv ga ha la gb hb lb) (h : Below w.heap.size w w') : St w1 w' bx vn vt vv ga ha la gb hb lb :=
  ⟨below_on s.below h s.below.size, s.it.only (Only.of_below h) (by have := s.it.lt; omega), s.ge, s.wa.keep h, s.wb.keep h, s.ne, s.xa, s.xb, s.rxa, s.rxb, s.rab, s.rba, s.rr⟩

theorem St.write {w1 w w' : World} {bx : Nat} {vn vt vv : Value} {ga : Nat} {ha : Option Nat} {la : List UInt8} {gb : Nat} {hb hb' : Option Nat} {lb lb' : List UInt8} (s : St w1 w bx vn vt vv ga ha la gb hb lb) (hw : Wr w' gb hb' lb') (m : Mv w w' gb hb hb') : St w1 w' bx vn vt vv ga ha la gb hb' lb' := by
  have h1 := s.it.lt
  have h2 := s.wa.wr.lt
  refine ⟨s.wb.below s.below m, s.it.only m.2 ?_, s.ge, s.wa.only m.2 ?_ ?_, s.wb.step hw m, s.ne, s.xa, s.xb, s.rxa, m.far h1 s.rxb, s.rab, m.far h2 s.rba, ?_⟩
  · rintro (h | h)
    · exact s.xb h
    · exact s.rxb h
  · rintro (h | h)
    · exact s.ne h
    · exact s.rba h
  · rintro k hk (h | h)
    · exact s.rab (by rw [hk, h])
    · exact s.rr k hk h
  · intro k hk
    exact m.far (s.wa.wr.row_lt k hk) (s.rr k hk)
theorem St.writeA {w1 w w' : World} {bx : Nat} {vn vt vv : Value} {ga : Nat} {ha ha' : Option Nat} {la la' : List UInt8} {gb : Nat} {hb : Option Nat} {lb : List UInt8} (s : St w1 w bx vn vt vv ga ha la gb hb lb) (hw : Wr w' ga ha' la') (m : Mv w w' ga ha ha') : St w1 w' bx vn vt vv ga ha' la' gb hb lb := (s.swap.write hw m).swap

/-- What lay there ahead of them stands behind no Writer. -/
theorem St.free {w1 w : World} {bx : Nat} {vn vt vv : Value} {ga : Nat} {ha : Option Nat} {la : List UInt8} {gb : Nat} {hb : Option Nat} {lb : List UInt8} (s : St w1 w bx vn vt vv ga ha la gb hb lb) : ∀ b, b < w1.heap.size → b < w.heap.size ∧ b ≠ gb ∧ hb ≠ some b := by
  intro b hb'
  refine ⟨by have := s.below.size; omega, by have := s.wb.ge; omega, fun e => by have := s.wb.row b e; omega⟩
/-- Nor what was laid later. -/
theorem St.new {w1 w : World} {bx : Nat} {vn vt vv : Value} {ga : Nat} {ha : Option Nat} {la : List UInt8} {gb : Nat} {hb : Option Nat} {lb : List UInt8} (s : St w1 w bx vn vt vv ga ha la gb hb lb) {w' : World} (h : w.heap.size < w'.heap.size) : w.heap.size < w'.heap.size ∧ w.heap.size ≠ gb ∧ hb ≠ some w.heap.size := by
  refine ⟨h, by have := s.wb.wr.lt; omega, fun e => by have := s.wb.wr.row_lt _ e; omega⟩

/-- The three made. -/
theorem St.start (w1 : World) (vn vt vv : Value) :
    St w1 (((w1.alloc (.cells #[.int .u8 0, vn, vt, vv, .int .i64 0] 36)).alloc (.cells #[.slice none 0 0] 27)).alloc (.cells #[.slice none 0 0] 27)) w1.heap.size vn vt vv (w1.heap.size + 1) none [] (w1.heap.size + 1 + 1) none [] := by
  have b1 := (Below.refl w1.heap.size w1).alloc (Nat.le_refl _) (.cells #[.int .u8 0, vn, vt, vv, .int .i64 0] 36)
  have s1 := halloc_size w1 (.cells #[.int .u8 0, vn, vt, vv, .int .i64 0] 36)
  have i1 : It (w1.alloc (.cells #[.int .u8 0, vn, vt, vv, .int .i64 0] 36)) w1.heap.size 0 vn vt vv 0 := heap_alloc_new w1 _
  generalize w1.alloc (.cells #[.int .u8 0, vn, vt, vv, .int .i64 0] 36) = w2 at *
  have b2 := (Below.refl w2.heap.size w2).alloc (Nat.le_refl _) (.cells #[.slice none 0 0] 27)
  have s2 := halloc_size w2 (.cells #[.slice none 0 0] 27)
  have f2 : Wf w1 (w2.alloc (.cells #[.slice none 0 0] 27)) w2.heap.size none [] := Wf.fresh b1.size
  generalize w2.alloc (.cells #[.slice none 0 0] 27) = w3 at *
  have b3 := (Below.refl w3.heap.size w3).alloc (Nat.le_refl _) (.cells #[.slice none 0 0] 27)
  have f3 : Wf w1 (w3.alloc (.cells #[.slice none 0 0] 27)) w3.heap.size none [] := Wf.fresh (by omega)
  generalize w3.alloc (.cells #[.slice none 0 0] 27) = w4 at *
  rw [s1] at s2 f2
  rw [s2] at f3
  have hb3 := below_on b1 b2 (by omega)
  exact ⟨below_on hb3 b3 (by omega), (i1.only (Only.of_below b2) (by omega)).only (Only.of_below b3) (by omega), Nat.le_refl _, f2.keep b3, f3, by omega, by omega, by omega, by simp, by simp, by simp, by simp, by simp⟩

theorem Mv.gap {w w' : World} {g : Nat} {h h' : Option Nat} (m : Mv w w' g h h') {A B : Nat} (hr : ∀ k, h = some k → ¬ (A ≤ k ∧ k < B)) (hB : B ≤ w.heap.size) : ∀ k, h' = some k → ¬ (A ≤ k ∧ k < B) := by
  intro k hk
  rcases m.1 with e | ⟨j, e, hj⟩
  · exact hr k (e.symm.trans hk)
  · rw [hk] at e; cases e; omega

theorem encs_len (l : List UInt64) : (encs l).length ≤ l.length * 10 := by
  unfold encs
  induction l with
  | nil => simp
  | cons y v ih =>
    have := enc_len10 y.toNat y.toNat_lt
    rw [List.flatMap_cons, List.length_append, List.length_cons]
    omega
theorem encTexts_len (K : Nat) (hK : K ≤ 1000) : ∀ (l : List (List UInt8)), (∀ t ∈ l, t.length ≤ K) → (encTexts l).length ≤ l.length * (10 + K)
  | [], _ => by simp [encTexts]
  | y :: v, h => by
    have ih := encTexts_len K hK v (fun t ht => h t (List.mem_cons_of_mem _ ht))
    have h1 := h y (List.mem_cons_self ..)
    have := encText_len y (by omega)
    unfold encTexts at *
    rw [List.flatMap_cons, List.length_append, List.length_cons, Nat.add_mul]
    omega
theorem encVec_len (v : List Int32) (h : v.length ≤ 1000) : (encVec v).length ≤ 10 + v.length * 10 := by
  have := encInts_len v
  have := enc_len10 v.length (by omega)
  rw [encVec, List.length_append]
  unfold encInts at *
  omega
theorem encVecs_len (K : Nat) (hK : K ≤ 1000) : ∀ (l : List (List Int32)), (∀ t ∈ l, t.length ≤ K) → (encVecs l).length ≤ l.length * (10 + K * 10)
  | [], _ => by simp [encVecs]
  | y :: v, h => by
    have ih := encVecs_len K hK v (fun t ht => h t (List.mem_cons_of_mem _ ht))
    have h1 := h y (List.mem_cons_self ..)
    have := encVec_len y (by omega)
    unfold encVecs at *
    rw [List.flatMap_cons, List.length_append, List.length_cons, Nat.add_mul]
    omega
end Go.Proofs.Ytfgagfemhmcdfaa
