/- A note in a block of its own; which fields a kind may have. -/
import Derived.Test.YtjkffjngamagkaaDoorPackB
namespace Go.Arm
open Go.RowKit
def fits : List Bool → Nat → Bool
 | [], _ => true
 | b :: l, m => (!b || m % 2 == 1) && fits l (m / 2)
theorem maskOf_bit : ∀ (l : List Bool) (i : Nat), (maskOf l).testBit i = l.getD i false
 | [], i => by simp [maskOf]
 | b :: l, 0 => by cases b <;> simp [maskOf, Nat.testBit_zero] <;> omega
 | b :: l, i + 1 => by
  have ih := maskOf_bit l i
  rw [Nat.testBit_succ, maskOf, show ((if b = true then 1 else 0) + 2 * maskOf l) / 2 = maskOf l by split <;> omega, ih]
  simp
theorem fits_iff : ∀ (l : List Bool) (m : Nat), fits l m = true ↔ ∀ i, l.getD i false = true → m.testBit i = true
 | [], m => by simp [fits]
 | b :: l, m => by
  have ih := fits_iff l (m / 2)
  rw [fits, Bool.and_eq_true, ih]
  constructor
  ·rintro ⟨h1, h2⟩ i hi
   cases i with
   | zero => simp at hi; subst hi; simpa [Nat.testBit_zero] using h1
   | succ i => rw [Nat.testBit_succ]; exact h2 i (by simpa using hi)
  ·intro h
   refine ⟨?_, fun i hi => ?_⟩
   ·have := h 0
    cases b
    ·simp
    ·simpa [Nat.testBit_zero] using this
   ·have := h (i + 1) (by simpa using hi)
    rwa [Nat.testBit_succ] at this
theorem fits_nat (l : List Bool) (m : Nat) (hm : m < 2 ^ 64) (hl : l.length ≤ 64) : (maskOf l &&& (2 ^ 64 - 1 - m) == 0) = fits l m := by
 rw [Bool.eq_iff_iff, beq_iff_eq, fits_iff]
 constructor
 ·intro h i hi
  have hb := congrArg (fun x => Nat.testBit x i) h
  simp only [Nat.testBit_and, maskOf_bit, hi, Nat.zero_testBit, Bool.true_and] at hb
  rw [show 2 ^ 64 - 1 - m = 2 ^ 64 - (m + 1) by omega, Nat.testBit_two_pow_sub_succ hm] at hb
  have : i < 64 := by
   rcases Nat.lt_or_ge i l.length with h | h
   ·omega
   ·simp [List.getD_eq_getElem?_getD, List.getElem?_eq_none h] at hi
  simpa [this] using hb
 ·intro h
  refine Nat.eq_of_testBit_eq fun i => ?_
  rw [Nat.testBit_and, maskOf_bit, show 2 ^ 64 - 1 - m = 2 ^ 64 - (m + 1) by omega, Nat.testBit_two_pow_sub_succ hm, Nat.zero_testBit]
  cases hi : l.getD i false
  ·simp
  ·simp [h i hi]
end Go.Arm
namespace Go.Proofs.YtjkffjngamagkaaDoor
open Go Go.RowKit Go.Arm
theorem andNot_fits (l : List Bool) (m : Nat) (hm : m < 65536) (hl : l.length ≤ 60) : (bits .andNot .i64 (maskOf l : Int) (m : Int) == 0) = fits l m := by
 have hw : ∀ n : Nat, n < 9223372036854775808 → IntKind.i64.wrap (n : Int) = n := by
  intro n hn
  simp [IntKind.wrap, IntKind.signed, IntKind.bits]
  omega
 have hx : maskOf l < 2 ^ 60 := Nat.lt_of_lt_of_le (maskOf_lt l) (Nat.pow_le_pow_right (by decide) hl)
 rw [← fits_nat l m (by omega) (by omega)]
 unfold bits
 simp only [BitVec.ofInt_natCast]
 rw [BitVec.toNat_and, BitVec.toNat_not, BitVec.toNat_ofNat, BitVec.toNat_ofNat, Nat.mod_eq_of_lt (show maskOf l < 2 ^ IntKind.i64.bits by show maskOf l < 18446744073709551616; omega), Nat.mod_eq_of_lt (show m < 2 ^ IntKind.i64.bits by show m < 18446744073709551616; omega)]
 show (IntKind.i64.wrap ((maskOf l &&& (2 ^ 64 - 1 - m) : Nat) : Int) == 0) = _
 have hlt : maskOf l &&& (2 ^ 64 - 1 - m) < 9223372036854775808 := by
  rw [Nat.and_comm]
  exact Nat.and_lt_two_pow (n := 63) _ (by omega)
 rw [hw _ hlt]
 generalize maskOf l &&& (2 ^ 64 - 1 - m) = x
 rw [Bool.eq_iff_iff, beq_iff_eq, beq_iff_eq]
 omega
theorem sortMask_lt (k : Nat) : sortMask k < 65536 := by
 by_cases h : k < 23
 ·have : ∀ k : Fin 23, sortMask k.val < 65536 := by decide
  exact this ⟨k, h⟩
 ·rw [sortMask, sortAt_far k (by omega)]; decide
theorem heldBits_len (n : NoteR) : (heldBits n).length = 15 := rfl
def Box (w : World) (b : Nat) (n : NoteR) (vp vo vv vh : Value) : Prop := w.heap[b]? = some (.cells #[.int .u8 (n.kind.toNat : Int), .int .u64 (n.txn.toNat : Int), .int .u64 (n.batch.toNat : Int), .int .u64 (n.stamp.toNat : Int), .int .u64 (n.after.toNat : Int), .int .u64 (n.mark.toNat : Int), .int .u64 (n.query.toNat : Int), .int .u64 (n.id.toNat : Int), .int .i64 n.k, .int .i64 n.ef, .int .i64 n.code, .int .i64 n.who, vp, vo, vv, vh] 33)
theorem Box.new (w : World) (n : NoteR) (vp vo vv vh : Value) : Box (w.alloc (.cells #[.int .u8 (n.kind.toNat : Int), .int .u64 (n.txn.toNat : Int), .int .u64 (n.batch.toNat : Int), .int .u64 (n.stamp.toNat : Int), .int .u64 (n.after.toNat : Int), .int .u64 (n.mark.toNat : Int), .int .u64 (n.query.toNat : Int), .int .u64 (n.id.toNat : Int), .int .i64 n.k, .int .i64 n.ef, .int .i64 n.code, .int .i64 n.who, vp, vo, vv, vh] 33)) w.heap.size n vp vo vv vh := heap_alloc_new w _
theorem Box.lt {w : World} {b : Nat} {n : NoteR} {vp vo vv vh : Value} (h : Box w b n vp vo vv vh) : b < w.heap.size := (Array.getElem?_eq_some_iff.1 h).1
theorem Box.below {w w' : World} {b : Nat} {n : NoteR} {vp vo vv vh : Value} (h : Box w b n vp vo vv vh) {B : Nat} (hb : Below B w w') (hB : b < B) : Box w' b n vp vo vv vh := (hb.block b hB).trans h
theorem Box.only {w w' : World} {b : Nat} {n : NoteR} {vp vo vv vh : Value} (h : Box w b n vp vo vv vh) {G : Nat → Prop} (ho : Only G w w') (hG : ¬ G b) : Box w' b n vp vo vv vh := (ho.block b h.lt hG).trans h
theorem Box.cells {w : World} {b : Nat} {n : NoteR} {vp vo vv vh : Value} (h : Box w b n vp vo vv vh) : w.cell? ⟨b, 0, none⟩ = some (.int .u8 (n.kind.toNat : Int)) ∧ w.cell? ⟨b, 1, none⟩ = some (.int .u64 (n.txn.toNat : Int)) ∧ w.cell? ⟨b, 2, none⟩ = some (.int .u64 (n.batch.toNat : Int)) ∧ w.cell? ⟨b, 3, none⟩ = some (.int .u64 (n.stamp.toNat : Int)) ∧ w.cell? ⟨b, 4, none⟩ = some (.int .u64 (n.after.toNat : Int)) ∧ w.cell? ⟨b, 5, none⟩ = some (.int .u64 (n.mark.toNat : Int)) ∧ w.cell? ⟨b, 6, none⟩ = some (.int .u64 (n.query.toNat : Int)) ∧ w.cell? ⟨b, 7, none⟩ = some (.int .u64 (n.id.toNat : Int)) ∧ w.cell? ⟨b, 8, none⟩ = some (.int .i64 n.k) ∧ w.cell? ⟨b, 9, none⟩ = some (.int .i64 n.ef) ∧ w.cell? ⟨b, 10, none⟩ = some (.int .i64 n.code) ∧ w.cell? ⟨b, 11, none⟩ = some (.int .i64 n.who) ∧ w.cell? ⟨b, 12, none⟩ = some vp ∧ w.cell? ⟨b, 13, none⟩ = some vo ∧ w.cell? ⟨b, 14, none⟩ = some vv ∧ w.cell? ⟨b, 15, none⟩ = some vh := by
 have e : w.heap[b]? = some (.cells #[.int .u8 (n.kind.toNat : Int), .int .u64 (n.txn.toNat : Int), .int .u64 (n.batch.toNat : Int), .int .u64 (n.stamp.toNat : Int), .int .u64 (n.after.toNat : Int), .int .u64 (n.mark.toNat : Int), .int .u64 (n.query.toNat : Int), .int .u64 (n.id.toNat : Int), .int .i64 n.k, .int .i64 n.ef, .int .i64 n.code, .int .i64 n.who, vp, vo, vv, vh] 33) := h
 refine ⟨?_, ?_, ?_, ?_, ?_, ?_, ?_, ?_, ?_, ?_, ?_, ?_, ?_, ?_, ?_, ?_⟩ <;> simp [World.cell?, e]
theorem Box.c0 {w : World} {b : Nat} {n : NoteR} {vp vo vv vh : Value} (h : Box w b n vp vo vv vh) : w.cell? ⟨b, 0, none⟩ = some (.int .u8 (n.kind.toNat : Int)) := h.cells.1
theorem Box.c1 {w : World} {b : Nat} {n : NoteR} {vp vo vv vh : Value} (h : Box w b n vp vo vv vh) : w.cell? ⟨b, 1, none⟩ = some (.int .u64 (n.txn.toNat : Int)) := h.cells.2.1
theorem Box.c2 {w : World} {b : Nat} {n : NoteR} {vp vo vv vh : Value} (h : Box w b n vp vo vv vh) : w.cell? ⟨b, 2, none⟩ = some (.int .u64 (n.batch.toNat : Int)) := h.cells.2.2.1
theorem Box.c3 {w : World} {b : Nat} {n : NoteR} {vp vo vv vh : Value} (h : Box w b n vp vo vv vh) : w.cell? ⟨b, 3, none⟩ = some (.int .u64 (n.stamp.toNat : Int)) := h.cells.2.2.2.1
theorem Box.c4 {w : World} {b : Nat} {n : NoteR} {vp vo vv vh : Value} (h : Box w b n vp vo vv vh) : w.cell? ⟨b, 4, none⟩ = some (.int .u64 (n.after.toNat : Int)) := h.cells.2.2.2.2.1
theorem Box.c5 {w : World} {b : Nat} {n : NoteR} {vp vo vv vh : Value} (h : Box w b n vp vo vv vh) : w.cell? ⟨b, 5, none⟩ = some (.int .u64 (n.mark.toNat : Int)) := h.cells.2.2.2.2.2.1
theorem Box.c6 {w : World} {b : Nat} {n : NoteR} {vp vo vv vh : Value} (h : Box w b n vp vo vv vh) : w.cell? ⟨b, 6, none⟩ = some (.int .u64 (n.query.toNat : Int)) := h.cells.2.2.2.2.2.2.1
theorem Box.c7 {w : World} {b : Nat} {n : NoteR} {vp vo vv vh : Value} (h : Box w b n vp vo vv vh) : w.cell? ⟨b, 7, none⟩ = some (.int .u64 (n.id.toNat : Int)) := h.cells.2.2.2.2.2.2.2.1
theorem Box.c8 {w : World} {b : Nat} {n : NoteR} {vp vo vv vh : Value} (h : Box w b n vp vo vv vh) : w.cell? ⟨b, 8, none⟩ = some (.int .i64 n.k) := h.cells.2.2.2.2.2.2.2.2.1
theorem Box.c9 {w : World} {b : Nat} {n : NoteR} {vp vo vv vh : Value} (h : Box w b n vp vo vv vh) : w.cell? ⟨b, 9, none⟩ = some (.int .i64 n.ef) := h.cells.2.2.2.2.2.2.2.2.2.1
theorem Box.c10 {w : World} {b : Nat} {n : NoteR} {vp vo vv vh : Value} (h : Box w b n vp vo vv vh) : w.cell? ⟨b, 10, none⟩ = some (.int .i64 n.code) := h.cells.2.2.2.2.2.2.2.2.2.2.1
theorem Box.c11 {w : World} {b : Nat} {n : NoteR} {vp vo vv vh : Value} (h : Box w b n vp vo vv vh) : w.cell? ⟨b, 11, none⟩ = some (.int .i64 n.who) := h.cells.2.2.2.2.2.2.2.2.2.2.2.1
theorem Box.c12 {w : World} {b : Nat} {n : NoteR} {vp vo vv vh : Value} (h : Box w b n vp vo vv vh) : w.cell? ⟨b, 12, none⟩ = some vp := h.cells.2.2.2.2.2.2.2.2.2.2.2.2.1
theorem Box.c13 {w : World} {b : Nat} {n : NoteR} {vp vo vv vh : Value} (h : Box w b n vp vo vv vh) : w.cell? ⟨b, 13, none⟩ = some vo := h.cells.2.2.2.2.2.2.2.2.2.2.2.2.2.1
theorem Box.c14 {w : World} {b : Nat} {n : NoteR} {vp vo vv vh : Value} (h : Box w b n vp vo vv vh) : w.cell? ⟨b, 14, none⟩ = some vv := h.cells.2.2.2.2.2.2.2.2.2.2.2.2.2.2.1
theorem Box.c15 {w : World} {b : Nat} {n : NoteR} {vp vo vv vh : Value} (h : Box w b n vp vo vv vh) : w.cell? ⟨b, 15, none⟩ = some vh := h.cells.2.2.2.2.2.2.2.2.2.2.2.2.2.2.2
theorem Box.nums {w : World} {b : Nat} {n : NoteR} {vp vo vv vh : Value} (h : Box w b n vp vo vv vh) : w.cell? ⟨b, 1, none⟩ = some (.int .u64 (n.txn.toNat : Int)) ∧ w.cell? ⟨b, 2, none⟩ = some (.int .u64 (n.batch.toNat : Int)) ∧ w.cell? ⟨b, 3, none⟩ = some (.int .u64 (n.stamp.toNat : Int)) ∧ w.cell? ⟨b, 4, none⟩ = some (.int .u64 (n.after.toNat : Int)) ∧ w.cell? ⟨b, 5, none⟩ = some (.int .u64 (n.mark.toNat : Int)) ∧ w.cell? ⟨b, 6, none⟩ = some (.int .u64 (n.query.toNat : Int)) ∧ w.cell? ⟨b, 7, none⟩ = some (.int .u64 (n.id.toNat : Int)) ∧ w.cell? ⟨b, 8, none⟩ = some (.int .i64 n.k) ∧ w.cell? ⟨b, 9, none⟩ = some (.int .i64 n.ef) ∧ w.cell? ⟨b, 10, none⟩ = some (.int .i64 n.code) ∧ w.cell? ⟨b, 11, none⟩ = some (.int .i64 n.who) := ⟨h.c1, h.c2, h.c3, h.c4, h.c5, h.c6, h.c7, h.c8, h.c9, h.c10, h.c11⟩
end Go.Proofs.YtjkffjngamagkaaDoor
