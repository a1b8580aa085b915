/- package note: held. -/
import Derived.Test.YtnkbfelnggompaaDoorNoteTab
namespace Go.Arm
open Go.RowKit
/-- The value of a note whose slices are these. -/
def noteV (n : NoteR) (vp vo vv vh : Value) : Value :=
  .agg #[.int .u8 (n.kind.toNat : Int), .int .u64 (n.txn.toNat : Int), .int .u64 (n.batch.toNat : Int), .int .u64 (n.stamp.toNat : Int), .int .u64 (n.after.toNat : Int), .int .u64 (n.mark.toNat : Int), .int .u64 (n.query.toNat : Int), .int .u64 (n.id.toNat : Int), .int .i64 n.k, .int .i64 n.ef, .int .i64 n.code, .int .i64 n.who, vp, vo, vv, vh]
/-- V reads as the note n. -/
def Nt (w : World) (S : Nat → Prop) (n : NoteR) (V : Value) : Prop :=
  ∃ vp vo vv vh, V = noteV n vp vo vv vh ∧ Sl w S n.parts vp ∧ Sl w S n.ops vo ∧ Sl w S n.vec vv ∧ Sl w S n.hits vh ∧ I64 n.k ∧ I64 n.ef ∧ I64 n.code ∧ I64 n.who
theorem Nt.keep {w w' : World} {S S' : Nat → Prop} {n : NoteR} {V : Value} (h : Nt w S n V) (hk : ∀ b, S b → b < w.heap.size → w'.heap[b]? = w.heap[b]? ∧ S' b) : Nt w' S' n V := by
  obtain ⟨vp, vo, vv, vh, h0, h1, h2, h3, h4, h5⟩ := h
  exact ⟨vp, vo, vv, vh, h0, h1.keep hk, h2.keep hk, h3.keep hk, h4.keep hk, h5⟩
theorem Nt.below {w w' : World} {S : Nat → Prop} {n : NoteR} {V : Value} (h : Nt w S n V) {B : Nat} (hb : Below B w w') (hB : w.heap.size ≤ B) : Nt w' S n V :=
  h.keep fun b hS hlt => ⟨hb.block b (by omega), hS⟩
theorem Nt.old {w : World} {S : Nat → Prop} {n : NoteR} {V : Value} (h : Nt w S n V) : Nt w (· < w.heap.size) n V := h.keep fun _ _ hlt => ⟨rfl, hlt⟩

/-- Which fields aren't zero. -/
def heldBits (n : NoteR) : List Bool :=
  [decide (0 < n.txn.toNat), decide (0 < n.batch.toNat), decide (0 < n.stamp.toNat), decide (0 < n.after.toNat), decide (0 < n.mark.toNat), decide (0 < n.query.toNat), decide (0 < n.id.toNat),
   n.k != 0, n.ef != 0, n.code != 0, n.who != 0, decide (0 < n.parts.length), decide (0 < n.ops.length), decide (0 < n.vec.length), decide (0 < n.hits.length)]
def maskOf : List Bool → Nat
  | [] => 0
  | b :: l => (if b then 1 else 0) + 2 * maskOf l
end Go.Arm
namespace Go.Proofs.YtnkbfelnggompaaDoor
open Go Go.RowKit Go.Arm

theorem idx_bits (bs : List Bool) (h : bs.length = 15) (j : Nat) (b : Bool) (hb : bs[j]? = some b) : ∀ w : World, (Instr.index 109 (.agg (bs.map Value.bool).toArray) (.int .i64 (j : Int))).run Tryd.prog w = .ok (.bool b) w := by
  intro w
  have hj : j < 15 := by have := (List.getElem?_eq_some_iff.1 hb).1; omega
  match bs, h with
  | [b0, b1, b2, b3, b4, b5, b6, b7, b8, b9, b10, b11, b12, b13, b14], _ =>
    rcases (show j = 0 ∨ j = 1 ∨ j = 2 ∨ j = 3 ∨ j = 4 ∨ j = 5 ∨ j = 6 ∨ j = 7 ∨ j = 8 ∨ j = 9 ∨ j = 10 ∨ j = 11 ∨ j = 12 ∨ j = 13 ∨ j = 14 by omega) with rfl | rfl | rfl | rfl | rfl | rfl | rfl | rfl | rfl | rfl | rfl | rfl | rfl | rfl | rfl
    all_goals
      simp at hb
      subst hb
      refine Eq.trans ?_ rfl
      kernel_rfl

theorem maskOf_take : ∀ (l : List Bool) (j : Nat) (b : Bool), l[j]? = some b → maskOf (l.take (j + 1)) = maskOf (l.take j) + (if b then 2 ^ j else 0)
  | [], j, b, h => by simp at h
  | x :: l, 0, b, h => by simp at h; subst h; simp [maskOf]
  | x :: l, j + 1, b, h => by
    have ih := maskOf_take l j b (by simpa using h)
    rw [List.take_succ_cons, List.take_succ_cons, maskOf, maskOf, ih, Nat.pow_succ]
    cases b <;> simp <;> omega
theorem maskOf_lt : ∀ (l : List Bool), maskOf l < 2 ^ l.length
  | [] => by simp [maskOf]
  | x :: l => by
    have ih := maskOf_lt l
    rw [maskOf, List.length_cons, Nat.pow_succ]
    split <;> omega
theorem i64_bits (a b : Nat) (ha : a < 9223372036854775808) (hb : b < 9223372036854775808) : bits .or .i64 (a : Int) (b : Int) = ((a ||| b : Nat) : Int) ∧ bits .and .i64 (a : Int) (b : Int) = ((a &&& b : Nat) : Int) := by
  have hw : ∀ n : Nat, n < 9223372036854775808 → IntKind.i64.wrap (n : Int) = n := by
    intro n hn
    simp [IntKind.wrap, IntKind.signed, IntKind.bits]
    omega
  refine ⟨?_, ?_⟩ <;> unfold bits <;> simp only [BitVec.ofInt_natCast]
  · rw [BitVec.toNat_or, BitVec.toNat_ofNat, BitVec.toNat_ofNat, Nat.mod_eq_of_lt (show a < 2 ^ IntKind.i64.bits by show a < 18446744073709551616; omega), Nat.mod_eq_of_lt (show b < 2 ^ IntKind.i64.bits by show b < 18446744073709551616; omega)]
    exact hw _ (Nat.or_lt_two_pow (n := 63) ha hb)
  · rw [BitVec.toNat_and, BitVec.toNat_ofNat, BitVec.toNat_ofNat, Nat.mod_eq_of_lt (show a < 2 ^ IntKind.i64.bits by show a < 18446744073709551616; omega), Nat.mod_eq_of_lt (show b < 2 ^ IntKind.i64.bits by show b < 18446744073709551616; omega)]
    exact hw _ (Nat.and_lt_two_pow (n := 63) _ hb)

theorem or_bit (a j : Nat) (ha : a < 2 ^ j) (hj : j < 20) : bits .or .i64 (a : Int) (wrap64 (2 ^ j)) = ((a + 2 ^ j : Nat) : Int) := by
  have hp : 2 ^ j ≤ 2 ^ 19 := Nat.pow_le_pow_right (by decide) (by omega)
  have hw : wrap64 ((2 : Int) ^ j) = ((2 ^ j : Nat) : Int) := by
    have e : (2 : Int) ^ j = ((2 ^ j : Nat) : Int) := by push_cast; rfl
    rw [e]
    generalize 2 ^ j = m at *
    unfold wrap64
    omega
  rw [hw, (i64_bits a (2 ^ j) (by omega) (by omega)).1, Nat.or_comm]
  have h := Nat.two_pow_add_eq_or_of_lt ha 1
  rw [Nat.mul_one] at h
  rw [← h, Nat.add_comm]

set_option maxRecDepth 100000 in
theorem held_any (w : World) (S : Nat → Prop) (n : NoteR) (V : Value) (hV : Nt w S n V) :
    Calls Tryd.prog 28 #[V] w fun e w' => e = .returned (.int .i64 (maskOf (heldBits n) : Int)) ∧ Below w.heap.size w w' := by
  have hV0 := hV.old
  obtain ⟨BS, hBS⟩ : ∃ BS, BS = heldBits n := ⟨_, rfl⟩
  rw [← hBS]
  have HBS := Lib.hid hBS
  clear hBS
  obtain ⟨vp, vo, vv, vh, rfl, h1, h2, h3, h4, _⟩ := hV0
  unfold noteV
  obtain ⟨ap, np, cp, rfl⟩ := Sl.shape h1
  obtain ⟨ao, no, co, rfl⟩ := Sl.shape h2
  obtain ⟨av, nv, cv, rfl⟩ := Sl.shape h3
  obtain ⟨ah, nh, ch, rfl⟩ := Sl.shape h4
  have hal := (Below.refl w.heap.size w).alloc (Nat.le_refl _) (.cells #[.int .u8 (n.kind.toNat : Int), .int .u64 (n.txn.toNat : Int), .int .u64 (n.batch.toNat : Int), .int .u64 (n.stamp.toNat : Int), .int .u64 (n.after.toNat : Int), .int .u64 (n.mark.toNat : Int), .int .u64 (n.query.toNat : Int), .int .u64 (n.id.toNat : Int), .int .i64 n.k, .int .i64 n.ef, .int .i64 n.code, .int .i64 n.who, .slice ap np cp, .slice ao no co, .slice av nv cv, .slice ah nh ch] 38)
  have g1 := h1.below hal (Nat.le_refl _)
  have g2 := h2.below hal (Nat.le_refl _)
  have g3 := h3.below hal (Nat.le_refl _)
  have g4 := h4.below hal (Nat.le_refl _)
  go_enter Tryd.func28, Tryd.ntmps28
  go_wp2_with (first | (with_reducible refine stop_index_sort ?_) | ((with_reducible apply wpList_unguard); rfl) | (with_reducible refine stop_make ?_) | ((with_reducible apply len_B); assumption) | ((with_reducible apply len_BB); assumption)  | ((with_reducible apply len_N); assumption) | ((with_reducible apply len_V); assumption) | ((with_reducible apply len_VV); assumption) | ((with_reducible apply len_P); assumption) | ((with_reducible apply len_O); assumption) | ((with_reducible apply len_H); assumption)  | (with_reducible refine stop_builtin ?_) | (with_reducible refine stop_slice ?_) | (with_reducible refine stop_index_B ?_) | (with_reducible refine stop_index_BB ?_)  | (with_reducible refine stop_index_N ?_) | (with_reducible refine stop_index_V ?_) | (with_reducible refine stop_index_VV ?_) | (with_reducible refine stop_index_P ?_) | (with_reducible refine stop_index_O ?_) | (with_reducible refine stop_index_H ?_)  | (with_reducible refine stop_str_B ?_) | (with_reducible refine stop_mark_B ?_) | (with_reducible refine stop_buildSlice ?_))
  have hlen : BS.length = 15 := by rw [HBS.out]; rfl
  obtain ⟨ARR, hARR⟩ : ∃ ARR : Value, ARR = .agg (BS.map Value.bool).toArray := ⟨_, rfl⟩
  have hA2 : ARR = .agg #[.bool (decide (0 < n.txn.toNat)), .bool (decide (0 < n.batch.toNat)), .bool (decide (0 < n.stamp.toNat)), .bool (decide (0 < n.after.toNat)), .bool (decide (0 < n.mark.toNat)), .bool (decide (0 < n.query.toNat)), .bool (decide (0 < n.id.toNat)), .bool (n.k != 0), .bool (n.ef != 0), .bool (n.code != 0), .bool (n.who != 0), .bool (decide (0 < n.parts.length)), .bool (decide (0 < n.ops.length)), .bool (decide (0 < n.vec.length)), .bool (decide (0 < n.hits.length))] := by
    rw [hARR, HBS.out]; rfl
  rw [← hA2]
  have HARR := Lib.hid hARR
  clear hA2 hARR g1 g2 g3 g4 h1 h2 h3 h4 hV
  generalize w.alloc (.cells #[.int .u8 (n.kind.toNat : Int), .int .u64 (n.txn.toNat : Int), .int .u64 (n.batch.toNat : Int), .int .u64 (n.stamp.toNat : Int), .int .u64 (n.after.toNat : Int), .int .u64 (n.mark.toNat : Int), .int .u64 (n.query.toNat : Int), .int .u64 (n.id.toNat : Int), .int .i64 n.k, .int .i64 n.ef, .int .i64 n.code, .int .i64 n.who, .slice ap np cp, .slice ao no co, .slice av nv cv, .slice ah nh ch] 38) = w1 at *
  go_loop [3, 4, 5, 56] (fun o x y i => ∃ j : Nat, j ≤ 15 ∧ i = .int .i64 j ∧ o = .int .i64 (maskOf (BS.take j) : Int)) (fun _ _ _ i => 15 - (intOf i).toNat)
  case atStart => exact ⟨0, by omega, rfl, by simp [maskOf]⟩
  case round =>
    obtain ⟨j, hj, rfl, rfl⟩ := hrel
    by_cases hlt : j < 15
    · obtain ⟨b, hb⟩ : ∃ b, BS[j]? = some b := ⟨_, List.getElem?_eq_getElem (by omega)⟩
      have hrun := idx_bits BS hlen j b hb
      rw [← HARR.out] at hrun
      have hmt := maskOf_take BS j b hb
      have hml := maskOf_lt (BS.take j)
      rw [List.length_take, Nat.min_eq_left (by omega)] at hml
      have Hmt := Lib.hid hmt
      have Hml := Lib.hid hml
      clear hb hmt hml
      cases b
      · go_wp2_with (first | (with_reducible refine stop_index_sort ?_) | ((with_reducible apply wpList_unguard); rfl) | (with_reducible refine stop_make ?_) | ((with_reducible apply len_B); assumption) | ((with_reducible apply len_BB); assumption)  | ((with_reducible apply len_N); assumption) | ((with_reducible apply len_V); assumption) | ((with_reducible apply len_VV); assumption) | ((with_reducible apply len_P); assumption) | ((with_reducible apply len_O); assumption) | ((with_reducible apply len_H); assumption)  | (with_reducible refine stop_builtin ?_) | (with_reducible refine stop_slice ?_) | (with_reducible refine stop_index_B ?_) | (with_reducible refine stop_index_BB ?_)  | (with_reducible refine stop_index_N ?_) | (with_reducible refine stop_index_V ?_) | (with_reducible refine stop_index_VV ?_) | (with_reducible refine stop_index_P ?_) | (with_reducible refine stop_index_O ?_) | (with_reducible refine stop_index_H ?_)  | (with_reducible refine stop_str_B ?_) | (with_reducible refine stop_mark_B ?_) | (with_reducible refine stop_buildSlice ?_))
        exact ⟨⟨j + 1, by omega, by go_num, by rw [Hmt.out]; rfl⟩, by simp [intOf]; omega⟩
      · go_wp2_with (first | (with_reducible refine stop_index_sort ?_) | ((with_reducible apply wpList_unguard); rfl) | (with_reducible refine stop_make ?_) | ((with_reducible apply len_B); assumption) | ((with_reducible apply len_BB); assumption)  | ((with_reducible apply len_N); assumption) | ((with_reducible apply len_V); assumption) | ((with_reducible apply len_VV); assumption) | ((with_reducible apply len_P); assumption) | ((with_reducible apply len_O); assumption) | ((with_reducible apply len_H); assumption)  | (with_reducible refine stop_builtin ?_) | (with_reducible refine stop_slice ?_) | (with_reducible refine stop_index_B ?_) | (with_reducible refine stop_index_BB ?_)  | (with_reducible refine stop_index_N ?_) | (with_reducible refine stop_index_V ?_) | (with_reducible refine stop_index_VV ?_) | (with_reducible refine stop_index_P ?_) | (with_reducible refine stop_index_O ?_) | (with_reducible refine stop_index_H ?_)  | (with_reducible refine stop_str_B ?_) | (with_reducible refine stop_mark_B ?_) | (with_reducible refine stop_buildSlice ?_))
        have hor := or_bit (maskOf (BS.take j)) j Hml.out (by omega)
        exact ⟨⟨j + 1, by omega, by go_num, by rw [Hmt.out, if_pos rfl, hor]⟩, by simp [intOf]; omega⟩
    · obtain rfl : j = 15 := by omega
      rw [List.take_of_length_le (by omega)]
      go_wp2_with (first | (with_reducible refine stop_index_sort ?_) | ((with_reducible apply wpList_unguard); rfl) | (with_reducible refine stop_make ?_) | ((with_reducible apply len_B); assumption) | ((with_reducible apply len_BB); assumption)  | ((with_reducible apply len_N); assumption) | ((with_reducible apply len_V); assumption) | ((with_reducible apply len_VV); assumption) | ((with_reducible apply len_P); assumption) | ((with_reducible apply len_O); assumption) | ((with_reducible apply len_H); assumption)  | (with_reducible refine stop_builtin ?_) | (with_reducible refine stop_slice ?_) | (with_reducible refine stop_index_B ?_) | (with_reducible refine stop_index_BB ?_)  | (with_reducible refine stop_index_N ?_) | (with_reducible refine stop_index_V ?_) | (with_reducible refine stop_index_VV ?_) | (with_reducible refine stop_index_P ?_) | (with_reducible refine stop_index_O ?_) | (with_reducible refine stop_index_H ?_)  | (with_reducible refine stop_str_B ?_) | (with_reducible refine stop_mark_B ?_) | (with_reducible refine stop_buildSlice ?_))
      go_ret
      exact ⟨rfl, hal⟩
end Go.Proofs.YtnkbfelnggompaaDoor
