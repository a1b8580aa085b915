/- Bits of numbers, and the sum's steps as the walk writes them. No program in sight. -/
import Derived.Test.YtnkbfelnggompaaDoorSpec
namespace Go.Arm

theorem bits_of_nat (k : IntKind) (hk : k.signed = false) (a b : Nat) (ha : a < 2 ^ k.bits) (hb : b < 2 ^ k.bits) :
    bits .and k (a : Int) (b : Int) = ((a &&& b : Nat) : Int) ∧ bits .or k (a : Int) (b : Int) = ((a ||| b : Nat) : Int) ∧ bits .xor k (a : Int) (b : Int) = ((a ^^^ b : Nat) : Int) := by
  have h1 : ∀ n : Nat, n < 2 ^ k.bits → k.wrap (n : Int) = (n : Int) := by
    intro n hn
    unfold IntKind.wrap
    rw [hk]
    simp
    have : ((n : Int) % ((2 ^ k.bits : Nat) : Int)) = (n : Int) := by
      rw [← Int.natCast_emod, Nat.mod_eq_of_lt hn]
    simpa using this
  refine ⟨?_, ?_, ?_⟩ <;> unfold bits <;> simp only [BitVec.ofInt_natCast]
  · rw [BitVec.toNat_and, BitVec.toNat_ofNat, BitVec.toNat_ofNat, Nat.mod_eq_of_lt ha, Nat.mod_eq_of_lt hb]
    exact h1 _ (Nat.and_lt_two_pow _ hb)
  · rw [BitVec.toNat_or, BitVec.toNat_ofNat, BitVec.toNat_ofNat, Nat.mod_eq_of_lt ha, Nat.mod_eq_of_lt hb]
    exact h1 _ (Nat.or_lt_two_pow ha hb)
  · rw [BitVec.toNat_xor, BitVec.toNat_ofNat, BitVec.toNat_ofNat, Nat.mod_eq_of_lt ha, Nat.mod_eq_of_lt hb]
    exact h1 _ (Nat.xor_lt_two_pow ha hb)

theorem and32 (a b : Nat) (ha : a < 4294967296) (hb : b < 4294967296) : bits .and .u32 (a : Int) (b : Int) = ((a &&& b : Nat) : Int) := (bits_of_nat .u32 rfl a b ha hb).1
theorem or32 (a b : Nat) (ha : a < 4294967296) (hb : b < 4294967296) : bits .or .u32 (a : Int) (b : Int) = ((a ||| b : Nat) : Int) := (bits_of_nat .u32 rfl a b ha hb).2.1
theorem xor32 (a b : Nat) (ha : a < 4294967296) (hb : b < 4294967296) : bits .xor .u32 (a : Int) (b : Int) = ((a ^^^ b : Nat) : Int) := (bits_of_nat .u32 rfl a b ha hb).2.2

theorem and32_one (a : Nat) (ha : a < 4294967296) : bits .and .u32 (a : Int) 1 = ((a % 2 : Nat) : Int) := by
  have := and32 a 1 ha (by omega)
  rw [Nat.and_one_is_mod] at this
  exact this

theorem xor_toNat (c d : BitVec 32) : bits .xor .u32 (c.toNat : Int) (d.toNat : Int) = ((c ^^^ d).toNat : Int) := by
  rw [xor32 _ _ c.isLt d.isLt, BitVec.toNat_xor]

theorem shr1 (c : BitVec 32) : (c.toNat : Int) / (2 : Int) = ((c >>> 1).toNat : Int) := by
  rw [BitVec.toNat_ushiftRight, Nat.shiftRight_eq_div_pow]; omega

theorem bit_cond (c : BitVec 32) (y : UInt8) (j : Nat) (t : Bool) (h : (bits .and .u32 (c.toNat : Int) 1 != bits .and .u32 ((y.toNat : Int) / 2 ^ j % 4294967296) 1) = t) : (c.getLsbD 0 != y.toNat.testBit j) = t := by
  have hy : y.toNat / 2 ^ j < 4294967296 := Nat.lt_of_le_of_lt (Nat.div_le_self _ _) (by have := y.toNat_lt; omega)
  have e : ((y.toNat : Int) / 2 ^ j % 4294967296) = ((y.toNat / 2 ^ j : Nat) : Int) := by
    have : ((y.toNat : Int) / 2 ^ j) = ((y.toNat / 2 ^ j : Nat) : Int) := by rw [Int.natCast_ediv, Int.natCast_pow]; rfl
    rw [this]; clear this; revert hy; generalize y.toNat / 2 ^ j = m; intro hy; omega
  rw [e, and32_one _ c.isLt, and32_one _ hy] at h
  rw [BitVec.getLsbD, Nat.testBit_eq_decide_div_mod_eq, Nat.testBit_eq_decide_div_mod_eq]
  rw [← h]
  simp only [Nat.pow_zero, Nat.div_one]
  rcases Nat.mod_two_eq_zero_or_one c.toNat with h1 | h1 <;> rcases Nat.mod_two_eq_zero_or_one (y.toNat / 2 ^ j) with h2 | h2 <;> rw [h1, h2] <;> decide

theorem bit_yes (c : BitVec 32) (y : UInt8) (j : Nat) (h : (bits .and .u32 (c.toNat : Int) 1 != bits .and .u32 ((y.toNat : Int) / 2 ^ j % 4294967296) 1) = true) :
    bits .xor .u32 ((c.toNat : Int) / 2) 3988292384 = ((bitStep c (y.toNat.testBit j)).toNat : Int) := by
  rw [shr1]
  have := xor_toNat (c >>> 1) poly
  have hp : (poly.toNat : Int) = 3988292384 := by decide
  rw [hp] at this
  rw [this, bitStep, bit_cond c y j true h]
  rfl

theorem bit_no (c : BitVec 32) (y : UInt8) (j : Nat) (h : (bits .and .u32 (c.toNat : Int) 1 != bits .and .u32 ((y.toNat : Int) / 2 ^ j % 4294967296) 1) = false) :
    ((c.toNat : Int) / 2) = ((bitStep c (y.toNat.testBit j)).toNat : Int) := by
  rw [shr1, bitStep, bit_cond c y j false h]
  rfl

theorem not_toNat (c : BitVec 32) : bits .xor .u32 (c.toNat : Int) 4294967295 = ((~~~ c).toNat : Int) := by
  have := xor_toNat c (BitVec.allOnes 32)
  have hp : ((BitVec.allOnes 32).toNat : Int) = 4294967295 := by decide
  rw [hp] at this
  rw [this, BitVec.xor_allOnes]

theorem take_snoc {α : Type} (l : List α) (k : Nat) (y : α) (h : l[k]? = some y) : l.take (k + 1) = l.take k ++ [y] := by
  obtain ⟨hk, rfl⟩ := List.getElem?_eq_some_iff.1 h
  rw [List.take_succ_eq_append_getElem hk]

theorem sumFrom_snoc (c : BitVec 32) (l : List UInt8) (y : UInt8) : sumFrom c (l ++ [y]) = step (sumFrom c l) y := by simp [sumFrom]

theorem num_lt : ∀ l : List UInt8, num l < 256 ^ l.length
  | [] => by simp [num]
  | b :: l => by
    have h1 := num_lt l
    have h2 := b.toNat_lt
    rw [num, List.length_cons, Nat.pow_succ]
    omega

theorem num_drop (l : List UInt8) (j : Nat) (y : UInt8) (h : l[j]? = some y) : num (l.drop j) = y.toNat + 256 * num (l.drop (j + 1)) := by
  obtain ⟨hj, rfl⟩ := List.getElem?_eq_some_iff.1 h
  rw [List.drop_eq_getElem_cons hj]; rfl

theorem num_small (l : List UInt8) (hl : l.length ≤ 7) : num l ≤ 72057594037927935 := by
  have h1 := num_lt l
  have h2 : 256 ^ l.length ≤ 256 ^ 7 := Nat.pow_le_pow_right (by decide) hl
  have h3 : 256 ^ 7 = 72057594037927936 := by decide
  omega

theorem low_len : ∀ (n k : Nat), (low n k).length = k
  | _, 0 => rfl
  | n, k + 1 => by rw [low, List.length_cons, low_len]

theorem next_code (l : List UInt8) : (next l).2.2 = 0 ∨ (next l).2.2 = 2 ∨ (next l).2.2 = 3 ∨ (next l).2.2 = 5 := by
  unfold next; (repeat' split) <;> simp

theorem next_len (l : List UInt8) (h : (next l).2.2 = 0) : (next l).2.1.length + (next l).1.length + 6 = l.length ∧ (next l).2.1 = l.drop (6 + (next l).1.length) := by
  unfold next at h ⊢
  split
  · rename_i h1; rw [if_pos h1] at h; simp at h
  · rename_i h1
    rw [if_neg h1] at h
    split
    · rename_i h2; rw [if_pos h2] at h; simp at h
    · rename_i h2
      rw [if_neg h2] at h
      split
      · rename_i h3; rw [if_pos h3] at h; simp at h
      · rename_i h3
        rw [if_neg h3] at h
        split
        · rename_i h4; rw [if_pos h4] at h; simp at h
        · generalize num ((l.take 6).drop 4) = n at *
          have e : ((l.take (6 + n)).drop 6).length = n := by simp; omega
          refine ⟨?_, by rw [e]⟩
          simp only [e, List.length_drop]
          omega

theorem allGo_same : ∀ (a b : Nat) (l : List UInt8), l.length < a → l.length < b → allGo a l = allGo b l
  | 0, _, l, h, _ => by omega
  | _, 0, l, _, h => by omega
  | a + 1, b + 1, l, ha, hb => by
    rw [allGo, allGo]
    by_cases hc : (next l).2.2 = 0
    · have hl := (next_len l hc).1
      rw [if_neg (by simpa using hc), if_neg (by simpa using hc), allGo_same a b (next l).2.1 (by omega) (by omega)]
    · rw [if_pos hc, if_pos hc]

theorem all_bad (l : List UInt8) (h : (next l).2.2 ≠ 0) : all l = ([], l) := by rw [all, allGo, if_pos h]

theorem all_good (l : List UInt8) (h : (next l).2.2 = 0) : all l = ((next l).1 :: (all (next l).2.1).1, (all (next l).2.1).2) := by
  have hl := (next_len l h).1
  rw [all, allGo, if_neg (by simpa using h), allGo_same l.length ((next l).2.1.length + 1) _ (by omega) (by omega)]; rfl

theorem bit_one (n j : Nat) (hn : n < 4294967296) (t : Bool) (h : n.testBit j = t) : (bits .and .u32 ((n : Int) / 2 ^ j) 1 == 1) = t := by
  have hy : n / 2 ^ j < 4294967296 := Nat.lt_of_le_of_lt (Nat.div_le_self _ _) hn
  have e : ((n : Int) / 2 ^ j) = ((n / 2 ^ j : Nat) : Int) := by rw [Int.natCast_ediv, Int.natCast_pow]; rfl
  rw [e, and32_one _ hy]
  rw [Nat.testBit_eq_decide_div_mod_eq] at h
  rw [← h]
  rcases Nat.mod_two_eq_zero_or_one (n / 2 ^ j) with h2 | h2 <;> rw [h2] <;> decide

theorem turnGo_len (l : List UInt8) (k pat : Nat) : ∀ j, (turnGo l k pat j).length = l.length
  | 0 => rfl
  | j + 1 => by
    rw [turnGo]
    split
    · rw [flipBit, List.length_modify, turnGo_len l k pat j]
    · exact turnGo_len l k pat j

theorem xor8 (y : UInt8) (j : Nat) (hj : j < 8) : bits .xor .u8 (y.toNat : Int) (2 ^ j % 256) = ((UInt8.ofNat (y.toNat ^^^ 2 ^ j)).toNat : Int) := by
  have h1 := y.toNat_lt
  have h2 : 2 ^ j < 256 := Nat.pow_lt_pow_right (by decide) (show j < 8 from hj)
  have e : ((2 : Int) ^ j % 256) = ((2 ^ j : Nat) : Int) := by
    have : ((2 : Int) ^ j) = ((2 ^ j : Nat) : Int) := by rw [Int.natCast_pow]; rfl
    rw [this]; clear this; revert h2; generalize 2 ^ j = q; intro h2; omega
  rw [e, (bits_of_nat .u8 rfl _ _ h1 h2).2.2]
  have h3 : y.toNat ^^^ 2 ^ j < 256 := Nat.xor_lt_two_pow (n := 8) h1 h2
  rw [UInt8.toNat_ofNat_of_lt' h3]

theorem modify_of_get {α : Type} (l : List α) (i : Nat) (f : α → α) (y : α) (h : l[i]? = some y) : l.modify i f = l.set i (f y) := by
  apply List.ext_getElem?
  intro j
  rw [List.getElem?_modify, List.getElem?_set]
  by_cases hij : i = j
  · subst hij
    obtain ⟨hlt, rfl⟩ := List.getElem?_eq_some_iff.1 h
    simp [hlt]
  · simp [hij]

/-- One bit that is 0. -/
def z1 (c : BitVec 32) : BitVec 32 := if c.getLsbD 0 then (c >>> 1) ^^^ poly else c >>> 1

theorem z1_xor (a b : BitVec 32) : z1 (a ^^^ b) = z1 a ^^^ z1 b := by
  unfold z1
  rw [BitVec.getLsbD_xor, BitVec.ushiftRight_xor_distrib]
  cases a.getLsbD 0 <;> cases b.getLsbD 0 <;> simp
  · rw [BitVec.xor_assoc]
  · rw [BitVec.xor_assoc, BitVec.xor_assoc]; congr 1; rw [BitVec.xor_comm]
  · rw [show a >>> 1 ^^^ poly ^^^ (b >>> 1 ^^^ poly) = a >>> 1 ^^^ (poly ^^^ poly) ^^^ b >>> 1 by
      rw [BitVec.xor_assoc, BitVec.xor_assoc, BitVec.xor_assoc]; congr 1; rw [BitVec.xor_comm poly, BitVec.xor_assoc, ← BitVec.xor_assoc poly, BitVec.xor_self]; simp]
    simp

def zN (k : Nat) (c : BitVec 32) : BitVec 32 := match k with | 0 => c | k + 1 => z1 (zN k c)

theorem zN_xor : ∀ (k : Nat) (a b : BitVec 32), zN k (a ^^^ b) = zN k a ^^^ zN k b
  | 0, _, _ => rfl
  | k + 1, a, b => by rw [zN, zN_xor k a b, z1_xor]; rfl

def bitv (b : Bool) : BitVec 32 := if b then 1#32 else 0#32

theorem bitStep_z1 (c : BitVec 32) (b : Bool) : bitStep c b = z1 (c ^^^ bitv b) := by
  cases b
  · simp [bitStep, z1, bitv]
  · have h1 : (c ^^^ 1#32).getLsbD 0 = !c.getLsbD 0 := by simp
    have h2 : (c ^^^ 1#32) >>> 1 = c >>> 1 := by rw [BitVec.ushiftRight_xor_distrib]; simp
    simp only [bitStep, z1, bitv, if_true, h1, h2]
    cases c.getLsbD 0 <;> simp

theorem stepBits_lin (c : BitVec 32) (y : UInt8) : ∀ k, stepBits c y k = zN k c ^^^ stepBits 0#32 y k
  | 0 => by simp [stepBits, zN]
  | k + 1 => by
    rw [stepBits, stepBits, stepBits_lin c y k, bitStep_z1, bitStep_z1, BitVec.xor_assoc, z1_xor]; rfl

theorem stepBits_zero_all : ∀ n : Fin 256, stepBits 0#32 (UInt8.ofNat n.val) 8 = zN 8 (BitVec.ofNat 32 n.val) := by decide +kernel

theorem step_z (c : BitVec 32) (y : UInt8) : step c y = zN 8 (c ^^^ BitVec.ofNat 32 y.toNat) := by
  rw [step, stepBits_lin, zN_xor]
  congr 1
  have := stepBits_zero_all ⟨y.toNat, y.toNat_lt⟩
  simpa using this

theorem z1_even (c : BitVec 32) (h : c.toNat % 2 = 0) : z1 c = c >>> 1 := by
  have : c.getLsbD 0 = false := by rw [BitVec.getLsbD, Nat.testBit_eq_decide_div_mod_eq]; simp [h]
  rw [z1, this]; rfl

theorem ushr_ushr (c : BitVec 32) (a b : Nat) : c >>> a >>> b = c >>> (a + b) := by rw [BitVec.shiftRight_add]

theorem zN4_high (c : BitVec 32) (h : c.toNat % 16 = 0) : zN 4 c = c >>> 4 := by
  have e1 : ∀ n : Nat, (c >>> n).toNat = c.toNat / 2 ^ n := fun n => by rw [BitVec.toNat_ushiftRight, Nat.shiftRight_eq_div_pow]
  simp only [zN]
  rw [z1_even c (by omega), z1_even (c >>> 1) (by rw [e1]; omega), ushr_ushr, z1_even (c >>> (1 + 1)) (by rw [e1]; omega), ushr_ushr, z1_even (c >>> (1 + 1 + 1)) (by rw [e1]; omega), ushr_ushr]

theorem nib_all : ∀ n : Fin 16, zN 4 (BitVec.ofNat 32 n.val) = nib n.val := by decide +kernel

theorem halves (c : BitVec 32) : ((c >>> 4) <<< 4) ^^^ BitVec.ofNat 32 (c.toNat % 16) = c := by
  apply BitVec.eq_of_toNat_eq
  have h1 : ((c >>> 4) <<< 4).toNat = c.toNat / 16 * 16 := by
    rw [BitVec.toNat_shiftLeft, BitVec.toNat_ushiftRight, Nat.shiftRight_eq_div_pow, Nat.shiftLeft_eq]
    have := c.isLt
    omega
  have h2 : (BitVec.ofNat 32 (c.toNat % 16)).toNat = c.toNat % 16 := by simp; omega
  rw [BitVec.toNat_xor, h1, h2]
  have h3 := Nat.two_pow_add_eq_or_of_lt (i := 4) (b := c.toNat % 16) (by omega) (c.toNat / 16)
  have h4 : c.toNat / 16 * 16 ^^^ c.toNat % 16 = c.toNat / 16 * 16 ||| c.toNat % 16 := by
    apply Nat.eq_of_testBit_eq
    intro i
    rw [Nat.testBit_xor, Nat.testBit_or]
    by_cases hi : i < 4
    · have : (c.toNat / 16 * 16).testBit i = false := by
        rw [show c.toNat / 16 * 16 = 2 ^ 4 * (c.toNat / 16) by omega, Nat.testBit_two_pow_mul]
        simp; omega
      simp [this]
    · have : (c.toNat % 16).testBit i = false := by
        apply Nat.testBit_lt_two_pow
        have : 2 ^ 4 ≤ 2 ^ i := Nat.pow_le_pow_right (by decide) (by omega)
        omega
      simp [this]
  rw [h4, show c.toNat / 16 * 16 = 2 ^ 4 * (c.toNat / 16) by omega, ← h3]
  omega

theorem nibStep_z (c : BitVec 32) : nibStep c = zN 4 c := by
  have h := halves c
  have hh : ((c >>> 4) <<< 4).toNat % 16 = 0 := by
    rw [BitVec.toNat_shiftLeft, BitVec.toNat_ushiftRight, Nat.shiftRight_eq_div_pow, Nat.shiftLeft_eq]; omega
  have hlow := nib_all ⟨c.toNat % 16, Nat.mod_lt _ (by decide)⟩
  have hs : ((c >>> 4) <<< 4) >>> 4 = c >>> 4 := by
    apply BitVec.eq_of_toNat_eq
    rw [BitVec.toNat_ushiftRight, BitVec.toNat_shiftLeft, BitVec.toNat_ushiftRight, Nat.shiftRight_eq_div_pow, Nat.shiftRight_eq_div_pow, Nat.shiftLeft_eq]
    have := c.isLt
    omega
  calc nibStep c = (c >>> 4) ^^^ nib (c.toNat % 16) := rfl
    _ = zN 4 ((c >>> 4) <<< 4) ^^^ zN 4 (BitVec.ofNat 32 (c.toNat % 16)) := by rw [zN4_high _ hh, hs]; congr 1; exact hlow.symm
    _ = zN 4 c := by rw [← zN_xor, h]

theorem step_nib (c : BitVec 32) (y : UInt8) : nibStep (nibStep (c ^^^ BitVec.ofNat 32 y.toNat)) = step c y := by
  rw [step_z, nibStep_z, nibStep_z]; rfl

theorem mix_byte (c : BitVec 32) (y : UInt8) : bits .xor .u32 (c.toNat : Int) ((y.toNat : Int) % 4294967296) = ((c ^^^ BitVec.ofNat 32 y.toNat).toNat : Int) := by
  have h := y.toNat_lt
  have e : ((y.toNat : Int) % 4294967296) = ((BitVec.ofNat 32 y.toNat).toNat : Int) := by
    rw [BitVec.toNat_ofNat]; omega
  rw [e, xor_toNat]

theorem nib_walk (c : BitVec 32) : bits .xor .u32 ((c.toNat : Int) / 16) ((nib (c.toNat % 16)).toNat : Int) = ((nibStep c).toNat : Int) := by
  have e : (c.toNat : Int) / (16 : Int) = ((c >>> 4).toNat : Int) := by rw [BitVec.toNat_ushiftRight, Nat.shiftRight_eq_div_pow]; omega
  rw [e, xor_toNat]; rfl

theorem sumFrom_append (c : BitVec 32) (l m : List UInt8) : sumFrom c (l ++ m) = sumFrom (sumFrom c l) m := by simp [sumFrom]

theorem not_toNat' (c : BitVec 32) : bits .xor .u32 IntKind.u32.max (c.toNat : Int) = ((~~~ c).toNat : Int) := by
  have := xor_toNat (BitVec.allOnes 32) c
  have hp : ((BitVec.allOnes 32).toNat : Int) = IntKind.u32.max := by decide
  rw [hp] at this
  rw [this, BitVec.xor_comm, BitVec.xor_allOnes]

theorem flat_take_le {α : Type} (la : List (List α)) (k : Nat) (y : List α) (h : la[k]? = some y) (N : Nat) (hN : N = la.flatten.length) : (la.take k).flatten.length + y.length ≤ N := by
  have e := take_snoc la k y h
  have : la.flatten = (la.take (k + 1)).flatten ++ (la.drop (k + 1)).flatten := by rw [← List.flatten_append, List.take_append_drop]
  rw [hN, this, e, List.flatten_append]
  simp only [List.length_append, List.flatten_cons, List.flatten_nil, List.append_nil]
  omega

theorem num_two (l : List UInt8) (i : Nat) (y z : UInt8) (hy : l[i]? = some y) (hz : l[i + 1]? = some z) : num ((l.take (i + 2)).drop i) = y.toNat + 256 * z.toNat := by
  have : (l.take (i + 2)).drop i = [y, z] := by
    rw [take_snoc l (i + 1) z hz, take_snoc l i y hy, List.append_assoc]
    have hi := (List.getElem?_eq_some_iff.1 hy).1
    have e : (l.take i).length = i := by simp; omega
    conv => lhs; arg 1; rw [← e]
    rw [List.drop_left]; rfl
  rw [this]; simp [num]

theorem or_join (a b k : Nat) (ha : a < 2 ^ k) : a ||| (b * 2 ^ k) = a + b * 2 ^ k := by
  have h := Nat.two_pow_add_eq_or_of_lt ha b
  rw [Nat.mul_comm (2 ^ k) b] at h
  rw [Nat.or_comm, ← h, Nat.add_comm]

theorem or_two (y z : UInt8) : bits .or .i64 (y.toNat : Int) ((z.toNat : Int) * 256) = ((y.toNat + 256 * z.toNat : Nat) : Int) := by
  have h1 := y.toNat_lt
  have h2 := z.toNat_lt
  have e : ((z.toNat : Int) * 256) = ((z.toNat * 256 : Nat) : Int) := by omega
  rw [e, (bits_nat .i64 62 (by decide) (fun n h0 h => by rw [IntKind.wrap_i64]; omega) y.toNat (z.toNat * 256) (by omega) (by omega)).2, show z.toNat * 256 = z.toNat * 2 ^ 8 from rfl, or_join _ _ 8 h1]
  omega

theorem or_four (a b c d : UInt8) : bits .or .u32 (bits .or .u32 (bits .or .u32 (a.toNat : Int) ((b.toNat : Int) * 256)) ((c.toNat : Int) * 65536)) ((d.toNat : Int) * 16777216) = ((a.toNat + 256 * (b.toNat + 256 * (c.toNat + 256 * d.toNat)) : Nat) : Int) := by
  have h1 := a.toNat_lt
  have h2 := b.toNat_lt
  have h3 := c.toNat_lt
  have h4 := d.toNat_lt
  have e1 : ((b.toNat : Int) * 256) = ((b.toNat * 256 : Nat) : Int) := by omega
  have e2 : ((c.toNat : Int) * 65536) = ((c.toNat * 65536 : Nat) : Int) := by omega
  have e3 : ((d.toNat : Int) * 16777216) = ((d.toNat * 16777216 : Nat) : Int) := by omega
  rw [e1, e2, e3, or32 _ _ (by omega) (by omega), show b.toNat * 256 = b.toNat * 2 ^ 8 from rfl, or_join _ _ 8 h1,
    or32 _ _ (by omega) (by omega), show c.toNat * 65536 = c.toNat * 2 ^ 16 from rfl, or_join _ _ 16 (by omega),
    or32 _ _ (by omega) (by omega), show d.toNat * 16777216 = d.toNat * 2 ^ 24 from rfl, or_join _ _ 24 (by omega)]
  omega

theorem num_four (l : List UInt8) (a b c d : UInt8) (ha : l[0]? = some a) (hb : l[1]? = some b) (hc : l[2]? = some c) (hd : l[3]? = some d) : num (l.take 4) = a.toNat + 256 * (b.toNat + 256 * (c.toNat + 256 * d.toNat)) := by
  have : l.take 4 = [a, b, c, d] := by
    rw [take_snoc l 3 d hd, take_snoc l 2 c hc, take_snoc l 1 b hb, take_snoc l 0 a ha]; rfl
  rw [this]; simp [num]

end Go.Arm
