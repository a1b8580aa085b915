/- Plain Lean: what is read is what was written, and in just one form. -/
import Derived.Test.YtfgagfemhmcdfaaReader4
namespace Go.Arm

theorem byte_ofNat (b : UInt8) (h : 128 ≤ b.toNat) (m : Nat) : UInt8.ofNat ((b.toNat - 128 + 128 * m) % 128 + 128) = b := by
  have hb := b.toNat_lt
  have e : (b.toNat - 128 + 128 * m) % 128 + 128 = b.toNat := by omega
  rw [e]; simp

/-- What is read is a number's one form. -/
theorem peek_form : ∀ (l : List UInt8) (i acc : Nat), (peekGo l i acc).2.2 = 0 → ∃ m, (0 < i → 0 < m) ∧ (peekGo l i acc).1 = acc + 128 ^ i * m ∧ (peekGo l i acc).2.1 = i + (enc m).length ∧ l = enc m ++ l.drop (enc m).length
  | [], i, acc => by simp [peekGo]
  | b :: l, i, acc => by
    have ih := peek_form l (i + 1) (acc + 128 ^ i * (b.toNat - 128))
    have hb := b.toNat_lt
    rw [peekGo]
    split
    · simp
    · split
      · split
        · simp
        · rename_i h1 h2 h3
          intro _
          refine ⟨b.toNat, fun h => by omega, rfl, ?_, ?_⟩
          · rw [enc_small _ h2]; rfl
          · rw [enc_small _ h2]; simp
      · rename_i h1 h2
        intro h
        obtain ⟨m, g1, g2, g3, g4⟩ := ih h
        have hm := g1 (by omega)
        have he : enc (b.toNat - 128 + 128 * m) = b :: enc m := by
          rw [enc_big _ (by omega), byte_ofNat b (by omega), show (b.toNat - 128 + 128 * m) / 128 = m by omega]
        refine ⟨b.toNat - 128 + 128 * m, fun _ => by omega, ?_, ?_, ?_⟩
        · rw [g2, Nat.pow_succ, Nat.mul_add, Nat.mul_assoc]; omega
        · rw [g3, he, List.length_cons]; omega
        · rw [he]; simp only [List.cons_append, List.length_cons, List.drop_succ_cons]
          rw [← g4]

theorem taken_form (l : List UInt8) (most : Nat) (h : (taken l most).2.2 = 0) : l = enc (taken l most).1 ++ (taken l most).2.1 ∧ (taken l most).1 ≤ most := by
  unfold taken at h ⊢
  by_cases h1 : (peek l).2.2 = 0
  · rw [if_neg (by simpa using h1)] at h ⊢
    by_cases h2 : most < (peek l).1
    · rw [if_pos h2] at h; simp at h
    · rw [if_neg h2]
      obtain ⟨m, _, g2, g3, g4⟩ := peek_form l 0 0 h1
      have e1 : (peek l).1 = m := by rw [peek, g2]; simp
      have e2 : (peek l).2.1 = (enc m).length := by rw [peek, g3]; simp
      refine ⟨?_, by omega⟩
      rw [e1, e2]; exact g4
  · rw [if_pos h1] at h
    exact absurd h h1

/-- What is written is read. -/
theorem peek_enc : ∀ (m i acc : Nat) (r : List UInt8), (0 < i → 0 < m) → 128 ^ i * m < 18446744073709551616 → peekGo (enc m ++ r) i acc = (acc + 128 ^ i * m, i + (enc m).length, 0) := by
  intro m
  induction m using Nat.strongRecOn with
  | ind m ih =>
    intro i acc r hi hlt
    have h9 : i = 9 → m ≤ 1 := by
      rintro rfl
      omega
    by_cases hs : m < 128
    · have e1 : (UInt8.ofNat m).toNat = m := UInt8.toNat_ofNat_of_lt' (by show m < 256; omega)
      rw [enc_small _ hs, List.singleton_append, peekGo, e1, if_neg (fun h => by have := h9 h.1; omega), if_pos hs, if_neg (fun h => by have := hi h.2; omega)]
      rfl
    · have e1 : (UInt8.ofNat (m % 128 + 128)).toNat = m % 128 + 128 := UInt8.toNat_ofNat_of_lt' (by show m % 128 + 128 < 256; omega)
      have hp : 128 ^ (i + 1) * (m / 128) ≤ 128 ^ i * m := by
        rw [Nat.pow_succ, Nat.mul_assoc]
        exact Nat.mul_le_mul_left _ (by omega)
      rw [enc_big _ hs, List.cons_append, peekGo, e1, if_neg (fun h => by have := h9 h.1; omega), if_neg (by omega), ih (m / 128) (by omega) (i + 1) _ r (fun _ => by omega) (by omega)]
      have e3 : acc + 128 ^ i * (m % 128 + 128 - 128) + 128 ^ (i + 1) * (m / 128) = acc + 128 ^ i * m := by
        rw [Nat.pow_succ, Nat.mul_assoc, Nat.add_assoc, ← Nat.mul_add]
        congr 2
        omega
      rw [e3, List.length_cons, show i + 1 + (enc (m / 128)).length = i + ((enc (m / 128)).length + 1) by omega]

theorem taken_enc (m most : Nat) (r : List UInt8) (h : m < 18446744073709551616) : taken (enc m ++ r) most = if most < m then (0, [], 3) else (m, r, 0) := by
  have e : peek (enc m ++ r) = (m, (enc m).length, 0) := by
    rw [peek, peek_enc m 0 0 r (by omega) (by simpa using h)]; simp
  unfold taken
  rw [e]
  simp

theorem zig_unzig (u : Nat) (h : u < 4294967296) : zig (Int32.ofInt (unzig u)).toInt = u := by
  have hb := unzig_lt u h
  rw [Int32.toInt_ofInt_of_le hb.1 hb.2]
  unfold zig unzig
  split <;> split <;> omega
theorem unzig_zig (z : Int32) : Int32.ofInt (unzig (zig z.toInt)) = z := by
  have h1 : -2147483648 ≤ z.toInt := Int32.le_toInt z
  have h2 : z.toInt < 2147483648 := Int32.toInt_lt z
  have e : unzig (zig z.toInt) = z.toInt := by
    unfold zig unzig
    split <;> split <;> omega
  rw [e]; exact Int32.ofInt_toInt z
theorem zig_small (z : Int32) : zig z.toInt < 4294967296 := by
  have h1 : -2147483648 ≤ z.toInt := Int32.le_toInt z
  have h2 : z.toInt < 2147483648 := Int32.toInt_lt z
  unfold zig; split <;> omega

theorem rvec_form : ∀ (n : Nat) (l : List UInt8), (rvec n l).2.2 = 0 → (rvec n l).1.length = n ∧ l = encInts (rvec n l).1 ++ (rvec n l).2.1
  | 0, l, _ => by simp [rvec, encInts]
  | n + 1, l, h => by
    rw [rvec] at h ⊢
    by_cases h1 : (taken l 18446744073709551615).2.2 = 0
    · rw [if_neg (by simpa using h1)] at h ⊢
      by_cases h2 : 4294967295 < (taken l 18446744073709551615).1
      · rw [if_pos h2] at h; simp at h
      · rw [if_neg h2] at h ⊢
        obtain ⟨g1, _⟩ := taken_form l _ h1
        obtain ⟨i1, i2⟩ := rvec_form n _ h
        refine ⟨by simp [i1], ?_⟩
        simp only [encInts, List.flatMap_cons]
        rw [zig_unzig _ (by omega), List.append_assoc]
        conv => lhs; rw [g1]
        congr 1
    · rw [if_pos h1] at h
      exact absurd h h1

theorem rvec_enc : ∀ (v : List Int32) (r : List UInt8), rvec v.length (encInts v ++ r) = (v, r, 0)
  | [], r => by simp [rvec, encInts]
  | z :: v, r => by
    have ih := rvec_enc v r
    have hz := zig_small z
    have e : encInts (z :: v) ++ r = enc (zig z.toInt) ++ (encInts v ++ r) := by simp [encInts]
    have ht := taken_enc (zig z.toInt) 18446744073709551615 (encInts v ++ r) (by omega)
    rw [if_neg (by omega)] at ht
    rw [List.length_cons, rvec, e, ht, ih]
    simp only
    rw [if_neg (by simp), if_neg (by omega), unzig_zig]
end Go.Arm
