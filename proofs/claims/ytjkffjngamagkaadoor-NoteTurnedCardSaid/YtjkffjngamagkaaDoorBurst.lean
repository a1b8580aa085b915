/- Every burst is found: bits turned within 32 that follow one another leave a rest. Plain Lean. -/
import Derived.Test.YtjkffjngamagkaaDoorPackC
namespace Go.Arm

theorem zN_add (c : BitVec 32) : ∀ a b, zN (a + b) c = zN a (zN b c)
  | 0, b => by rw [Nat.zero_add]; rfl
  | a + 1, b => by rw [Nat.add_right_comm, zN, zN_add c a b]; rfl

theorem z1_zero (c : BitVec 32) (h : z1 c = 0#32) : c = 0#32 := by
  unfold z1 at h
  split at h
  · exfalso
    have h1 := congrArg (fun x : BitVec 32 => x.getLsbD 31) h
    simp [poly] at h1
  · rename_i h0
    apply BitVec.eq_of_getLsbD_eq
    intro i hi
    match i with
    | 0 => simpa using h0
    | i + 1 =>
      have h1 := congrArg (fun x : BitVec 32 => x.getLsbD i) h
      simp at h1
      simp [Nat.add_comm i 1, h1]

theorem zN_zero : ∀ (k : Nat) (c : BitVec 32), zN k c = 0#32 → c = 0#32
  | 0, _, h => h
  | k + 1, c, h => zN_zero k c (z1_zero _ h)

theorem zN_pow : ∀ j : Fin 32, zN j.val (BitVec.ofNat 32 (2 ^ j.val)) = 1#32 := by decide +kernel

theorem sumFrom_lin : ∀ (l : List UInt8) (c e : BitVec 32), sumFrom (c ^^^ e) l = sumFrom c l ^^^ zN (8 * l.length) e
  | [], _, _ => rfl
  | y :: l, c, e => by
    show sumFrom (step (c ^^^ e) y) l = sumFrom (step c y) l ^^^ _
    have h : step (c ^^^ e) y = step c y ^^^ zN 8 e := by
      rw [step_z, step_z, ← zN_xor]
      congr 1
      rw [BitVec.xor_assoc, BitVec.xor_comm e, ← BitVec.xor_assoc]
    rw [h, sumFrom_lin l (step c y) (zN 8 e), ← zN_add, List.length_cons, Nat.mul_add]

theorem flip_byte (y : UInt8) (j : Nat) (hj : j < 8) : (UInt8.ofNat (y.toNat ^^^ 2 ^ j)).toNat = y.toNat ^^^ 2 ^ j := by
  refine UInt8.toNat_ofNat_of_lt' ?_
  have h1 : y.toNat < 2 ^ 8 := y.toNat_lt
  have h2 : 2 ^ j < 2 ^ 8 := Nat.pow_lt_pow_right (by decide) hj
  exact Nat.xor_lt_two_pow h1 h2

theorem step_flip (c : BitVec 32) (y : UInt8) (j : Nat) (hj : j < 8) : step c (UInt8.ofNat (y.toNat ^^^ 2 ^ j)) = step c y ^^^ zN (8 - j) 1#32 := by
  rw [step_z, step_z, flip_byte y j hj]
  have e : BitVec.ofNat 32 (y.toNat ^^^ 2 ^ j) = BitVec.ofNat 32 y.toNat ^^^ BitVec.ofNat 32 (2 ^ j) := by
    apply BitVec.eq_of_toNat_eq
    simp
  have h2 : zN 8 (BitVec.ofNat 32 (2 ^ j)) = zN (8 - j) 1#32 := by
    have := zN_pow ⟨j, by omega⟩
    rw [← this, ← zN_add]
    congr 1
    show 8 = 8 - j + j
    omega
  rw [e, ← BitVec.xor_assoc, zN_xor, h2]

theorem sumFrom_modify (j : Nat) (hj : j < 8) : ∀ (l : List UInt8) (m : Nat) (c : BitVec 32), m < l.length →
    sumFrom c (l.modify m fun b => UInt8.ofNat (b.toNat ^^^ 2 ^ j)) = sumFrom c l ^^^ zN (8 * l.length - (8 * m + j)) 1#32
  | [], _, _, h => by simp at h
  | y :: l, 0, c, _ => by
    rw [List.modify_zero_cons]
    show sumFrom (step c _) l = sumFrom (step c y) l ^^^ _
    rw [step_flip c y j hj, sumFrom_lin, ← zN_add]
    congr 2
    simp only [List.length_cons]
    omega
  | y :: l, m + 1, c, h => by
    rw [List.modify_succ_cons]
    show sumFrom (step c y) _ = sumFrom (step c y) l ^^^ _
    rw [sumFrom_modify j hj l m _ (by simpa using h)]
    congr 2
    simp only [List.length_cons]
    omega

theorem sumFrom_flip (l : List UInt8) (k : Nat) (c : BitVec 32) (hk : k < 8 * l.length) : sumFrom c (flipBit l k) = sumFrom c l ^^^ zN (8 * l.length - k) 1#32 := by
  rw [flipBit, sumFrom_modify (k % 8) (Nat.mod_lt _ (by decide)) l (k / 8) c (by omega)]
  congr 2
  omega

theorem sumFrom_turnGo (l : List UInt8) (k pat : Nat) (c : BitVec 32) (hk : k < 8 * l.length) (hp : pat.testBit 0 = true) : ∀ i, i ≤ 32 →
    ∃ V : BitVec 32, sumFrom c (turnGo l k pat i) = sumFrom c l ^^^ zN (8 * l.length - k) V ∧ V.getLsbD 0 = decide (0 < i)
  | 0, _ => ⟨0#32, by
      have h : ∀ n, zN n 0#32 = 0#32 := by
        intro n
        induction n with
        | zero => rfl
        | succ n ih => rw [zN, ih]; decide
      rw [h]; simp [turnGo], by simp⟩
  | i + 1, hi => by
    obtain ⟨V, h1, h2⟩ := sumFrom_turnGo l k pat c hk hp i (by omega)
    rw [turnGo]
    by_cases hb : (pat.testBit i && decide (k + i < 8 * l.length)) = true
    · rw [if_pos hb]
      have hki : k + i < 8 * l.length := by simpa using (Bool.and_eq_true_iff.1 hb).2
      have hlen := turnGo_len l k pat i
      have hz : zN (8 * l.length - (k + i)) 1#32 = zN (8 * l.length - k) (BitVec.ofNat 32 (2 ^ i)) := by
        have := zN_pow ⟨i, by omega⟩
        rw [← this, ← zN_add]
        congr 1
        show 8 * l.length - (k + i) + i = _
        omega
      refine ⟨V ^^^ BitVec.ofNat 32 (2 ^ i), ?_, ?_⟩
      · rw [sumFrom_flip _ _ _ (by rw [hlen]; exact hki), hlen, h1, hz, BitVec.xor_assoc, ← zN_xor]
      · rw [BitVec.getLsbD_xor, h2]
        by_cases h0 : i = 0
        · subst h0
          decide
        · have : (BitVec.ofNat 32 (2 ^ i)).getLsbD 0 = false := by
            rw [BitVec.getLsbD_ofNat, Nat.testBit_two_pow_of_ne h0]; rfl
          rw [this]
          simp
          omega
    · rw [if_neg hb]
      refine ⟨V, h1, ?_⟩
      by_cases h0 : i = 0
      · subst h0
        exfalso
        apply hb
        simp [hp, hk]
      · rw [h2]
        simp
        omega

theorem sumFrom_turn (l : List UInt8) (k pat : Nat) (c : BitVec 32) (hk : k < 8 * l.length) (hp : pat.testBit 0 = true) : sumFrom c (turn l k pat) ≠ sumFrom c l := by
  obtain ⟨V, h1, h2⟩ := sumFrom_turnGo l k pat c hk hp 32 (Nat.le_refl _)
  intro e
  rw [turn, h1] at e
  have hz : zN (8 * l.length - k) V = 0#32 := by
    have := congrArg (fun x => sumFrom c l ^^^ x) e
    simpa [← BitVec.xor_assoc] using this
  have hV := zN_zero _ _ hz
  rw [hV] at h2
  simp at h2

theorem turn_len (l : List UInt8) (k pat : Nat) : (turn l k pat).length = l.length := turnGo_len l k pat 32

theorem sum_turn (l : List UInt8) (k pat : Nat) (hk : k < 8 * l.length) (hp : pat.testBit 0 = true) : sum (turn l k pat) ≠ sum l := by
  intro e
  unfold sum at e
  exact sumFrom_turn l k pat _ hk hp (by simpa using congrArg (~~~ ·) e)

/-- A frame whose bytes behind the size are turned so is none. -/
theorem opened_turn (l : List UInt8) (k pat : Nat) (hl : l.length ≤ 4096) (hk : k < 8 * l.length) (hp : pat.testBit 0 = true) : opened ((frame l).take 6 ++ turn l k pat) = ([], 5) := by
  have hq := turn_len l k pat
  have h6 : (frame l).take 6 = low (sum (framed l)).toNat 4 ++ low l.length 2 := by
    rw [frame_parts, ← List.append_assoc]
    exact List.take_left' (by simp [low_len])
  have hne : sum (low l.length 2 ++ turn l k pat) ≠ sum (framed l) := by
    intro e
    unfold sum framed at e
    have e2 := congrArg (~~~ ·) e
    simp only [BitVec.not_not] at e2
    rw [sumFrom_append, sumFrom_append] at e2
    exact sumFrom_turn l k pat _ hk hp e2
  have hn : next ((frame l).take 6 ++ turn l k pat) = ([], [], 5) := by
    rw [h6]
    generalize turn l k pat = q at *
    have e0 : ((low (sum (framed l)).toNat 4 ++ low l.length 2) ++ q).length = 6 + l.length := by simp [low_len, hq]; omega
    have e1 : (((low (sum (framed l)).toNat 4 ++ low l.length 2) ++ q).take 6).drop 4 = low l.length 2 := by
      rw [List.take_left' (by simp [low_len]), List.drop_left' (low_len _ _)]
    have e2 : num (low l.length 2) = l.length := by rw [num_low]; omega
    have e3 : ((low (sum (framed l)).toNat 4 ++ low l.length 2) ++ q).take 4 = low (sum (framed l)).toNat 4 := by
      rw [List.append_assoc]; exact List.take_left' (low_len _ _)
    have e4 : (((low (sum (framed l)).toNat 4 ++ low l.length 2) ++ q).take (6 + l.length)).drop 4 = low l.length 2 ++ q := by
      rw [List.take_of_length_le (by omega), List.append_assoc]
      exact List.drop_left' (low_len _ _)
    have e5 : num (low (sum (framed l)).toNat 4) = (sum (framed l)).toNat := by
      rw [num_low]
      exact Nat.mod_eq_of_lt (sum (framed l)).isLt
    rw [next, e0, if_neg (by omega), e1, e2, if_neg (by omega), if_neg (by omega), e4, e3, e5, if_pos]
    intro e
    exact hne (BitVec.eq_of_toNat_eq e)
  rw [opened, hn]
  rfl
end Go.Arm
