/- Plain Lean: what the document says of layer 2 (scroll). No program in sight. -/
import Derived.Test.YtnkbfelnggompaaDoorBits
namespace Go.Arm

/-- A number's bytes: seven bits a byte, the lowest first. -/
def enc (n : Nat) : List UInt8 := if n < 128 then [UInt8.ofNat n] else UInt8.ofNat (n % 128 + 128) :: enc (n / 128)
termination_by n
decreasing_by omega

theorem enc_small (n : Nat) (h : n < 128) : enc n = [UInt8.ofNat n] := by rw [enc, if_pos h]
theorem enc_big (n : Nat) (h : ¬ n < 128) : enc n = UInt8.ofNat (n % 128 + 128) :: enc (n / 128) := by rw [enc, if_neg h]

theorem enc_len_le : ∀ (k n : Nat), n < 128 ^ (k + 1) → (enc n).length ≤ k + 1
  | 0, n, h => by rw [enc_small n (by simpa using h)]; simp
  | k + 1, n, h => by
    by_cases h1 : n < 128
    · rw [enc_small n h1]; simp
    · rw [enc_big n h1, List.length_cons]
      have := enc_len_le k (n / 128) (by
        rw [Nat.pow_succ] at h
        exact Nat.div_lt_of_lt_mul (by rw [Nat.mul_comm]; exact h))
      omega

theorem enc_len10 (n : Nat) (h : n < 18446744073709551616) : (enc n).length ≤ 10 := enc_len_le 9 n (by omega)

/-- A whole number, as a number. -/
def zig (z : Int) : Nat := if z < 0 then (-2 * z - 1).toNat else (2 * z).toNat

def encText (t : List UInt8) : List UInt8 := enc t.length ++ t
def encVec (v : List Int32) : List UInt8 := enc v.length ++ v.flatMap fun z => enc (zig z.toInt)

def encs (ns : List UInt64) : List UInt8 := ns.flatMap fun n => enc n.toNat
def encTexts (l : List (List UInt8)) : List UInt8 := l.flatMap encText
def encVecs (l : List (List Int32)) : List UInt8 := l.flatMap encVec
def encInts (v : List Int32) : List UInt8 := v.flatMap fun z => enc (zig z.toInt)

theorem flatMap_snoc {α : Type} (f : α → List UInt8) (l : List α) (j : Nat) (y : α) (h : l[j]? = some y) : (l.take (j + 1)).flatMap f = (l.take j).flatMap f ++ f y := by
  rw [take_snoc l j y h, List.flatMap_append]; simp
end Go.Arm
