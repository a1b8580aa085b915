/- Plain Lean: what the document says of layer 1 (seal). No program in sight. -/
import Derived.Test.YtnkbfelnggompaaDoorBase
namespace Go.Arm

/-- A number's bytes, the lowest first. -/
def low (n : Nat) : Nat → List UInt8
  | 0 => []
  | k + 1 => UInt8.ofNat (n % 256) :: low (n / 256) k

def num : List UInt8 → Nat
  | [] => 0
  | b :: l => b.toNat + 256 * num l

def poly : BitVec 32 := 0xedb88320#32

/-- One bit. -/
def bitStep (c : BitVec 32) (b : Bool) : BitVec 32 := if c.getLsbD 0 != b then (c >>> 1) ^^^ poly else c >>> 1

def stepBits (c : BitVec 32) (b : UInt8) : Nat → BitVec 32
  | 0 => c
  | k + 1 => bitStep (stepBits c b k) (b.toNat.testBit k)

def step (c : BitVec 32) (b : UInt8) : BitVec 32 := stepBits c b 8

def sumFrom (c : BitVec 32) (l : List UInt8) : BitVec 32 := l.foldl step c

def sum (l : List UInt8) : BitVec 32 := ~~~ (sumFrom 0xffffffff#32 l)

/-- What stands behind the sum of a frame. -/
def framed (l : List UInt8) : List UInt8 := low l.length 2 ++ l

def frame (l : List UInt8) : List UInt8 := low (sum (framed l)).toNat 4 ++ framed l

/-- The frame in front: what it carries, what stands behind, the error. -/
def next (l : List UInt8) : List UInt8 × List UInt8 × Int :=
  if l.length < 6 then ([], [], 2)
  else if 4096 < num ((l.take 6).drop 4) then ([], [], 3)
  else if l.length < 6 + num ((l.take 6).drop 4) then ([], [], 2)
  else if (sum ((l.take (6 + num ((l.take 6).drop 4))).drop 4)).toNat ≠ num (l.take 4) then ([], [], 5)
  else ((l.take (6 + num ((l.take 6).drop 4))).drop 6, l.drop (6 + num ((l.take 6).drop 4)), 0)

def allGo : Nat → List UInt8 → List (List UInt8) × List UInt8
  | 0, l => ([], l)
  | k + 1, l => if (next l).2.2 ≠ 0 then ([], l) else ((next l).1 :: (allGo k (next l).2.1).1, (allGo k (next l).2.1).2)

/-- The frames in front, and what stands behind them. -/
def all (l : List UInt8) : List (List UInt8) × List UInt8 := allGo (l.length + 1) l

/-- Bit number k turned, the lowest of a byte first. -/
def flipBit (l : List UInt8) (k : Nat) : List UInt8 := l.modify (k / 8) fun b => UInt8.ofNat (b.toNat ^^^ (2 ^ (k % 8)))

def turnGo (l : List UInt8) (at_ pat : Nat) : Nat → List UInt8
  | 0 => l
  | i + 1 => if pat.testBit i && decide (at_ + i < 8 * l.length) then flipBit (turnGo l at_ pat i) (at_ + i) else turnGo l at_ pat i

/-- Bits turned: those of a pattern, from a bit on. -/
def turn (l : List UInt8) (at_ pat : Nat) : List UInt8 := turnGo l at_ pat 32

def nibTab : List (BitVec 32) := [0#32, 498536548#32, 997073096#32, 651767980#32, 1994146192#32, 1802195444#32, 1303535960#32, 1342533948#32, 3988292384#32, 4027552580#32, 3604390888#32, 3412177804#32, 2607071920#32, 2262029012#32, 2685067896#32, 3183342108#32]

def nib (i : Nat) : BitVec 32 := nibTab.getD i 0

/-- Four bits at once. -/
def nibStep (c : BitVec 32) : BitVec 32 := (c >>> 4) ^^^ nib (c.toNat % 16)

/-- The one frame. -/
def opened (l : List UInt8) : List UInt8 × Int :=
  if (next l).2.2 ≠ 0 then ([], (next l).2.2) else if 0 < (next l).2.1.length then ([], 4) else ((next l).1, 0)

end Go.Arm
