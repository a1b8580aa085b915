/- armillarylaw12: NoteFields, as its card wants it. -/
import Derived.Test.YtnkbfelnggompaaDoorNoteFieldsA
import Derived.Test.YtnkbfelnggompaaDoorNoteFieldsB
import Derived.Test.YtnkbfelnggompaaDoorNoteFieldsC
import Derived.Test.YtnkbfelnggompaaDoorNoteFieldsD
namespace Go.Proofs.YtnkbfelnggompaaDoor
open Go Go.RowKit Go.Arm
theorem noteFields_true (w : World) (hN : Srt w) (hB : Nib w) {n n' : Nat} (h : n < 256) (h' : n' < 256) :
    Calls Tryd.prog 3 #[.int .u8 (n : Int), .int .u8 (n' : Int)] w fun e w' => e = .returned (.bool true) ∧ Below w.heap.size w w' := by
  have e : (UInt8.ofNat n).toNat = n := UInt8.toNat_ofNat_of_lt' h
  have hc : Calls Tryd.prog 3 #[.int .u8 ((UInt8.ofNat n).toNat : Int), .int .u8 (n' : Int)] w fun e w' => e = .returned (.bool true) ∧ Below w.heap.size w w' := by
    rcases (show n' % 15 = 0 ∨ n' % 15 = 1 ∨ n' % 15 = 2 ∨ n' % 15 = 3 ∨ n' % 15 = 4 ∨ n' % 15 = 5 ∨ n' % 15 = 6 ∨ n' % 15 = 7 ∨ n' % 15 = 8 ∨ n' % 15 = 9 ∨ n' % 15 = 10 ∨ n' % 15 = 11 ∨ n' % 15 = 12 ∨ n' % 15 = 13 ∨ n' % 15 = 14 by omega) with hi | hi | hi | hi | hi | hi | hi | hi | hi | hi | hi | hi | hi | hi | hi
    · exact noteFields_c0 w hN hB (UInt8.ofNat n) n' h' hi
    · exact noteFields_c1 w hN hB (UInt8.ofNat n) n' h' hi
    · exact noteFields_c2 w hN hB (UInt8.ofNat n) n' h' hi
    · exact noteFields_c3 w hN hB (UInt8.ofNat n) n' h' hi
    · exact noteFields_c4 w hN hB (UInt8.ofNat n) n' h' hi
    · exact noteFields_c5 w hN hB (UInt8.ofNat n) n' h' hi
    · exact noteFields_c6 w hN hB (UInt8.ofNat n) n' h' hi
    · exact noteFields_c7 w hN hB (UInt8.ofNat n) n' h' hi
    · exact noteFields_c8 w hN hB (UInt8.ofNat n) n' h' hi
    · exact noteFields_c9 w hN hB (UInt8.ofNat n) n' h' hi
    · exact noteFields_c10 w hN hB (UInt8.ofNat n) n' h' hi
    · exact noteFields_c11 w hN hB (UInt8.ofNat n) n' h' hi
    · exact noteFields_c12 w hN hB (UInt8.ofNat n) n' h' hi
    · exact noteFields_c13 w hN hB (UInt8.ofNat n) n' h' hi
    · exact noteFields_c14 w hN hB (UInt8.ofNat n) n' h' hi
  rwa [e] at hc
end Go.Proofs.YtnkbfelnggompaaDoor
