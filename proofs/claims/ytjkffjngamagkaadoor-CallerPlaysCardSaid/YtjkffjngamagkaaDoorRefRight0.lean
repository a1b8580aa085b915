/- armillaryref12: has, num, vec; armillaryref03: Right. -/
import Derived.Test.YtjkffjngamagkaaDoorPackD
namespace Go.Arm
theorem has_lets (k i : Nat) (hi : i < 15) : ((sortLets k).any fun x => x == letters.getD i 0) = hasF k i := by
 by_cases hk : k < 23
 ·have : ∀ k : Fin 23, ∀ i : Fin 15, ((sortLets k.val).any fun x => x == letters.getD i.val 0) = hasF k.val i.val := by decide +kernel
  exact this ⟨k, hk⟩ ⟨i, hi⟩
 ·have e := sortAt_far k (by omega)
  simp [sortLets, hasF, sortMask, e]
theorem any_take' (l : List UInt8) (c : UInt8) (j : Nat) (h : j < l.length) (h1 : (l.take j).any (· == c) = false) (h2 : (((l[j]).toNat : Int) == (c.toNat : Int)) = false) : (l.take (j + 1)).any (· == c) = false := by
 rw [any_take l c j h, h1, Bool.false_or, ← u8_eq, h2]
theorem any_here (l : List UInt8) (c : UInt8) (j : Nat) (h : j < l.length) (h2 : (((l[j]).toNat : Int) == (c.toNat : Int)) = true) : l.any (· == c) = true := by
 rw [u8_eq] at h2
 rw [List.any_eq_true]
 exact ⟨l[j], List.getElem_mem h, h2⟩
end Go.Arm
namespace Go.Proofs.YtjkffjngamagkaaDoor
open Go Go.RowKit Go.Arm
set_option maxRecDepth 100000 in
theorem has_any (w : World) (k i : Nat) (c : Int) (hk : k < 256) (hi : i < 15) (hc : ((letters.getD i 0).toNat : Int) = c) :
  Calls Tryd.prog 106 #[.int .u8 k, .int .u8 c] w fun e w' => e = .returned (.bool (hasF k i)) ∧ w = w' := by
 subst hc
 rw [← has_lets k i hi]
 generalize letters.getD i 0 = cc
 have hname := rname_any w k hk
 have hLl : (sortLets k).length ≤ 100 := by
  have : ∀ q : Fin 256, (sortLets q.val).length ≤ 100 := by decide +kernel
  exact this ⟨k, hk⟩
 generalize sortLets k = LS at *
 obtain ⟨R, hR⟩ : ∃ R, R = LS.any (· == cc) := ⟨_, rfl⟩
 rw [← hR]
 have HR := Lib.hid hR
 clear hR
 go_enter Tryd.func106, Tryd.ntmps106
 go_wp2_with (first | ((with_reducible apply ugZ); rfl) | ((with_reducible (first | apply len_B | apply len_BB | apply len_N | apply len_V | apply len_VV | apply len_P | apply len_O | apply len_H)); assumption) | ((with_reducible refine stop_if kT ?_ ?_); rfl))
 refine hname.mono ?_
 rintro e w2 ⟨rfl, rfl⟩
 clear hname
 go_wp2_with (first | ((with_reducible apply ugZ); rfl) | ((with_reducible (first | apply len_B | apply len_BB | apply len_N | apply len_V | apply len_VV | apply len_P | apply len_O | apply len_H)); assumption) | ((with_reducible refine stop_if kT ?_ ?_); rfl))
 go_loopg [7] (LS.length + 1) (fun kk x7 wr => ∃ j : Nat, kk = LS.length - j + 1 ∧ j ≤ LS.length ∧ x7 = .int .i64 j ∧ (LS.take j).any (· == cc) = false ∧ w = wr)
 case atStart => exact ⟨0, by omega, by omega, rfl, rfl, rfl⟩
 case round =>
  obtain ⟨j, hk, hj, rfl, hf, rfl⟩ := hrel
  have Hk := Lib.hid hk
  have Hf := Lib.hid hf
  clear hk hf
  by_cases hlt : j < LS.length
  ·have hltI : (j : Int) < (LS.length : Int) := by omega
   have hltB : j < (ByteArray.mk LS.toArray).size := hlt
   cases hb : ((((ByteArray.mk LS.toArray)[j]'hltB).toNat : Int) == (cc.toNat : Int))
   ·have hn := any_take' LS cc j hlt Hf.out hb
    have Hn := Lib.hid hn
    clear hn
    go_wp2_with (fail)
    go_roundg (LS.length - (j + 1) + 1)
    case measure => have := Hk.out; omega
    case rel => exact ⟨j + 1, by omega, by omega, by go_num, Hn.out, rfl⟩
   ·have hn := any_here LS cc j hlt hb
    have e : R = true := HR.out.trans hn
    subst e
    clear HR hn
    go_wp2_with (fail)
    go_ret
    exact ⟨rfl, rfl⟩
  ·have hltI : ¬ (j : Int) < (LS.length : Int) := by omega
   obtain rfl : j = LS.length := by omega
   have hn := Hf.out
   rw [List.take_of_length_le (Nat.le_refl _)] at hn
   have e : R = false := HR.out.trans hn
   subst e
   clear HR hn Hf
   go_wp2_with (fail)
   go_ret
   exact ⟨rfl, rfl⟩
set_option maxRecDepth 100000 in
theorem num12_any (w : World) (k i x most : Nat) (c X M : Int) (hk : k < 256) (hi : i < 15) (hc : ((letters.getD i 0).toNat : Int) = c) (hX : (x : Int) = X) (hM : (most : Int) = M) :
  Calls Tryd.prog 71 #[.int .u8 k, .int .u8 c, .int .u64 X, .int .u64 M] w fun e w' => e = .returned (.bool (numR k i x most)) ∧ w = w' := by
 subst hX
 subst hM
 have hh := has_any w k i c hk hi hc
 obtain ⟨R, hR⟩ : ∃ R, R = numR k i x most := ⟨_, rfl⟩
 rw [← hR]
 unfold numR at hR
 by_cases h1 : x ≤ most
 ·have h1I : (x : Int) ≤ (most : Int) := by omega
  rw [decide_eq_true h1, Bool.true_and] at hR
  by_cases h2 : x = 0
  ·have h2b : ((x : Int) == 0) = true := by rw [h2]; rfl
   rw [decide_eq_true h2, Bool.true_or] at hR
   subst hR
   clear h2 hh
   go_enter Tryd.func71, Tryd.ntmps71
   go_wp2_with (fail)
   go_ret
   exact ⟨rfl, rfl⟩
  ·have h2b : ((x : Int) == 0) = false := beq_eq_false_iff_ne.2 (by omega)
   rw [decide_eq_false h2, Bool.false_or] at hR
   subst hR
   clear h2
   go_enter Tryd.func71, Tryd.ntmps71
   go_wp2_with (fail)
   refine hh.mono ?_
   rintro e w2 ⟨rfl, rfl⟩
   go_wp2_with (fail)
   go_ret
   exact ⟨rfl, rfl⟩
 ·have h1I : ¬ (x : Int) ≤ (most : Int) := by omega
  rw [decide_eq_false h1, Bool.false_and] at hR
  subst hR
  clear hh
  go_enter Tryd.func71, Tryd.ntmps71
  go_wp2_with (fail)
  go_ret
  exact ⟨rfl, rfl⟩
set_option maxRecDepth 100000 in
theorem r3right_any (w : World) (S : Nat → Prop) (l : List Int32) (p : Value) (hp : Sl w S l p) :
  Calls Tryd.prog 73 #[p] w fun e w' => e = .returned (.bool (vecRight l)) ∧ w = w' := by
 have hm := hp.length_le
 unfold maxLen at hm
 obtain ⟨R, hR⟩ : ∃ R, R = vecRight l := ⟨_, rfl⟩
 rw [← hR]
 unfold vecRight at hR
 have HR := Lib.hid hR
 clear hR
 go_enter Tryd.func73, Tryd.ntmps73
 go_wp2_with (first | ((with_reducible apply ugZ); rfl) | ((with_reducible (first | apply len_B | apply len_BB | apply len_N | apply len_V | apply len_VV | apply len_P | apply len_O | apply len_H)); assumption) | ((with_reducible refine stop_if kK ?_ ?_); rfl))
 go_loopg [7] (l.length + 1) (fun kk x7 wr => ∃ j : Nat, kk = l.length - j + 1 ∧ j ≤ l.length ∧ x7 = .int .i64 j ∧ (l.take j).all inCoord = true ∧ w = wr)
 case atStart => exact ⟨0, by omega, by omega, rfl, rfl, rfl⟩
 case round =>
  obtain ⟨j, hk, hj, rfl, hf, rfl⟩ := hrel
  have Hk := Lib.hid hk
  have Hf := Lib.hid hf
  clear hk hf
  by_cases hlt : j < l.length
  ·have hltI : (j : Int) < (l.length : Int) := by omega
   go_wp2_with (first | ((with_reducible apply ugZ); rfl) | ((with_reducible (first | apply len_B | apply len_BB | apply len_N | apply len_V | apply len_VV | apply len_P | apply len_O | apply len_H)); assumption) | ((with_reducible refine stop_if kK ?_ ?_); rfl))
   refine Stop.go (idx_V hp rfl (by omega) hltI fun b o y hy hc => ?_)
   rw [Int.toNat_natCast] at hy
   by_cases c1 : y.toInt > 268435456
   ·have e : R = false := by
     rw [HR.out, all_falsified inCoord l j y hy (by unfold inCoord; simp; omega)]; simp
    subst e
    clear HR
    go_wp2_with (fail)
    go_ret
    exact ⟨rfl, rfl⟩
   ·by_cases c2 : y.toInt < -268435456
    ·have e : R = false := by
      rw [HR.out, all_falsified inCoord l j y hy (by unfold inCoord; simp; omega)]; simp
     subst e
     clear HR
     go_wp2_with (fail)
     go_ret
     exact ⟨rfl, rfl⟩
    ·have hn := all_take_snoc inCoord l j y hy Hf.out (by unfold inCoord; simp; omega)
     have Hn := Lib.hid hn
     clear hn hy
     go_wp2_with (fail)
     go_roundg (l.length - (j + 1) + 1)
     case measure => have := Hk.out; omega
     case rel => exact ⟨j + 1, by omega, by omega, by go_num, Hn.out, rfl⟩
  ·have hltI : ¬ (j : Int) < (l.length : Int) := by omega
   obtain rfl : j = l.length := by omega
   have hn := Hf.out
   rw [List.take_of_length_le (Nat.le_refl _)] at hn
   have h0 := HR.out
   rw [hn, Bool.and_true] at h0
   clear HR hn Hf
   by_cases d1 : 0 < l.length
   ·have d1I : (l.length : Int) ≥ 1 := by omega
    by_cases d2 : l.length ≤ 8
    ·have d2I : (l.length : Int) ≤ 8 := by omega
     rw [decide_eq_true d1, decide_eq_true d2] at h0
     subst h0
     go_wp2_with (first | ((with_reducible apply ugZ); rfl) | ((with_reducible (first | apply len_B | apply len_BB | apply len_N | apply len_V | apply len_VV | apply len_P | apply len_O | apply len_H)); assumption) | ((with_reducible refine stop_if kK ?_ ?_); rfl))
     go_ret
     exact ⟨rfl, rfl⟩
    ·have d2I : ¬ (l.length : Int) ≤ 8 := by omega
     rw [decide_eq_true d1, decide_eq_false d2] at h0
     subst h0
     go_wp2_with (first | ((with_reducible apply ugZ); rfl) | ((with_reducible (first | apply len_B | apply len_BB | apply len_N | apply len_V | apply len_VV | apply len_P | apply len_O | apply len_H)); assumption) | ((with_reducible refine stop_if kK ?_ ?_); rfl))
     go_ret
     exact ⟨rfl, rfl⟩
   ·have d1I : ¬ (l.length : Int) ≥ 1 := by omega
    rw [decide_eq_false d1, Bool.false_and] at h0
    subst h0
    go_wp2_with (first | ((with_reducible apply ugZ); rfl) | ((with_reducible (first | apply len_B | apply len_BB | apply len_N | apply len_V | apply len_VV | apply len_P | apply len_O | apply len_H)); assumption) | ((with_reducible refine stop_if kK ?_ ?_); rfl))
    go_ret
    exact ⟨rfl, rfl⟩
set_option maxRecDepth 100000 in
theorem vec12_any (w : World) (S : Nat → Prop) (l : List Int32) (p : Value) (hp : Sl w S l p) :
  Calls Tryd.prog 72 #[p] w fun e w' => e = .returned (.bool (vecBare l)) ∧ w = w' := by
 have hh := r3right_any w S l p hp
 obtain ⟨R, hR⟩ : ∃ R, R = vecBare l := ⟨_, rfl⟩
 rw [← hR]
 unfold vecBare at hR
 by_cases h2 : l.length = 0
 ·have h2b : ((l.length : Int) == 0) = true := by rw [h2]; rfl
  rw [decide_eq_true h2, Bool.true_or] at hR
  subst hR
  clear h2 hh
  go_enter Tryd.func72, Tryd.ntmps72
  go_wp2_with (first | ((with_reducible apply ugZ); rfl) | ((with_reducible (first | apply len_B | apply len_BB | apply len_N | apply len_V | apply len_VV | apply len_P | apply len_O | apply len_H)); assumption) | ((with_reducible refine stop_if kK ?_ ?_); rfl))
  go_ret
  exact ⟨rfl, rfl⟩
 ·have h2b : ((l.length : Int) == 0) = false := beq_eq_false_iff_ne.2 (by omega)
  rw [decide_eq_false h2, Bool.false_or] at hR
  subst hR
  clear h2
  go_enter Tryd.func72, Tryd.ntmps72
  go_wp2_with (first | ((with_reducible apply ugZ); rfl) | ((with_reducible (first | apply len_B | apply len_BB | apply len_N | apply len_V | apply len_VV | apply len_P | apply len_O | apply len_H)); assumption) | ((with_reducible refine stop_if kK ?_ ?_); rfl))
  refine hh.mono ?_
  rintro e w2 ⟨rfl, rfl⟩
  go_wp2_with (first | ((with_reducible apply ugZ); rfl) | ((with_reducible (first | apply len_B | apply len_BB | apply len_N | apply len_V | apply len_VV | apply len_P | apply len_O | apply len_H)); assumption) | ((with_reducible refine stop_if kK ?_ ?_); rfl))
  go_ret
  exact ⟨rfl, rfl⟩
end Go.Proofs.YtjkffjngamagkaaDoor
