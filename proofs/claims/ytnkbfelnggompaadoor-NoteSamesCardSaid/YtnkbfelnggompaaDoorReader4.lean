/- package scroll: Reader.Vec. -/
import Derived.Test.YtnkbfelnggompaaDoorReader3
namespace Go.Arm
open Go.RowKit
theorem and_one (m : Nat) (h : m < 18446744073709551616) : bits .and .u64 (m : Int) 1 = ((m % 2 : Nat) : Int) := by
  have e := (bits_of_nat .u64 rfl m 1 h (by decide)).1
  rw [show ((1 : Nat) : Int) = 1 from rfl] at e
  rw [e, Nat.and_one_is_mod]
theorem xor_i32 (x y : Int) : bits .xor .i32 x y = IntKind.i32.wrap ((BitVec.ofInt 32 x ^^^ BitVec.ofInt 32 y).toNat : Int) := rfl
theorem bxor (a : Nat) (h : a < 2147483648) : bits .xor .i32 (a : Int) 0 = (a : Int) ∧ bits .xor .i32 (a : Int) (-1) = -(a : Int) - 1 := by
  constructor
  · rw [xor_i32, BitVec.ofInt_natCast, show BitVec.ofInt 32 0 = 0#32 by decide, BitVec.xor_zero, BitVec.toNat_ofNat]
    simp [IntKind.wrap, IntKind.signed, IntKind.bits]
    omega
  · rw [xor_i32, BitVec.ofInt_natCast, show (BitVec.ofInt 32 (-1)) = BitVec.allOnes 32 by decide, BitVec.xor_allOnes, BitVec.toNat_not, BitVec.toNat_ofNat]
    simp [IntKind.wrap, IntKind.signed, IntKind.bits]
    omega
/-- The whole number of a number (less than 2^32). -/
def unzig (u : Nat) : Int := if u % 2 = 0 then (u / 2 : Nat) else -(u / 2 : Nat) - 1
theorem unzig_lt (u : Nat) (h : u < 4294967296) : -2147483648 ≤ unzig u ∧ unzig u < 2147483648 := by unfold unzig; split <;> omega
theorem zag_code (m : Nat) (h : m < 18446744073709551616) :
    bits .xor .i32 ((m : Int) % 4294967296 / 2) (wrap32 (-wrap32 (bits .and .u64 (m : Int) 1))) = (Int32.ofInt (unzig (m % 4294967296))).toInt := by
  rw [and_one m h]
  have hb := unzig_lt (m % 4294967296) (Nat.mod_lt _ (by decide))
  rw [Int32.toInt_ofInt_of_le hb.1 hb.2]
  have hx : (m : Int) % 4294967296 / 2 = ((m % 4294967296 / 2 : Nat) : Int) := by omega
  have hl : m % 4294967296 / 2 < 2147483648 := by omega
  rw [hx]
  have hbx := bxor _ hl
  rcases Nat.mod_two_eq_zero_or_one m with e | e
  · rw [e, show wrap32 (-wrap32 ((0 : Nat) : Int)) = 0 by simp [wrap32], hbx.1, unzig, if_pos (by omega)]
  · rw [e, show wrap32 (-wrap32 ((1 : Nat) : Int)) = -1 by simp [wrap32], hbx.2, unzig, if_neg (by omega)]
theorem zag_code' (m : Nat) (h : m ≤ 4294967295) :
    bits .xor .i32 ((m : Int) / 2) (wrap32 (-wrap32 (bits .and .u64 (m : Int) 1))) = (Int32.ofInt (unzig m)).toInt := by
  have e := zag_code m (by omega)
  rw [Nat.mod_eq_of_lt (by omega), show ((m : Int) % 4294967296) = (m : Int) by omega] at e
  exact e
/-- So many numbers of a vector, ahead of which stands 'rest'; the fault tells whence. -/
def rvec : Nat → List UInt8 → List Int32 × List UInt8 × Int
  | 0, l => ([], l, 0)
  | n + 1, l =>
    if (taken l 18446744073709551615).2.2 ≠ 0 then ([], [], (taken l 18446744073709551615).2.2)
    else if 4294967295 < (taken l 18446744073709551615).1 then ([], [], 4)
    else
      let r := rvec n (taken l 18446744073709551615).2.1
      (Int32.ofInt (unzig (taken l 18446744073709551615).1) :: r.1, r.2)
def rvecs (l : List UInt8) (e : Int) (most : Nat) : List Int32 × List UInt8 × Int :=
  if e ≠ 0 then ([], l, e) else if (taken l most).2.2 ≠ 0 then ([], l, (taken l most).2.2)
  else if (rvec (taken l most).1 (taken l most).2.1).2.2 ≠ 0 then ([], l, (rvec (taken l most).1 (taken l most).2.1).2.2)
  else rvec (taken l most).1 (taken l most).2.1
end Go.Arm
namespace Go.Proofs.YtnkbfelnggompaaDoor
open Go Go.RowKit Go.Arm

theorem rds_V2 {w w' : World} {S S' : Nat → Prop} : ∀ {l : List Int32} {cs : List Value}, rds w S l cs → rds w' S' l cs
  | [], _, h => h
  | _ :: _, _, h => by
    obtain ⟨c, d, rfl, h1, h2⟩ := h
    exact ⟨c, d, rfl, h1, rds_V2 h2⟩

/-- append(s, x...) of whole numbers to a row of the call's own. -/
theorem app_V {ops : Array Oper} {a : Act} {w : World} {rest : List Oper} {dst : Option Tmp} {ty : TypeId} {pos : String} {after : Array Edge} {Q : Exit → Act → World → Prop} {s x : Operand} {B : Nat} {S : Nat → Prop} {l m : List Int32} (hs : Own w B 21 (fun _ => False) l (a.eval s)) (hx : Sl w S m (a.eval x))
    (hl : l.length + m.length ≤ 35184372088832) (hB : B ≤ w.heap.size)
    (h : ∀ v' w', Own w' B 21 (fun _ => False) (l ++ m) v' → w.grownBy w' (a.eval s).ownBlock → (v'.ownBlock = (a.eval s).ownBlock ∨ ∃ g, v'.ownBlock = some g ∧ w.heap.size ≤ g) → wpList Tryd.prog ops Q rest (a.put dst v') w') :
    wpList Tryd.prog ops Q (⟨dst, .call ⟨.builtin .append, #[s, x], #[27, 27]⟩, ty, pos, after, none⟩ :: rest) a w :=
  wpList_append rowV rfl (by decide) hs hx (fun _ _ h => rds_V2 h) (fun _ h => h.elim) (by simp only [maxLen]; omega) (by omega) hB h

theorem Own.drewN {α : Type} [Rep α] {w : World} {B : Nat} {e : TypeId} {S : Nat → Prop} {l : List α} {v : Value} (h : Own w B e S l v) (n : Nat) : Own (w.drewN n) B e S l v := h.keep (fun _ hb _ => ⟨rfl, hb⟩) fun _ _ => rfl
theorem taken_num (l : List UInt8) (m : Nat) (h : m < 18446744073709551616) : (taken l m).1 < 18446744073709551616 := by
  unfold taken
  split
  · simp
  · split
    · simp
    · simp; omega
theorem taken_bad (l : List UInt8) (m : Nat) (h : (taken l m).2.2 ≠ 0) : (taken l m).1 = 0 := by
  unfold taken at h ⊢
  split
  · rfl
  · split
    · rfl
    · rename_i h1 h2
      rw [if_neg h1, if_neg h2] at h
      exact absurd rfl h
theorem peekGo_pos : ∀ (l : List UInt8) (i acc : Nat), (peekGo l i acc).2.2 = 0 → i < (peekGo l i acc).2.1
  | [], i, acc => by simp [peekGo]
  | b :: l, i, acc => by
    have ih := peekGo_pos l (i + 1) (acc + 128 ^ i * (b.toNat - 128))
    rw [peekGo]
    split
    · simp
    · split
      · split <;> simp
      · intro h
        have := ih h
        omega
theorem taken_lt (l : List UInt8) (m : Nat) (h : (taken l m).2.2 = 0) : (taken l m).2.1.length < l.length := by
  unfold taken at h ⊢
  by_cases h1 : (peek l).2.2 = 0
  · rw [if_neg (by simpa using h1)] at h ⊢
    have h2 := peekGo_pos l 0 0 h1
    have h3 := peek_size l
    split
    · rw [if_pos (by assumption)] at h
      simp at h
    · have h4 : 0 < (peek l).2.1 := h2
      simp only [List.length_drop]
      omega
  · rw [if_pos h1] at h
    exact absurd h h1

set_option maxRecDepth 100000 in
theorem vec_any (w : World) (g : Nat) (S : Nat → Prop) (l : List UInt8) (e0 : Int) (most : Int) (hr : Rd w g S l e0) (hm : most < 9223372036854775808) (hl : l.length ≤ 1000000000) :
    Calls Tryd.prog 71 #[.pointer (some ⟨g, 0, none⟩), .int .i64 most] w fun e w' => ∃ v, e = .returned v ∧ Own w' w.heap.size 21 (fun _ => False) (rvecs l e0 most.toNat).1 v ∧ Rd w' g S (rvecs l e0 most.toNat).2.1 (rvecs l e0 most.toNat).2.2 ∧ Only (· = g) w w' := by
  obtain ⟨R, hR⟩ : ∃ R, R = rvecs l e0 most.toNat := ⟨_, rfl⟩
  rw [← hR]
  unfold rvecs at hR
  have HR := Lib.hid hR
  clear hR
  by_cases h0 : e0 = 0
  · subst h0
    have hR := HR.out
    rw [if_neg (by decide)] at hR
    have hr' := hr
    obtain ⟨v, a1, a2, a3⟩ := hr'
    have c0 : w.cell? ⟨g, 0, none⟩ = some v := by simp [World.cell?, a1]
    clear a1 HR
    obtain ⟨T, hT⟩ : ∃ T, T = taken l most.toNat := ⟨_, rfl⟩
    rw [← hT] at hR
    have HR := Lib.hid hR
    clear hR
    go_enter Tryd.func71, Tryd.ntmps71
    go_wp2_with (first | ((with_reducible apply wpList_unguard); rfl) | (with_reducible refine stop_make ?_) | ((with_reducible apply len_B); assumption) | ((with_reducible apply len_BB); assumption)  | ((with_reducible apply len_N); assumption) | ((with_reducible apply len_V); assumption) | ((with_reducible apply len_VV); assumption)  | (with_reducible refine stop_builtin ?_) | (with_reducible refine stop_slice ?_) | (with_reducible refine stop_index_B ?_) | (with_reducible refine stop_index_BB ?_)  | (with_reducible refine stop_index_N ?_) | (with_reducible refine stop_index_V ?_) | (with_reducible refine stop_index_VV ?_)  | (with_reducible refine stop_str_B ?_) | (with_reducible refine stop_mark_B ?_) | (with_reducible refine stop_buildSlice ?_))
    refine (dead_any w g S l 0 hr).mono ?_
    rintro e w1 ⟨rfl, rfl⟩
    rw [show ((0 : Int) != 0) = false by decide]
    go_wp2_with (first | ((with_reducible apply wpList_unguard); rfl) | (with_reducible refine stop_make ?_) | ((with_reducible apply len_B); assumption) | ((with_reducible apply len_BB); assumption)  | ((with_reducible apply len_N); assumption) | ((with_reducible apply len_V); assumption) | ((with_reducible apply len_VV); assumption)  | (with_reducible refine stop_builtin ?_) | (with_reducible refine stop_slice ?_) | (with_reducible refine stop_index_B ?_) | (with_reducible refine stop_index_BB ?_)  | (with_reducible refine stop_index_N ?_) | (with_reducible refine stop_index_V ?_) | (with_reducible refine stop_index_VV ?_)  | (with_reducible refine stop_str_B ?_) | (with_reducible refine stop_mark_B ?_) | (with_reducible refine stop_buildSlice ?_))
    refine Stop.go (max0 rfl rfl ?_)
    obtain ⟨M, hM⟩ : ∃ M, M = most.toNat := ⟨_, rfl⟩
    have hMl : M < 9223372036854775808 := by omega
    rw [← hM] at hT ⊢
    have HM := Lib.hid hM
    clear hM
    go_wp2_with (first | ((with_reducible apply wpList_unguard); rfl) | (with_reducible refine stop_make ?_) | ((with_reducible apply len_B); assumption) | ((with_reducible apply len_BB); assumption)  | ((with_reducible apply len_N); assumption) | ((with_reducible apply len_V); assumption) | ((with_reducible apply len_VV); assumption)  | (with_reducible refine stop_builtin ?_) | (with_reducible refine stop_slice ?_) | (with_reducible refine stop_index_B ?_) | (with_reducible refine stop_index_BB ?_)  | (with_reducible refine stop_index_N ?_) | (with_reducible refine stop_index_V ?_) | (with_reducible refine stop_index_VV ?_)  | (with_reducible refine stop_str_B ?_) | (with_reducible refine stop_mark_B ?_) | (with_reducible refine stop_buildSlice ?_))
    refine (take_any w S l v M a2).mono ?_
    rintro e w1 ⟨u, nq, rfl, hu, rfl⟩
    rw [← hT] at hu ⊢
    have hTl : T.2.1.length ≤ l.length := by rw [hT]; exact taken_len l M
    have hTn : T.1 < 18446744073709551616 := by rw [hT]; exact taken_num l M (by omega)
    have hu1 := hu.drewN nq
    have hr1 := hr.drewN nq
    have ho1 := Only.drewN (· = g) w nq
    clear hT hu hr c0 a2
    generalize w.drewN nq = w1 at *
    have hsz := ho1.size
    have HO1 := Lib.hid ho1
    clear ho1
    obtain ⟨RV, hRV⟩ : ∃ RV, RV = if T.2.2 ≠ 0 then ([], [], T.2.2) else rvec T.1 T.2.1 := ⟨_, rfl⟩
    have HRR : Hid (R = if RV.2.2 ≠ 0 then ([], l, RV.2.2) else RV) := by
      refine Lib.hid ?_
      have e := HR.out
      by_cases h : T.2.2 = 0
      · rw [if_neg (by simpa using h)] at e hRV
        rw [hRV]; exact e
      · rw [if_pos h] at e hRV
        rw [hRV, if_pos h]; exact e
    have hst0 : (T.2.2 = 0 ∧ RV = ([] ++ (rvec (T.1 - 0) T.2.1).1, (rvec (T.1 - 0) T.2.1).2)) ∨ (T.2.2 ≠ 0 ∧ RV.2.2 = T.2.2) := by
      by_cases h : T.2.2 = 0
      · rw [if_neg (by simpa using h)] at hRV
        exact .inl ⟨h, by rw [hRV]; simp⟩
      · rw [if_pos h] at hRV
        exact .inr ⟨h, by rw [hRV]⟩
    clear HR hRV
    have Hst0 := Lib.hid hst0
    clear hst0
    have hu1' : Sl w1 (fun b => S b ∧ b < w1.heap.size) T.2.1 u := hu1.wide fun b h1 h2 => ⟨h1, h2⟩
    clear hu1
    go_wp2_with (first | ((with_reducible apply wpList_unguard); rfl) | (with_reducible refine stop_make ?_) | ((with_reducible apply len_B); assumption) | ((with_reducible apply len_BB); assumption)  | ((with_reducible apply len_N); assumption) | ((with_reducible apply len_V); assumption) | ((with_reducible apply len_VV); assumption)  | (with_reducible refine stop_builtin ?_) | (with_reducible refine stop_slice ?_) | (with_reducible refine stop_index_B ?_) | (with_reducible refine stop_index_BB ?_)  | (with_reducible refine stop_index_N ?_) | (with_reducible refine stop_index_V ?_) | (with_reducible refine stop_index_VV ?_)  | (with_reducible refine stop_str_B ?_) | (with_reducible refine stop_mark_B ?_) | (with_reducible refine stop_buildSlice ?_))
    go_loopg [6, 7, 8, 9, 10] (T.1 + 1) (fun k r e o i x wr => ∃ (j : Nat) (L : List UInt8) (E : Int) (D : List Int32), k = T.1 - j + 1 ∧ j ≤ T.1 ∧ Sl wr (fun b => S b ∧ b < w1.heap.size) L r ∧ e = .int .i64 E ∧ i = .int .u64 j ∧ Own wr w1.heap.size 21 (fun _ => False) D o ∧ Below w1.heap.size w1 wr
      ∧ D.length + L.length ≤ l.length + 1 ∧ (E = 0 → D.length + L.length ≤ l.length) ∧ ((E = 0 ∧ RV = (D ++ (rvec (T.1 - j) L).1, (rvec (T.1 - j) L).2)) ∨ (E ≠ 0 ∧ RV.2.2 = E)))
    case atStart => exact ⟨0, T.2.1, T.2.2, [], rfl, by omega, hu1', rfl, rfl, Own.nil _ _ _ _, Below.refl _ _, by simp; omega, fun _ => by simpa using hTl, Hst0.out⟩
    case round =>
      obtain ⟨j, L, E, D, hk, hj, hL, rfl, rfl, ho, hb, hlen, hlen0, hst⟩ := hrel
      have Hst := Lib.hid hst
      clear hst
      by_cases hE : E = 0
      · subst hE
        by_cases hlt : j < T.1
        · go_wp2_with (first | ((with_reducible apply wpList_unguard); rfl) | (with_reducible refine stop_make ?_) | ((with_reducible apply len_B); assumption) | ((with_reducible apply len_BB); assumption)  | ((with_reducible apply len_N); assumption) | ((with_reducible apply len_V); assumption) | ((with_reducible apply len_VV); assumption)  | (with_reducible refine stop_builtin ?_) | (with_reducible refine stop_slice ?_) | (with_reducible refine stop_index_B ?_) | (with_reducible refine stop_index_BB ?_)  | (with_reducible refine stop_index_N ?_) | (with_reducible refine stop_index_V ?_) | (with_reducible refine stop_index_VV ?_)  | (with_reducible refine stop_str_B ?_) | (with_reducible refine stop_mark_B ?_) | (with_reducible refine stop_buildSlice ?_))
          refine (take_any wr _ L _ 18446744073709551615 hL).mono ?_
          rintro e w2 ⟨u2, nq2, rfl, hu2, rfl⟩
          obtain ⟨U, hU⟩ : ∃ U, U = taken L 18446744073709551615 := ⟨_, rfl⟩
          rw [← hU] at hu2 ⊢
          have hul : U.1 < 18446744073709551616 := by rw [hU]; exact taken_num _ _ (by decide)
          have hlt2 : U.2.2 = 0 → U.2.1.length < L.length := by rw [hU]; exact taken_lt L _
          have hle2 : U.2.1.length ≤ L.length := by rw [hU]; exact taken_len L _
          have hrv : rvec (T.1 - j) L = if U.2.2 ≠ 0 then ([], [], U.2.2) else if 4294967295 < U.1 then ([], [], 4) else (Int32.ofInt (unzig U.1) :: (rvec (T.1 - (j + 1)) U.2.1).1, (rvec (T.1 - (j + 1)) U.2.1).2) := by
            rw [show T.1 - j = T.1 - (j + 1) + 1 by omega, rvec, ← hU]
          have Hrv := Lib.hid hrv
          have HU := Lib.hid hU
          clear hrv hU
          by_cases hE2 : U.2.2 = 0
          · by_cases hbig : 4294967295 < U.1
            · have hbig' : (4294967295 : Int) < (U.1 : Int) := by omega
              go_wp2_with (first | ((with_reducible apply wpList_unguard); rfl) | (with_reducible refine stop_make ?_) | ((with_reducible apply len_B); assumption) | ((with_reducible apply len_BB); assumption)  | ((with_reducible apply len_N); assumption) | ((with_reducible apply len_V); assumption) | ((with_reducible apply len_VV); assumption)  | (with_reducible refine stop_builtin ?_) | (with_reducible refine stop_slice ?_) | (with_reducible refine stop_index_B ?_) | (with_reducible refine stop_index_BB ?_)  | (with_reducible refine stop_index_N ?_) | (with_reducible refine stop_index_V ?_) | (with_reducible refine stop_index_VV ?_)  | (with_reducible refine stop_str_B ?_) | (with_reducible refine stop_mark_B ?_) | (with_reducible refine stop_buildSlice ?_))
              rw [zag_code _ hul]
              obtain ⟨c, hc⟩ : ∃ c, c = Int32.ofInt (unzig (U.1 % 4294967296)) := ⟨_, rfl⟩
              rw [← hc]
              have HC := Lib.hid hc
              clear hc
              refine Stop.go (build_V (S := fun _ => False) ([c] : List Int32) [_] rfl rfl rds_V (by simp) fun q w3 k1 k2 k3 k4 => ?_)
              have hbd : Below w1.heap.size w1 (wr.drewN nq2) := ⟨hb.os, hb.tape, hb.output, hb.size, hb.block⟩
              have ho3 := (Own.drewN ho nq2).grown0 k2
              have hb3 : Below w1.heap.size w1 w3 := hbd.grown k2 hbd.size (by simp)
              have hL3 := (hu2.drewN nq2).grown0 k2
              clear k2 k3 k4
              go_wp2_with (first | ((with_reducible apply wpList_unguard); rfl) | (with_reducible refine stop_make ?_) | ((with_reducible apply len_B); assumption) | ((with_reducible apply len_BB); assumption)  | ((with_reducible apply len_N); assumption) | ((with_reducible apply len_V); assumption) | ((with_reducible apply len_VV); assumption)  | (with_reducible refine stop_builtin ?_) | (with_reducible refine stop_slice ?_) | (with_reducible refine stop_index_B ?_) | (with_reducible refine stop_index_BB ?_)  | (with_reducible refine stop_index_N ?_) | (with_reducible refine stop_index_V ?_) | (with_reducible refine stop_index_VV ?_)  | (with_reducible refine stop_str_B ?_) | (with_reducible refine stop_mark_B ?_) | (with_reducible refine stop_buildSlice ?_))
              refine Stop.go (app_V ho3 k1.sl' (by simp; omega) hb3.size fun v' w4 g1 g2 g3 => ?_)
              have hb4 := hb3.grown g2 hb3.size (fun k hk => (ho3.ge k hk).1)
              have hL4 := hL3.grown g2 (fun b hb e => by have e : u8.ownBlock = some b := e; have := (ho3.ge b e).1; have := hb.2; omega)
              clear g2 g3 k1 ho3 hL3 hb3
              go_wp2_with (first | ((with_reducible apply wpList_unguard); rfl) | (with_reducible refine stop_make ?_) | ((with_reducible apply len_B); assumption) | ((with_reducible apply len_BB); assumption)  | ((with_reducible apply len_N); assumption) | ((with_reducible apply len_V); assumption) | ((with_reducible apply len_VV); assumption)  | (with_reducible refine stop_builtin ?_) | (with_reducible refine stop_slice ?_) | (with_reducible refine stop_index_B ?_) | (with_reducible refine stop_index_BB ?_)  | (with_reducible refine stop_index_N ?_) | (with_reducible refine stop_index_V ?_) | (with_reducible refine stop_index_VV ?_)  | (with_reducible refine stop_str_B ?_) | (with_reducible refine stop_mark_B ?_) | (with_reducible refine stop_buildSlice ?_))
              go_roundg (T.1 - (j + 1) + 1)
              case measure => omega
              case rel =>
                have e1 := Hst.out
                have e2 := Hrv.out
                rw [if_neg (by simpa using hE2), if_pos hbig] at e2
                rw [e2] at e1
                have e3 : RV.2.2 = 4 := by
                  rcases e1 with ⟨_, e1⟩ | ⟨e1, _⟩
                  · rw [e1]
                  · exact absurd rfl e1
                exact ⟨j + 1, U.2.1, 4, D ++ [c], rfl, by omega, hL4, rfl, by go_num, g1, hb4, by have := hlt2 hE2; simp; omega, (fun h => absurd h (by decide)), .inr ⟨by decide, e3⟩⟩
            · have hbig' : ¬ (4294967295 : Int) < (U.1 : Int) := by omega
              go_wp2_with (first | ((with_reducible apply wpList_unguard); rfl) | (with_reducible refine stop_make ?_) | ((with_reducible apply len_B); assumption) | ((with_reducible apply len_BB); assumption)  | ((with_reducible apply len_N); assumption) | ((with_reducible apply len_V); assumption) | ((with_reducible apply len_VV); assumption)  | (with_reducible refine stop_builtin ?_) | (with_reducible refine stop_slice ?_) | (with_reducible refine stop_index_B ?_) | (with_reducible refine stop_index_BB ?_)  | (with_reducible refine stop_index_N ?_) | (with_reducible refine stop_index_V ?_) | (with_reducible refine stop_index_VV ?_)  | (with_reducible refine stop_str_B ?_) | (with_reducible refine stop_mark_B ?_) | (with_reducible refine stop_buildSlice ?_))
              rw [zag_code' _ (by omega)]
              obtain ⟨c, hc⟩ : ∃ c, c = Int32.ofInt (unzig U.1) := ⟨_, rfl⟩
              rw [← hc]
              have HC := Lib.hid hc
              clear hc
              refine Stop.go (build_V (S := fun _ => False) ([c] : List Int32) [_] rfl rfl rds_V (by simp) fun q w3 k1 k2 k3 k4 => ?_)
              have hbd : Below w1.heap.size w1 (wr.drewN nq2) := ⟨hb.os, hb.tape, hb.output, hb.size, hb.block⟩
              have ho3 := (Own.drewN ho nq2).grown0 k2
              have hb3 : Below w1.heap.size w1 w3 := hbd.grown k2 hbd.size (by simp)
              have hL3 := (hu2.drewN nq2).grown0 k2
              clear k2 k3 k4
              go_wp2_with (first | ((with_reducible apply wpList_unguard); rfl) | (with_reducible refine stop_make ?_) | ((with_reducible apply len_B); assumption) | ((with_reducible apply len_BB); assumption)  | ((with_reducible apply len_N); assumption) | ((with_reducible apply len_V); assumption) | ((with_reducible apply len_VV); assumption)  | (with_reducible refine stop_builtin ?_) | (with_reducible refine stop_slice ?_) | (with_reducible refine stop_index_B ?_) | (with_reducible refine stop_index_BB ?_)  | (with_reducible refine stop_index_N ?_) | (with_reducible refine stop_index_V ?_) | (with_reducible refine stop_index_VV ?_)  | (with_reducible refine stop_str_B ?_) | (with_reducible refine stop_mark_B ?_) | (with_reducible refine stop_buildSlice ?_))
              refine Stop.go (app_V ho3 k1.sl' (by simp; omega) hb3.size fun v' w4 g1 g2 g3 => ?_)
              have hb4 := hb3.grown g2 hb3.size (fun k hk => (ho3.ge k hk).1)
              have hL4 := hL3.grown g2 (fun b hb e => by have e : u8.ownBlock = some b := e; have := (ho3.ge b e).1; have := hb.2; omega)
              clear g2 g3 k1 ho3 hL3 hb3
              go_wp2_with (first | ((with_reducible apply wpList_unguard); rfl) | (with_reducible refine stop_make ?_) | ((with_reducible apply len_B); assumption) | ((with_reducible apply len_BB); assumption)  | ((with_reducible apply len_N); assumption) | ((with_reducible apply len_V); assumption) | ((with_reducible apply len_VV); assumption)  | (with_reducible refine stop_builtin ?_) | (with_reducible refine stop_slice ?_) | (with_reducible refine stop_index_B ?_) | (with_reducible refine stop_index_BB ?_)  | (with_reducible refine stop_index_N ?_) | (with_reducible refine stop_index_V ?_) | (with_reducible refine stop_index_VV ?_)  | (with_reducible refine stop_str_B ?_) | (with_reducible refine stop_mark_B ?_) | (with_reducible refine stop_buildSlice ?_))
              go_roundg (T.1 - (j + 1) + 1)
              case measure => omega
              case rel =>
                have e1 := Hst.out
                have e2 := Hrv.out
                rw [if_neg (by simpa using hE2), if_neg hbig, ← HC.out] at e2
                rw [e2] at e1
                have e3 : RV = (D ++ [c] ++ (rvec (T.1 - (j + 1)) U.2.1).1, (rvec (T.1 - (j + 1)) U.2.1).2) := by
                  rcases e1 with ⟨_, e1⟩ | ⟨e1, _⟩
                  · rw [e1]; simp
                  · exact absurd rfl e1
                exact ⟨j + 1, U.2.1, 0, D ++ [c], rfl, by omega, hL4, rfl, by go_num, g1, hb4, by have := hlt2 hE2; simp; omega, (fun _ => by have := hlt2 hE2; have := hlen0 trivial; simp; omega), .inl ⟨rfl, e3⟩⟩
          · have hne2 : (U.2.2 == 0) = false := beq_eq_false_iff_ne.2 hE2
            go_wp2_with (first | ((with_reducible apply wpList_unguard); rfl) | (with_reducible refine stop_make ?_) | ((with_reducible apply len_B); assumption) | ((with_reducible apply len_BB); assumption)  | ((with_reducible apply len_N); assumption) | ((with_reducible apply len_V); assumption) | ((with_reducible apply len_VV); assumption)  | (with_reducible refine stop_builtin ?_) | (with_reducible refine stop_slice ?_) | (with_reducible refine stop_index_B ?_) | (with_reducible refine stop_index_BB ?_)  | (with_reducible refine stop_index_N ?_) | (with_reducible refine stop_index_V ?_) | (with_reducible refine stop_index_VV ?_)  | (with_reducible refine stop_str_B ?_) | (with_reducible refine stop_mark_B ?_) | (with_reducible refine stop_buildSlice ?_))
            rw [zag_code _ hul]
            obtain ⟨c, hc⟩ : ∃ c, c = Int32.ofInt (unzig (U.1 % 4294967296)) := ⟨_, rfl⟩
            rw [← hc]
            have HC := Lib.hid hc
            clear hc
            refine Stop.go (build_V (S := fun _ => False) ([c] : List Int32) [_] rfl rfl rds_V (by simp) fun q w3 k1 k2 k3 k4 => ?_)
            have hbd : Below w1.heap.size w1 (wr.drewN nq2) := ⟨hb.os, hb.tape, hb.output, hb.size, hb.block⟩
            have ho3 := (Own.drewN ho nq2).grown0 k2
            have hb3 : Below w1.heap.size w1 w3 := hbd.grown k2 hbd.size (by simp)
            have hL3 := (hu2.drewN nq2).grown0 k2
            clear k2 k3 k4
            go_wp2_with (first | ((with_reducible apply wpList_unguard); rfl) | (with_reducible refine stop_make ?_) | ((with_reducible apply len_B); assumption) | ((with_reducible apply len_BB); assumption)  | ((with_reducible apply len_N); assumption) | ((with_reducible apply len_V); assumption) | ((with_reducible apply len_VV); assumption)  | (with_reducible refine stop_builtin ?_) | (with_reducible refine stop_slice ?_) | (with_reducible refine stop_index_B ?_) | (with_reducible refine stop_index_BB ?_)  | (with_reducible refine stop_index_N ?_) | (with_reducible refine stop_index_V ?_) | (with_reducible refine stop_index_VV ?_)  | (with_reducible refine stop_str_B ?_) | (with_reducible refine stop_mark_B ?_) | (with_reducible refine stop_buildSlice ?_))
            refine Stop.go (app_V ho3 k1.sl' (by simp; omega) hb3.size fun v' w4 g1 g2 g3 => ?_)
            have hb4 := hb3.grown g2 hb3.size (fun k hk => (ho3.ge k hk).1)
            have hL4 := hL3.grown g2 (fun b hb e => by have e : u8.ownBlock = some b := e; have := (ho3.ge b e).1; have := hb.2; omega)
            clear g2 g3 k1 ho3 hL3 hb3
            go_wp2_with (first | ((with_reducible apply wpList_unguard); rfl) | (with_reducible refine stop_make ?_) | ((with_reducible apply len_B); assumption) | ((with_reducible apply len_BB); assumption)  | ((with_reducible apply len_N); assumption) | ((with_reducible apply len_V); assumption) | ((with_reducible apply len_VV); assumption)  | (with_reducible refine stop_builtin ?_) | (with_reducible refine stop_slice ?_) | (with_reducible refine stop_index_B ?_) | (with_reducible refine stop_index_BB ?_)  | (with_reducible refine stop_index_N ?_) | (with_reducible refine stop_index_V ?_) | (with_reducible refine stop_index_VV ?_)  | (with_reducible refine stop_str_B ?_) | (with_reducible refine stop_mark_B ?_) | (with_reducible refine stop_buildSlice ?_))
            go_roundg (T.1 - (j + 1) + 1)
            case measure => omega
            case rel =>
              have e1 := Hst.out
              have e2 := Hrv.out
              rw [if_pos hE2] at e2
              rw [e2] at e1
              have e3 : RV.2.2 = U.2.2 := by
                rcases e1 with ⟨_, e1⟩ | ⟨e1, _⟩
                · rw [e1]
                · exact absurd rfl e1
              exact ⟨j + 1, U.2.1, U.2.2, D ++ [c], rfl, by omega, hL4, rfl, by go_num, g1, hb4, by have := hlen0 trivial; simp; omega, (fun h => absurd h hE2), .inr ⟨hE2, e3⟩⟩
        · have hrr := hr1.only (Only.of_below hb) (by have := hr1.lt; omega) (fun b _ hlt => by omega)
          go_wp2_with (first | ((with_reducible apply wpList_unguard); rfl) | (with_reducible refine stop_make ?_) | ((with_reducible apply len_B); assumption) | ((with_reducible apply len_BB); assumption)  | ((with_reducible apply len_N); assumption) | ((with_reducible apply len_V); assumption) | ((with_reducible apply len_VV); assumption)  | (with_reducible refine stop_builtin ?_) | (with_reducible refine stop_slice ?_) | (with_reducible refine stop_index_B ?_) | (with_reducible refine stop_index_BB ?_)  | (with_reducible refine stop_index_N ?_) | (with_reducible refine stop_index_V ?_) | (with_reducible refine stop_index_VV ?_)  | (with_reducible refine stop_str_B ?_) | (with_reducible refine stop_mark_B ?_) | (with_reducible refine stop_buildSlice ?_))
          refine (step_any wr g S l L u6 0 hrr (hL.wide fun b h _ => h.1)).mono ?_
          rintro e w2 ⟨rfl, h1, h2⟩
          rw [if_pos rfl] at h1
          rw [show ((0 : Int) == 0) = true by decide]
          have ho2 := ho.only h2 (fun b hb (e : b = g) => by have := (ho.ge b hb).1; have := hr1.lt; omega)
          have HO2 := Lib.hid ((HO1.out.trans (Only.of_below hb) (fun k hk h => by omega)).trans h2 (fun _ _ h => h))
          clear h2
          go_wp2_with (first | ((with_reducible apply wpList_unguard); rfl) | (with_reducible refine stop_make ?_) | ((with_reducible apply len_B); assumption) | ((with_reducible apply len_BB); assumption)  | ((with_reducible apply len_N); assumption) | ((with_reducible apply len_V); assumption) | ((with_reducible apply len_VV); assumption)  | (with_reducible refine stop_builtin ?_) | (with_reducible refine stop_slice ?_) | (with_reducible refine stop_index_B ?_) | (with_reducible refine stop_index_BB ?_)  | (with_reducible refine stop_index_N ?_) | (with_reducible refine stop_index_V ?_) | (with_reducible refine stop_index_VV ?_)  | (with_reducible refine stop_str_B ?_) | (with_reducible refine stop_mark_B ?_) | (with_reducible refine stop_buildSlice ?_))
          go_ret
          obtain rfl : j = T.1 := by omega
          have e1 : RV = (D, L, 0) := by
            rcases Hst.out with ⟨_, e1⟩ | ⟨e1, _⟩
            · rw [e1, Nat.sub_self, rvec]; simp
            · exact absurd rfl e1
          have e2 := HRR.out
          rw [e1, if_neg (by simp)] at e2
          rw [e2]
          exact ⟨_, rfl, ho2.rebase fun b hb => by have := (ho.ge b hb).1; omega, h1, HO2.out⟩
      · have hne : (E == 0) = false := beq_eq_false_iff_ne.2 hE
        have hrr := hr1.only (Only.of_below hb) (by have := hr1.lt; omega) (fun b _ hlt => by omega)
        go_wp2_with (first | ((with_reducible apply wpList_unguard); rfl) | (with_reducible refine stop_make ?_) | ((with_reducible apply len_B); assumption) | ((with_reducible apply len_BB); assumption)  | ((with_reducible apply len_N); assumption) | ((with_reducible apply len_V); assumption) | ((with_reducible apply len_VV); assumption)  | (with_reducible refine stop_builtin ?_) | (with_reducible refine stop_slice ?_) | (with_reducible refine stop_index_B ?_) | (with_reducible refine stop_index_BB ?_)  | (with_reducible refine stop_index_N ?_) | (with_reducible refine stop_index_V ?_) | (with_reducible refine stop_index_VV ?_)  | (with_reducible refine stop_str_B ?_) | (with_reducible refine stop_mark_B ?_) | (with_reducible refine stop_buildSlice ?_))
        refine (step_any wr g S l L u6 E hrr (hL.wide fun b h _ => h.1)).mono ?_
        rintro e w2 ⟨rfl, h1, h2⟩
        rw [if_neg hE] at h1
        rw [hne]
        have ho2 := ho.only h2 (fun b hb (e : b = g) => by have := (ho.ge b hb).1; have := hr1.lt; omega)
        have HO2 := Lib.hid ((HO1.out.trans (Only.of_below hb) (fun k hk h => by omega)).trans h2 (fun _ _ h => h))
        clear h2
        go_wp2_with (first | ((with_reducible apply wpList_unguard); rfl) | (with_reducible refine stop_make ?_) | ((with_reducible apply len_B); assumption) | ((with_reducible apply len_BB); assumption)  | ((with_reducible apply len_N); assumption) | ((with_reducible apply len_V); assumption) | ((with_reducible apply len_VV); assumption)  | (with_reducible refine stop_builtin ?_) | (with_reducible refine stop_slice ?_) | (with_reducible refine stop_index_B ?_) | (with_reducible refine stop_index_BB ?_)  | (with_reducible refine stop_index_N ?_) | (with_reducible refine stop_index_V ?_) | (with_reducible refine stop_index_VV ?_)  | (with_reducible refine stop_str_B ?_) | (with_reducible refine stop_mark_B ?_) | (with_reducible refine stop_buildSlice ?_))
        go_ret
        have e1 : RV.2.2 = E := by
          rcases Hst.out with ⟨e1, _⟩ | ⟨_, e1⟩
          · exact absurd e1 hE
          · exact e1
        have e2 := HRR.out
        rw [e1, if_pos hE] at e2
        rw [e2]
        exact ⟨_, rfl, Own.nil _ _ _ _, h1, HO2.out⟩
  · have hR := HR.out
    rw [if_pos h0] at hR
    have HR := Lib.hid hR
    clear hR
    go_enter Tryd.func71, Tryd.ntmps71
    go_wp2_with (first | ((with_reducible apply wpList_unguard); rfl) | (with_reducible refine stop_make ?_) | ((with_reducible apply len_B); assumption) | ((with_reducible apply len_BB); assumption)  | ((with_reducible apply len_N); assumption) | ((with_reducible apply len_V); assumption) | ((with_reducible apply len_VV); assumption)  | (with_reducible refine stop_builtin ?_) | (with_reducible refine stop_slice ?_) | (with_reducible refine stop_index_B ?_) | (with_reducible refine stop_index_BB ?_)  | (with_reducible refine stop_index_N ?_) | (with_reducible refine stop_index_V ?_) | (with_reducible refine stop_index_VV ?_)  | (with_reducible refine stop_str_B ?_) | (with_reducible refine stop_mark_B ?_) | (with_reducible refine stop_buildSlice ?_))
    refine (dead_any w g S l e0 hr).mono ?_
    rintro e w1 ⟨rfl, rfl⟩
    rw [show (e0 != 0) = true by simpa using h0]
    go_wp2_with (first | ((with_reducible apply wpList_unguard); rfl) | (with_reducible refine stop_make ?_) | ((with_reducible apply len_B); assumption) | ((with_reducible apply len_BB); assumption)  | ((with_reducible apply len_N); assumption) | ((with_reducible apply len_V); assumption) | ((with_reducible apply len_VV); assumption)  | (with_reducible refine stop_builtin ?_) | (with_reducible refine stop_slice ?_) | (with_reducible refine stop_index_B ?_) | (with_reducible refine stop_index_BB ?_)  | (with_reducible refine stop_index_N ?_) | (with_reducible refine stop_index_V ?_) | (with_reducible refine stop_index_VV ?_)  | (with_reducible refine stop_str_B ?_) | (with_reducible refine stop_mark_B ?_) | (with_reducible refine stop_buildSlice ?_))
    go_ret
    rw [HR.out]
    exact ⟨_, rfl, Own.nil _ _ _ _, hr, Only.refl _ _⟩
end Go.Proofs.YtnkbfelnggompaaDoor
