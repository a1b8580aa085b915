/- package scroll: Writer.Vecs. -/
import Derived.Test.YtnkbfelnggompaaDoorWriter
namespace Go.Proofs.YtnkbfelnggompaaDoor
open Go Go.RowKit Go.Arm

theorem i32_lo (y : Int32) : -2147483648 ≤ y.toInt := Int32.le_toInt y
theorem i32_hi (y : Int32) : y.toInt < 2147483648 := Int32.toInt_lt y
theorem zig_lt (z : Int) (h1 : -2147483648 ≤ z) (h2 : z < 2147483648) : zig z < 4294967296 := by unfold zig; split <;> omega

theorem xor_ones (a : Nat) (h : a < 4294967296) : a ^^^ 4294967295 = 4294967295 - a := by
  have e := congrArg BitVec.toNat (BitVec.xor_allOnes (x := BitVec.ofNat 32 a))
  rw [BitVec.toNat_xor, BitVec.toNat_not, BitVec.toNat_allOnes, BitVec.toNat_ofNat, Nat.mod_eq_of_lt (show a < 2 ^ 32 from h)] at e
  exact e

theorem zig_code (z : Int) (h1 : -2147483648 ≤ z) (h2 : z < 2147483648) :
    IntKind.u64.wrap (bits .xor .u32 (wrap32 (z * 2) % 4294967296) (z / 2147483648 % 4294967296)) = (zig z : Int) := by
  have hw : ∀ n : Nat, n < 4294967296 → IntKind.u64.wrap (n : Int) = n := by
    intro n hn
    simp [IntKind.wrap, IntKind.signed, IntKind.bits]
    omega
  by_cases hz : z < 0
  · have e1 : wrap32 (z * 2) % 4294967296 = (((z * 2 + 4294967296).toNat : Nat) : Int) := by unfold wrap32; omega
    have e2 : z / 2147483648 % 4294967296 = ((4294967295 : Nat) : Int) := by omega
    rw [e1, e2, xor32 _ _ (by omega) (by decide), xor_ones _ (by omega), hw _ (by omega), zig, if_pos hz]
    omega
  · have e1 : wrap32 (z * 2) % 4294967296 = (((z * 2).toNat : Nat) : Int) := by unfold wrap32; omega
    have e2 : z / 2147483648 % 4294967296 = ((0 : Nat) : Int) := by omega
    rw [e1, e2, xor32 _ _ (by omega) (by decide), Nat.xor_zero, hw _ (by omega), zig, if_neg hz]
    omega

theorem encInts_len (v : List Int32) : (encInts v).length ≤ v.length * 10 := by
  unfold encInts
  induction v with
  | nil => simp
  | cons y v ih =>
    have := enc_len10 (zig y.toInt) (by have := zig_lt _ (i32_lo y) (i32_hi y); omega)
    rw [List.flatMap_cons, List.length_append, List.length_cons]
    omega

set_option maxRecDepth 100000 in
theorem wvecs_any (w : World) (g : Nat) (h : Option Nat) (l : List UInt8) (S : Nat → Prop) (vs : List (List Int32)) (p : Value) (hw : Wr w g h l) (hp : Sl w S vs p) (hS : ∀ b, S b → b < w.heap.size ∧ b ≠ g ∧ h ≠ some b) (hl : l.length ≤ 1000000000) (hn : vs.length ≤ 1000000) (ht : ∀ t ∈ vs, t.length ≤ 1000) :
    Calls Tryd.prog 54 #[.pointer (some ⟨g, 0, none⟩), p] w fun e w' => e = .returned (.pointer (some ⟨g, 0, none⟩)) ∧ ∃ h', Wr w' g h' (l ++ encVecs vs) ∧ Mv w w' g h h' := by
  have Ht := Lib.hid ht
  clear ht
  go_enter Tryd.func54, Tryd.ntmps54
  go_wp2_with (first | ((with_reducible apply wpList_unguard); rfl) | (with_reducible refine stop_make ?_) | ((with_reducible apply len_B); assumption) | ((with_reducible apply len_BB); assumption)  | ((with_reducible apply len_N); assumption) | ((with_reducible apply len_V); assumption) | ((with_reducible apply len_VV); assumption)  | (with_reducible refine stop_builtin ?_) | (with_reducible refine stop_slice ?_) | (with_reducible refine stop_index_B ?_) | (with_reducible refine stop_index_BB ?_)  | (with_reducible refine stop_index_N ?_) | (with_reducible refine stop_index_V ?_) | (with_reducible refine stop_index_VV ?_)  | (with_reducible refine stop_str_B ?_) | (with_reducible refine stop_mark_B ?_) | (with_reducible refine stop_buildSlice ?_))
  go_loopg [6, 8, 13] (vs.length + 1) (fun k x u8 i wr => ∃ (j : Nat) (h' : Option Nat) (D : List UInt8), k = vs.length - j + 1 ∧ j ≤ vs.length ∧ i = .int .i64 j ∧ D = encVecs (vs.take j) ∧ D.length ≤ j * 10010 ∧ Wr wr g h' (l ++ D) ∧ Mv w wr g h h')
  case atStart => exact ⟨0, h, [], by omega, by omega, rfl, rfl, by simp, by simpa using hw, Mv.refl _ _ _⟩
  case round =>
    obtain ⟨j, h', D, hk, hj, rfl, hD, hlen, hwr, hmv⟩ := hrel
    have Hk := Lib.hid hk
    have HD := Lib.hid hD
    clear hk hD
    have hpr := hp.only hmv.2 (fun b hb _ e => by have := (hS b hb).2; rcases e with e | e; exact this.1 e; exact this.2 e)
    have hS' : ∀ b, S b → b < wr.heap.size ∧ b ≠ g ∧ h' ≠ some b := fun b hb => ⟨by have := (hS b hb).1; have := hmv.2.size; omega, (hS b hb).2.1, Mv.far hmv (hS b hb).1 (hS b hb).2.2⟩
    have Hmv := Lib.hid hmv
    clear hmv
    by_cases hlt : j < vs.length
    · go_wp2_with (first | ((with_reducible apply wpList_unguard); rfl) | (with_reducible refine stop_make ?_) | ((with_reducible apply len_B); assumption) | ((with_reducible apply len_BB); assumption)  | ((with_reducible apply len_N); assumption) | ((with_reducible apply len_V); assumption) | ((with_reducible apply len_VV); assumption)  | (with_reducible refine stop_builtin ?_) | (with_reducible refine stop_slice ?_) | (with_reducible refine stop_index_B ?_) | (with_reducible refine stop_index_BB ?_)  | (with_reducible refine stop_index_N ?_) | (with_reducible refine stop_index_V ?_) | (with_reducible refine stop_index_VV ?_)  | (with_reducible refine stop_str_B ?_) | (with_reducible refine stop_mark_B ?_) | (with_reducible refine stop_buildSlice ?_))
      refine Stop.go (idx_VV hpr rfl (by omega) (by omega) fun b o y u hy hu hcell => ?_)
      have Hy := Lib.hid hy
      have hyl : y.length ≤ 1000 := Ht.out y (List.mem_of_getElem? hy)
      clear hy
      go_wp2_with (first | ((with_reducible apply wpList_unguard); rfl) | (with_reducible refine stop_make ?_) | ((with_reducible apply len_B); assumption) | ((with_reducible apply len_BB); assumption)  | ((with_reducible apply len_N); assumption) | ((with_reducible apply len_V); assumption) | ((with_reducible apply len_VV); assumption)  | (with_reducible refine stop_builtin ?_) | (with_reducible refine stop_slice ?_) | (with_reducible refine stop_index_B ?_) | (with_reducible refine stop_index_BB ?_)  | (with_reducible refine stop_index_N ?_) | (with_reducible refine stop_index_V ?_) | (with_reducible refine stop_index_VV ?_)  | (with_reducible refine stop_str_B ?_) | (with_reducible refine stop_mark_B ?_) | (with_reducible refine stop_buildSlice ?_))
      refine (wnum_any wr g h' _ y.length hwr (by omega) (by rw [List.length_append]; omega)).mono ?_
      rintro e w0 ⟨⟨r, rfl⟩, h1, hw1, hm1⟩
      have hel := enc_len10 y.length (by omega)
      have hu1 := hu.only hm1.2 (fun b hb _ e => by rcases e with e | e; exact (hS' b hb).2.1 e; exact (hS' b hb).2.2 e)
      have hS1 : ∀ b, S b → b < w0.heap.size ∧ b ≠ g ∧ h1 ≠ some b := fun b hb => ⟨by have := (hS' b hb).1; have := hm1.2.size; omega, (hS' b hb).2.1, Mv.far hm1 (hS' b hb).1 (hS' b hb).2.2⟩
      have Hm1 := Lib.hid hm1
      clear hcell hm1
      go_wp2_with (first | ((with_reducible apply wpList_unguard); rfl) | (with_reducible refine stop_make ?_) | ((with_reducible apply len_B); assumption) | ((with_reducible apply len_BB); assumption)  | ((with_reducible apply len_N); assumption) | ((with_reducible apply len_V); assumption) | ((with_reducible apply len_VV); assumption)  | (with_reducible refine stop_builtin ?_) | (with_reducible refine stop_slice ?_) | (with_reducible refine stop_index_B ?_) | (with_reducible refine stop_index_BB ?_)  | (with_reducible refine stop_index_N ?_) | (with_reducible refine stop_index_V ?_) | (with_reducible refine stop_index_VV ?_)  | (with_reducible refine stop_str_B ?_) | (with_reducible refine stop_mark_B ?_) | (with_reducible refine stop_buildSlice ?_))
      go_loopg [8, 24] (y.length + 1) (fun k x i wq => ∃ (m : Nat) (h2 : Option Nat) (E : List UInt8), k = y.length - m + 1 ∧ m ≤ y.length ∧ i = .int .i64 m ∧ E = encInts (y.take m) ∧ E.length ≤ m * 10 ∧ Wr wq g h2 (l ++ D ++ enc y.length ++ E) ∧ Mv w0 wq g h1 h2)
      case atStart => exact ⟨0, h1, [], by omega, by omega, rfl, rfl, by simp, by simpa using hw1, Mv.refl _ _ _⟩
      case round =>
        obtain ⟨m, h2, E, hk2, hm, rfl, hE, hEl, hwq, hmq⟩ := hrel
        have Hk2 := Lib.hid hk2
        have HE := Lib.hid hE
        clear hk2 hE
        have hu2 := hu1.only hmq.2 (fun b hb _ e => by rcases e with e | e; exact (hS1 b hb).2.1 e; exact (hS1 b hb).2.2 e)
        have Hmq := Lib.hid hmq
        clear hmq
        by_cases hlt2 : m < y.length
        · go_wp2_with (first | ((with_reducible apply wpList_unguard); rfl) | (with_reducible refine stop_make ?_) | ((with_reducible apply len_B); assumption) | ((with_reducible apply len_BB); assumption)  | ((with_reducible apply len_N); assumption) | ((with_reducible apply len_V); assumption) | ((with_reducible apply len_VV); assumption)  | (with_reducible refine stop_builtin ?_) | (with_reducible refine stop_slice ?_) | (with_reducible refine stop_index_B ?_) | (with_reducible refine stop_index_BB ?_)  | (with_reducible refine stop_index_N ?_) | (with_reducible refine stop_index_V ?_) | (with_reducible refine stop_index_VV ?_)  | (with_reducible refine stop_str_B ?_) | (with_reducible refine stop_mark_B ?_) | (with_reducible refine stop_buildSlice ?_))
          refine Stop.go (idx_V hu2 rfl (by omega) (by omega) fun b2 o2 z hz hcell => ?_)
          have Hz := Lib.hid hz
          clear hz
          have z1 := i32_lo z
          have z2 := i32_hi z
          go_wp2_with (first | ((with_reducible apply wpList_unguard); rfl) | (with_reducible refine stop_make ?_) | ((with_reducible apply len_B); assumption) | ((with_reducible apply len_BB); assumption)  | ((with_reducible apply len_N); assumption) | ((with_reducible apply len_V); assumption) | ((with_reducible apply len_VV); assumption)  | (with_reducible refine stop_builtin ?_) | (with_reducible refine stop_slice ?_) | (with_reducible refine stop_index_B ?_) | (with_reducible refine stop_index_BB ?_)  | (with_reducible refine stop_index_N ?_) | (with_reducible refine stop_index_V ?_) | (with_reducible refine stop_index_VV ?_)  | (with_reducible refine stop_str_B ?_) | (with_reducible refine stop_mark_B ?_) | (with_reducible refine stop_buildSlice ?_))
          rw [zig_code _ z1 z2]
          have hzl := zig_lt _ z1 z2
          refine (wnum_any wr g h2 _ (zig z.toInt) hwq (by omega) (by rw [List.length_append, List.length_append, List.length_append]; omega)).mono ?_
          rintro e w3 ⟨⟨r3, rfl⟩, h3, hw3, hm3⟩
          have hel3 := enc_len10 (zig z.toInt) (by omega)
          clear hcell
          go_wp2_with (first | ((with_reducible apply wpList_unguard); rfl) | (with_reducible refine stop_make ?_) | ((with_reducible apply len_B); assumption) | ((with_reducible apply len_BB); assumption)  | ((with_reducible apply len_N); assumption) | ((with_reducible apply len_V); assumption) | ((with_reducible apply len_VV); assumption)  | (with_reducible refine stop_builtin ?_) | (with_reducible refine stop_slice ?_) | (with_reducible refine stop_index_B ?_) | (with_reducible refine stop_index_BB ?_)  | (with_reducible refine stop_index_N ?_) | (with_reducible refine stop_index_V ?_) | (with_reducible refine stop_index_VV ?_)  | (with_reducible refine stop_str_B ?_) | (with_reducible refine stop_mark_B ?_) | (with_reducible refine stop_buildSlice ?_))
          go_roundg (y.length - (m + 1) + 1)
          case measure => have := Hk2.out; omega
          case rel =>
            have e := flatMap_snoc (fun z : Int32 => enc (zig z.toInt)) y m z (by simpa using Hz.out)
            refine ⟨m + 1, h3, E ++ enc (zig z.toInt), by omega, by omega, rfl, by rw [HE.out]; exact e.symm, by rw [List.length_append]; omega, by simpa using hw3, Hmq.out.trans hm3⟩
        · go_wp2_with (first | ((with_reducible apply wpList_unguard); rfl) | (with_reducible refine stop_make ?_) | ((with_reducible apply len_B); assumption) | ((with_reducible apply len_BB); assumption)  | ((with_reducible apply len_N); assumption) | ((with_reducible apply len_V); assumption) | ((with_reducible apply len_VV); assumption)  | (with_reducible refine stop_builtin ?_) | (with_reducible refine stop_slice ?_) | (with_reducible refine stop_index_B ?_) | (with_reducible refine stop_index_BB ?_)  | (with_reducible refine stop_index_N ?_) | (with_reducible refine stop_index_V ?_) | (with_reducible refine stop_index_VV ?_)  | (with_reducible refine stop_str_B ?_) | (with_reducible refine stop_mark_B ?_) | (with_reducible refine stop_buildSlice ?_))
          go_roundg (vs.length - (j + 1) + 1)
          case measure => have := Hk.out; omega
          case rel =>
            have e := flatMap_snoc encVec vs j y (by simpa using Hy.out)
            have e2 := HE.out
            rw [List.take_of_length_le (by omega)] at e2
            have e3 : encVec y = enc y.length ++ E := by rw [e2]; rfl
            refine ⟨j + 1, h2, D ++ encVec y, by omega, by omega, rfl, by rw [HD.out]; exact e.symm, by rw [e3, List.length_append, List.length_append]; omega, ?_, (Hmv.out.trans Hm1.out).trans Hmq.out⟩
            rw [e3]
            simpa using hwq
    · go_wp2_with (first | ((with_reducible apply wpList_unguard); rfl) | (with_reducible refine stop_make ?_) | ((with_reducible apply len_B); assumption) | ((with_reducible apply len_BB); assumption)  | ((with_reducible apply len_N); assumption) | ((with_reducible apply len_V); assumption) | ((with_reducible apply len_VV); assumption)  | (with_reducible refine stop_builtin ?_) | (with_reducible refine stop_slice ?_) | (with_reducible refine stop_index_B ?_) | (with_reducible refine stop_index_BB ?_)  | (with_reducible refine stop_index_N ?_) | (with_reducible refine stop_index_V ?_) | (with_reducible refine stop_index_VV ?_)  | (with_reducible refine stop_str_B ?_) | (with_reducible refine stop_mark_B ?_) | (with_reducible refine stop_buildSlice ?_))
      go_ret
      have e := HD.out
      rw [List.take_of_length_le (by omega)] at e
      rw [← e]
      exact ⟨rfl, h', hwr, Hmv.out⟩
end Go.Proofs.YtnkbfelnggompaaDoor
