/- SealSums: the walk. -/
import Derived.Test.YtiaiagkfkckkpaaDoorLaw01a
import Derived.Test.YtiaiagkfkckkpaaDoorSealMath
import Derived.Test.YtiaiagkfkckkpaaDoorWhole
namespace Go.Proofs.YtiaiagkfkckkpaaDoor
open Go Go.RowKit Go.Arm

theorem parts6_at (L : List (List UInt8)) (n : Nat) (h : n < (parts6 L).length) : ∃ y, L[n]? = some y ∧ (parts6 L)[n]? = some (y.take 1000) := by
  have hl : (parts6 L).length = min 6 L.length := by simp [parts6]
  refine ⟨L[n]'(by omega), List.getElem?_eq_getElem _, ?_⟩
  simp [parts6, show n < 6 by omega, List.getElem?_eq_getElem (show n < L.length by omega)]

/-- What Frame gives, and its error. -/
def framedOr (l : List UInt8) : List UInt8 × Int := if l.length ≤ 4096 then (frame l, 0) else ([], 3)

theorem rframe_long (w : World) (S : Nat → Prop) (l : List UInt8) (p : Value) (hp : Sl w S l p) (hl : ¬ l.length ≤ 4096) :
    Calls Tryd.prog 13 #[p] w fun e w' => e = .returned (.tuple #[.slice none 0 0, .int .i64 3]) ∧ Below w.heap.size w w' := by
  have hm : l.length ≤ 9223372036854775807 := hp.length_le
  go_enter Tryd.func13, Tryd.ntmps13
  go_wp2_with (first | ((with_reducible apply wpList_unguard); rfl) | ((with_reducible apply len_B); assumption) | ((with_reducible apply len_BB); assumption)  | (with_reducible refine stop_builtin ?_) | (with_reducible refine stop_slice ?_) | (with_reducible refine stop_index_B ?_) | (with_reducible refine stop_index_BB ?_)  | (with_reducible refine stop_str_B ?_) | (with_reducible refine stop_mark_B ?_) | (with_reducible refine stop_buildSlice ?_))
  go_ret2
  exact ⟨rfl, Below.refl _ _⟩

theorem rframe_or (w : World) (S : Nat → Prop) (l : List UInt8) (p : Value) (hp : Sl w S l p) :
    Calls Tryd.prog 13 #[p] w fun e w' => ∃ v, e = .returned (.tuple #[v, .int .i64 (framedOr l).2]) ∧ Sl w' (fun b => w.heap.size ≤ b) (framedOr l).1 v ∧ Below w.heap.size w w' := by
  unfold framedOr
  by_cases hl : l.length ≤ 4096
  · simp only [if_pos hl]
    exact (rframe_any w S l p hp hl).mono fun e w' ⟨v, h1, h2, h3⟩ => ⟨v, h1, h2.sl', h3⟩
  · simp only [if_neg hl]
    exact (rframe_long w S l p hp hl).mono fun e w' ⟨h1, h2⟩ => ⟨_, h1, Sl.nil _ _, h2⟩

theorem sframe_or (w : World) (S : Nat → Prop) (ll : List (List UInt8)) (p : Value) (hN : Nib w) (hp : Sl w S ll p) (hl : ll.length ≤ 1000000) (hf : ll.flatten.length ≤ 1099511627776) :
    Calls Tryd.prog 12 #[p] w fun e w' => ∃ v, e = .returned (.tuple #[v, .int .i64 (framedOr ll.flatten).2]) ∧ Sl w' (fun b => w.heap.size ≤ b) (framedOr ll.flatten).1 v ∧ Below w.heap.size w w' := by
  unfold framedOr
  by_cases hl2 : ll.flatten.length ≤ 4096
  · simp only [if_pos hl2]
    exact (sframe_any w S ll p hN hp hl hl2).mono fun e w' ⟨v, h1, h2, h3⟩ => ⟨v, h1, h2.sl', h3⟩
  · simp only [if_neg hl2]
    exact (sframe_long w S ll p hp hl hf (by omega)).mono fun e w' ⟨h1, h2⟩ => ⟨_, h1, Sl.nil _ _, h2⟩

theorem sealSums_true (w : World) {L : List (List UInt8)} {p : Value} (hN : Nib w) (hp : Sl w (· < w.heap.size) L p) :
    Calls Tryd.prog 3 #[p] w fun e w' => e = .returned (.bool true) ∧ Below w.heap.size w w' := by
  go_enter Tryd.func3, Tryd.ntmps3
  go_wp2_with (first | ((with_reducible apply wpList_unguard); rfl) | ((with_reducible apply len_B); assumption) | ((with_reducible apply len_BB); assumption)  | (with_reducible refine stop_builtin ?_) | (with_reducible refine stop_slice ?_) | (with_reducible refine stop_index_B ?_) | (with_reducible refine stop_index_BB ?_)  | (with_reducible refine stop_str_B ?_) | (with_reducible refine stop_mark_B ?_) | (with_reducible refine stop_buildSlice ?_))
  refine (awake_any w hN).mono ?_
  rintro e w1 ⟨rfl, hb1⟩
  have hN1 := hN.below hb1 (Nat.le_refl _)
  have hp1 := hp.below hb1 (Nat.le_refl _)
  have hs1 := hb1.size
  go_wp2_with (first | ((with_reducible apply wpList_unguard); rfl) | ((with_reducible apply len_B); assumption) | ((with_reducible apply len_BB); assumption)  | (with_reducible refine stop_builtin ?_) | (with_reducible refine stop_slice ?_) | (with_reducible refine stop_index_B ?_) | (with_reducible refine stop_index_BB ?_)  | (with_reducible refine stop_str_B ?_) | (with_reducible refine stop_mark_B ?_) | (with_reducible refine stop_buildSlice ?_))
  refine (whole_any w1 _ L p hp1).mono ?_
  rintro e w2 ⟨v, x, T, rfl, h2, hb2⟩
  have hb2' := hb1.trans (hb2.mono hs1)
  have hs2 := hb2'.size
  have hN2 := hN1.below hb2 (Nat.le_refl _)
  have hp2 := hp1.below hb2 (Nat.le_refl _)
  have hat := parts6_at L
  have hpl := parts6_len L
  have hpf := parts6_flat L
  obtain ⟨P, hP⟩ : ∃ P, P = parts6 L := ⟨_, rfl⟩
  rw [← hP] at h2 hat hpl hpf
  have Hat := Lib.hid hat
  have hv2 : Sl w2 (· < w2.heap.size) P v := h2.one.sl (fun b hb _ => h2.lt b hb) fun b hb => (h2.one.ge b hb).2
  have hx2 : Sl w2 (· < w2.heap.size) P.flatten x := h2.two.sl'.old
  clear hP hat h2 hb2 hN1 hp1 hs1 hb1
  go_wp2_with (first | ((with_reducible apply wpList_unguard); rfl) | ((with_reducible apply len_B); assumption) | ((with_reducible apply len_BB); assumption)  | (with_reducible refine stop_builtin ?_) | (with_reducible refine stop_slice ?_) | (with_reducible refine stop_index_B ?_) | (with_reducible refine stop_index_BB ?_)  | (with_reducible refine stop_str_B ?_) | (with_reducible refine stop_mark_B ?_) | (with_reducible refine stop_buildSlice ?_))
  refine (sframe_or w2 _ P v hN2 hv2 (by omega) (by omega)).mono ?_
  rintro e w3 ⟨f, rfl, hf, hb3⟩
  have hb3' := hb2'.trans (hb3.mono hs2)
  have hs3 := hb3'.size
  have hN3 := hN2.below hb3 (Nat.le_refl _)
  have hp3 := hp2.below hb3 (Nat.le_refl _)
  have hv3 := hv2.below hb3 (Nat.le_refl _)
  have hx3 := hx2.below hb3 (Nat.le_refl _)
  go_wp2_with (first | ((with_reducible apply wpList_unguard); rfl) | ((with_reducible apply len_B); assumption) | ((with_reducible apply len_BB); assumption)  | (with_reducible refine stop_builtin ?_) | (with_reducible refine stop_slice ?_) | (with_reducible refine stop_index_B ?_) | (with_reducible refine stop_index_BB ?_)  | (with_reducible refine stop_str_B ?_) | (with_reducible refine stop_mark_B ?_) | (with_reducible refine stop_buildSlice ?_))
  refine (rframe_or w3 _ P.flatten x hx3).mono ?_
  rintro e w4 ⟨f2, rfl, hf2, hb4⟩
  have hb4' := hb3'.trans (hb4.mono hs3)
  have hs4 := hb4'.size
  have hN4 := hN3.below hb4 (Nat.le_refl _)
  have hp4 := hp3.below hb4 (Nat.le_refl _)
  have hv4 := hv3.below hb4 (Nat.le_refl _)
  have hx4 := hx3.below hb4 (Nat.le_refl _)
  have hf4 := hf.below hb4 (Nat.le_refl _)
  generalize framedOr P.flatten = FE at *
  clear hb3 hb4 hb3' hb2' hN3 hp3 hv3 hx3 hf hN2 hp2 hv2 hx2
  go_wp2_with (first | ((with_reducible apply wpList_unguard); rfl) | ((with_reducible apply len_B); assumption) | ((with_reducible apply len_BB); assumption)  | (with_reducible refine stop_builtin ?_) | (with_reducible refine stop_slice ?_) | (with_reducible refine stop_index_B ?_) | (with_reducible refine stop_index_BB ?_)  | (with_reducible refine stop_str_B ?_) | (with_reducible refine stop_mark_B ?_) | (with_reducible refine stop_buildSlice ?_))
  refine (ssum_any w4 _ P v hN4 hv4).mono ?_
  rintro e w5 ⟨rfl, rfl⟩
  go_wp2_with (first | ((with_reducible apply wpList_unguard); rfl) | ((with_reducible apply len_B); assumption) | ((with_reducible apply len_BB); assumption)  | (with_reducible refine stop_builtin ?_) | (with_reducible refine stop_slice ?_) | (with_reducible refine stop_index_B ?_) | (with_reducible refine stop_index_BB ?_)  | (with_reducible refine stop_str_B ?_) | (with_reducible refine stop_mark_B ?_) | (with_reducible refine stop_buildSlice ?_))
  refine (rsum_any w4 _ P.flatten x hx4).mono ?_
  rintro e w5 ⟨rfl, rfl⟩
  generalize (sum P.flatten).toNat = s
  go_wp2_with (first | ((with_reducible apply wpList_unguard); rfl) | ((with_reducible apply len_B); assumption) | ((with_reducible apply len_BB); assumption)  | (with_reducible refine stop_builtin ?_) | (with_reducible refine stop_slice ?_) | (with_reducible refine stop_index_B ?_) | (with_reducible refine stop_index_BB ?_)  | (with_reducible refine stop_str_B ?_) | (with_reducible refine stop_mark_B ?_) | (with_reducible refine stop_buildSlice ?_))
  refine (same_any w4 _ _ FE.1 FE.1 f f2 hf4 hf2).mono ?_
  rintro e w5 ⟨rfl, rfl⟩
  rw [beq_self_eq_true]
  go_wp2_with (first | ((with_reducible apply wpList_unguard); rfl) | ((with_reducible apply len_B); assumption) | ((with_reducible apply len_BB); assumption)  | (with_reducible refine stop_builtin ?_) | (with_reducible refine stop_slice ?_) | (with_reducible refine stop_index_B ?_) | (with_reducible refine stop_index_BB ?_)  | (with_reducible refine stop_str_B ?_) | (with_reducible refine stop_mark_B ?_) | (with_reducible refine stop_buildSlice ?_))
  go_loopg [9, 10, 46] (P.length + 1) (fun k u9 u10 i wr => ∃ (n : Nat), k = P.length - n + 1 ∧ n ≤ P.length ∧ i = .int .i64 n ∧ Below w4.heap.size w4 wr)
  case atStart => exact ⟨0, by omega, by omega, rfl, Below.refl _ _⟩
  case round =>
    obtain ⟨n, hk, hn, rfl, hb⟩ := hrel
    have Hk := Lib.hid hk
    clear hk
    have hs := hb.size
    have hpr := hp4.below hb (Nat.le_refl _)
    have hvr := hv4.below hb (Nat.le_refl _)
    by_cases hlt : n < P.length
    · obtain ⟨y, hy1, hy2⟩ := Hat.out n hlt
      have hnL := (List.getElem?_eq_some_iff.1 hy1).1
      have Hy1 := Lib.hid hy1
      have Hy2 := Lib.hid hy2
      clear hy1 hy2
      go_wp2_with (first | ((with_reducible apply wpList_unguard); rfl) | ((with_reducible apply len_B); assumption) | ((with_reducible apply len_BB); assumption)  | (with_reducible refine stop_builtin ?_) | (with_reducible refine stop_slice ?_) | (with_reducible refine stop_index_B ?_) | (with_reducible refine stop_index_BB ?_)  | (with_reducible refine stop_str_B ?_) | (with_reducible refine stop_mark_B ?_) | (with_reducible refine stop_buildSlice ?_))
      refine Stop.go (idx_BB hvr rfl (by omega) (by omega) fun b o y' u hy' hu hcell => ?_)
      obtain rfl : y' = y.take 1000 := Option.some.inj (hy'.symm.trans (by rw [show Int.toNat (n : Int) = n by omega]; exact Hy2.out))
      clear hy'
      go_wp2_with (first | ((with_reducible apply wpList_unguard); rfl) | ((with_reducible apply len_B); assumption) | ((with_reducible apply len_BB); assumption)  | (with_reducible refine stop_builtin ?_) | (with_reducible refine stop_slice ?_) | (with_reducible refine stop_index_B ?_) | (with_reducible refine stop_index_BB ?_)  | (with_reducible refine stop_str_B ?_) | (with_reducible refine stop_mark_B ?_) | (with_reducible refine stop_buildSlice ?_))
      refine Stop.go (idx_BB hpr rfl (by omega) (by omega) fun b2 o2 y' u2 hy' hu2 hcell2 => ?_)
      obtain rfl : y' = y := Option.some.inj (hy'.symm.trans (by rw [show Int.toNat (n : Int) = n by omega]; exact Hy1.out))
      clear hy'
      go_wp2_with (first | ((with_reducible apply wpList_unguard); rfl) | ((with_reducible apply len_B); assumption) | ((with_reducible apply len_BB); assumption)  | (with_reducible refine stop_builtin ?_) | (with_reducible refine stop_slice ?_) | (with_reducible refine stop_index_B ?_) | (with_reducible refine stop_index_BB ?_)  | (with_reducible refine stop_str_B ?_) | (with_reducible refine stop_mark_B ?_) | (with_reducible refine stop_buildSlice ?_))
      refine (cut_any wr _ y' u2 1000 hu2 (by omega) (by omega)).mono ?_
      rintro e w5 ⟨c, rfl, hc, hb5⟩
      have hu5 := hu.below hb5 (Nat.le_refl _)
      have hc5 := hc.sl'
      rw [show Int.toNat 1000 = 1000 from rfl] at hc5
      have hbb := hb.trans (hb5.mono hs)
      clear hcell hcell2 hc hu hu2
      go_wp2_with (first | ((with_reducible apply wpList_unguard); rfl) | ((with_reducible apply len_B); assumption) | ((with_reducible apply len_BB); assumption)  | (with_reducible refine stop_builtin ?_) | (with_reducible refine stop_slice ?_) | (with_reducible refine stop_index_B ?_) | (with_reducible refine stop_index_BB ?_)  | (with_reducible refine stop_str_B ?_) | (with_reducible refine stop_mark_B ?_) | (with_reducible refine stop_buildSlice ?_))
      refine (same_any w5 _ _ _ _ u c hu5 hc5).mono ?_
      rintro e w6 ⟨rfl, rfl⟩
      rw [beq_self_eq_true]
      go_wp2_with (first | ((with_reducible apply wpList_unguard); rfl) | ((with_reducible apply len_B); assumption) | ((with_reducible apply len_BB); assumption)  | (with_reducible refine stop_builtin ?_) | (with_reducible refine stop_slice ?_) | (with_reducible refine stop_index_B ?_) | (with_reducible refine stop_index_BB ?_)  | (with_reducible refine stop_str_B ?_) | (with_reducible refine stop_mark_B ?_) | (with_reducible refine stop_buildSlice ?_))
      go_roundg (P.length - (n + 1) + 1)
      case measure => have := Hk.out; omega
      case rel => exact ⟨n + 1, by omega, by omega, rfl, hbb⟩
    · go_wp2_with (first | ((with_reducible apply wpList_unguard); rfl) | ((with_reducible apply len_B); assumption) | ((with_reducible apply len_BB); assumption)  | (with_reducible refine stop_builtin ?_) | (with_reducible refine stop_slice ?_) | (with_reducible refine stop_index_B ?_) | (with_reducible refine stop_index_BB ?_)  | (with_reducible refine stop_str_B ?_) | (with_reducible refine stop_mark_B ?_) | (with_reducible refine stop_buildSlice ?_))
      go_ret
      exact ⟨rfl, hb4'.trans (hb.mono hs4)⟩
end Go.Proofs.YtiaiagkfkckkpaaDoor
