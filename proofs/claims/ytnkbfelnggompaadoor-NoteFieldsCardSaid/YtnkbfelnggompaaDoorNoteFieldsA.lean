/- armillarylaw12: NoteFields, fields 0 to 3. -/
import Derived.Test.YtnkbfelnggompaaDoorNoteFields
import Derived.Deep.DeepCutAuto
namespace Go.Proofs.YtnkbfelnggompaaDoor
open Go Go.RowKit Go.Arm

set_option maxHeartbeats 8000000 in
set_option maxRecDepth 100000 in
theorem noteFields_c0 (w : World) (hN : Srt w) (hB : Nib w) (k : UInt8) (m : Nat) (hm : m < 256) (hi : m % 15 = 0) :
    Calls Tryd.prog 3 #[.int .u8 (k.toNat : Int), .int .u8 (m : Int)] w fun e w' => e = .returned (.bool true) ∧ Below w.heap.size w w' := by
  go_enter Tryd.func3, Tryd.ntmps3
  go_wp2_with (first | (with_reducible refine stop_index_sort ?_) | ((with_reducible apply wpList_unguard); rfl) | (with_reducible refine stop_make ?_) | ((with_reducible apply len_B); assumption) | ((with_reducible apply len_BB); assumption)  | ((with_reducible apply len_N); assumption) | ((with_reducible apply len_V); assumption) | ((with_reducible apply len_VV); assumption) | ((with_reducible apply len_P); assumption) | ((with_reducible apply len_O); assumption) | ((with_reducible apply len_H); assumption)  | (with_reducible refine stop_builtin ?_) | (with_reducible refine stop_slice ?_) | (with_reducible refine stop_index_B ?_) | (with_reducible refine stop_index_BB ?_)  | (with_reducible refine stop_index_N ?_) | (with_reducible refine stop_index_V ?_) | (with_reducible refine stop_index_VV ?_) | (with_reducible refine stop_index_P ?_) | (with_reducible refine stop_index_O ?_) | (with_reducible refine stop_index_H ?_)  | (with_reducible refine stop_str_B ?_) | (with_reducible refine stop_mark_B ?_) | (with_reducible refine stop_buildSlice ?_))
  refine (awake12_any w hN hB).mono ?_
  rintro e w1 ⟨rfl, hb1⟩
  have hN1 := hN.below hb1 (Nat.le_refl _)
  have hkl := k.toNat_lt
  have hiI : (m : Int) % 15 = 0 := by omega
  clear hi
  have he : ByteArray.extract ⟨#[116, 98, 115, 97, 109, 113, 105, 107, 101, 99, 119, 112, 111, 118, 104]⟩ 0 1 = ⟨#[116]⟩ := by decide +kernel
  go_upto_region 36 with (fail)
  refine name_world fun wA hwA => ?_
  have HE := Lib.hid he
  clear he
  have hbA : Below w1.heap.size w1 wA := by rw [hwA]; exact (Below.refl w1.heap.size w1).alloc (Nat.le_refl _) _
  have hoA : wA.heap[w1.heap.size]? = some (.cells #[.int .u8 (k.toNat : Int), .int .u64 1, .int .u64 0, .int .u64 0, .int .u64 0, .int .u64 0, .int .u64 0, .int .u64 0, .int .i64 0, .int .i64 0, .int .i64 0, .int .i64 0, .slice none 0 0, .slice none 0 0, .slice none 0 0, .slice none 0 0] 30) := by rw [hwA]; exact heap_alloc_new w1 _
  have hnA : Nt wA (fun _ => True) (oneN k 0) (.agg #[.int .u8 (k.toNat : Int), .int .u64 1, .int .u64 0, .int .u64 0, .int .u64 0, .int .u64 0, .int .u64 0, .int .u64 0, .int .i64 0, .int .i64 0, .int .i64 0, .int .i64 0, .slice none 0 0, .slice none 0 0, .slice none 0 0, .slice none 0 0]) := Nt.flat wA _ (oneN k 0) rfl rfl rfl rfl (by first | exact i64_zero | exact i64_one) (by first | exact i64_zero | exact i64_one) (by first | exact i64_zero | exact i64_one) (by first | exact i64_zero | exact i64_one)
  clear hwA
  have hcA : ∀ wq, Below wA.heap.size wA wq → wq.cell? ⟨w1.heap.size, 0, none⟩ = some (.int .u8 (k.toNat : Int)) ∧ wq.cell? ⟨w1.heap.size, 1, none⟩ = some (.int .u64 1) ∧ wq.cell? ⟨w1.heap.size, 2, none⟩ = some (.int .u64 0) ∧ wq.cell? ⟨w1.heap.size, 3, none⟩ = some (.int .u64 0) ∧ wq.cell? ⟨w1.heap.size, 4, none⟩ = some (.int .u64 0) ∧ wq.cell? ⟨w1.heap.size, 5, none⟩ = some (.int .u64 0) ∧ wq.cell? ⟨w1.heap.size, 6, none⟩ = some (.int .u64 0) ∧ wq.cell? ⟨w1.heap.size, 7, none⟩ = some (.int .u64 0) ∧ wq.cell? ⟨w1.heap.size, 8, none⟩ = some (.int .i64 0) ∧ wq.cell? ⟨w1.heap.size, 9, none⟩ = some (.int .i64 0) ∧ wq.cell? ⟨w1.heap.size, 10, none⟩ = some (.int .i64 0) ∧ wq.cell? ⟨w1.heap.size, 11, none⟩ = some (.int .i64 0) ∧ wq.cell? ⟨w1.heap.size, 12, none⟩ = some (.slice none 0 0) ∧ wq.cell? ⟨w1.heap.size, 13, none⟩ = some (.slice none 0 0) ∧ wq.cell? ⟨w1.heap.size, 14, none⟩ = some (.slice none 0 0) ∧ wq.cell? ⟨w1.heap.size, 15, none⟩ = some (.slice none 0 0) := by
    intro wq hb
    have e2 := (hb.block w1.heap.size (Array.getElem?_eq_some_iff.1 hoA).1).trans hoA
    simp [World.cell?, e2]
  have hNA := hN1.below hbA (Nat.le_refl _)
  have HbA := Lib.hid (below_on hb1 hbA hb1.size)
  have HnA := Lib.hid hnA
  have HcA := Lib.hid hcA
  have hf := fields_one k 0 (by decide)
  obtain ⟨LS, hLS⟩ : ∃ LS, LS = sortLets k.toNat := ⟨_, rfl⟩
  have hname := rname_any wA k.toNat (by omega)
  rw [← hLS] at hf hname
  have HF := Lib.hid hf
  have hLl : LS.length ≤ 100 := by
    rw [hLS]
    have : ∀ q : Fin 256, (sortLets q.val).length ≤ 100 := by decide +kernel
    exact this ⟨k.toNat, k.toNat_lt⟩
  clear hf hLS hnA hcA hoA hbA
  go_wp2_with (first | (with_reducible refine stop_index_sort ?_) | ((with_reducible apply wpList_unguard); rfl) | (with_reducible refine stop_make ?_) | ((with_reducible apply len_B); assumption) | ((with_reducible apply len_BB); assumption)  | ((with_reducible apply len_N); assumption) | ((with_reducible apply len_V); assumption) | ((with_reducible apply len_VV); assumption) | ((with_reducible apply len_P); assumption) | ((with_reducible apply len_O); assumption) | ((with_reducible apply len_H); assumption)  | (with_reducible refine stop_builtin ?_) | (with_reducible refine stop_slice ?_) | (with_reducible refine stop_index_B ?_) | (with_reducible refine stop_index_BB ?_)  | (with_reducible refine stop_index_N ?_) | (with_reducible refine stop_index_V ?_) | (with_reducible refine stop_index_VV ?_) | (with_reducible refine stop_index_P ?_) | (with_reducible refine stop_index_O ?_) | (with_reducible refine stop_index_H ?_)  | (with_reducible refine stop_str_B ?_) | (with_reducible refine stop_mark_B ?_) | (with_reducible refine stop_buildSlice ?_))
  refine hname.mono ?_
  rintro e w2 ⟨rfl, rfl⟩
  clear hname
  go_wp2_with (first | (with_reducible refine stop_index_sort ?_) | ((with_reducible apply wpList_unguard); rfl) | (with_reducible refine stop_make ?_) | ((with_reducible apply len_B); assumption) | ((with_reducible apply len_BB); assumption)  | ((with_reducible apply len_N); assumption) | ((with_reducible apply len_V); assumption) | ((with_reducible apply len_VV); assumption) | ((with_reducible apply len_P); assumption) | ((with_reducible apply len_O); assumption) | ((with_reducible apply len_H); assumption)  | (with_reducible refine stop_builtin ?_) | (with_reducible refine stop_slice ?_) | (with_reducible refine stop_index_B ?_) | (with_reducible refine stop_index_BB ?_)  | (with_reducible refine stop_index_N ?_) | (with_reducible refine stop_index_V ?_) | (with_reducible refine stop_index_VV ?_) | (with_reducible refine stop_index_P ?_) | (with_reducible refine stop_index_O ?_) | (with_reducible refine stop_index_H ?_)  | (with_reducible refine stop_str_B ?_) | (with_reducible refine stop_mark_B ?_) | (with_reducible refine stop_buildSlice ?_))
  go_loopg [10, 11] (LS.length + 1) (fun kk x10 x11 wr => ∃ j : Nat, kk = LS.length - j + 1 ∧ j ≤ LS.length ∧ x11 = .int .i64 j ∧ x10 = .bool ((LS.take j).any (· == 116)) ∧ Below wA.heap.size wA wr)
  case atStart => exact ⟨0, by omega, by omega, rfl, rfl, Below.refl _ _⟩
  case round =>
    obtain ⟨j, hk, hj, rfl, rfl, hbr⟩ := hrel
    have Hk := Lib.hid hk
    clear hk
    by_cases hlt : j < LS.length
    · have hat := any_take LS 116 j hlt
      have Hat := Lib.hid hat
      clear hat
      obtain ⟨bb, hbb⟩ : ∃ bb, bb = (LS.take j).any (· == 116) := ⟨_, rfl⟩
      rw [← hbb]
      have Hbb := Lib.hid hbb
      clear hbb
      have hltI : (j : Int) < (LS.length : Int) := by omega
      cases bb
      · go_wp2_with (fail)
        go_quiet (fail)
        go_wp2_with (first | (with_reducible refine stop_index_sort ?_) | ((with_reducible apply wpList_unguard); rfl) | (with_reducible refine stop_make ?_) | ((with_reducible apply len_B); assumption) | ((with_reducible apply len_BB); assumption)  | ((with_reducible apply len_N); assumption) | ((with_reducible apply len_V); assumption) | ((with_reducible apply len_VV); assumption) | ((with_reducible apply len_P); assumption) | ((with_reducible apply len_O); assumption) | ((with_reducible apply len_H); assumption)  | (with_reducible refine stop_builtin ?_) | (with_reducible refine stop_slice ?_) | (with_reducible refine stop_index_B ?_) | (with_reducible refine stop_index_BB ?_)  | (with_reducible refine stop_index_N ?_) | (with_reducible refine stop_index_V ?_) | (with_reducible refine stop_index_VV ?_) | (with_reducible refine stop_index_P ?_) | (with_reducible refine stop_index_O ?_) | (with_reducible refine stop_index_H ?_)  | (with_reducible refine stop_str_B ?_) | (with_reducible refine stop_mark_B ?_) | (with_reducible refine stop_buildSlice ?_))
        go_roundg (LS.length - (j + 1) + 1)
        case measure => have := Hk.out; omega
        case rel =>
          refine ⟨j + 1, by omega, by omega, by go_num, ?_, hbr.trans ⟨rfl, rfl, rfl, Nat.le_refl _, fun _ _ => rfl⟩⟩
          rw [Hat.out, ← Hbb.out, Bool.false_or]
          exact congrArg Value.bool (u8_eq LS[j] 116)
      · go_wp2_with (fail)
        go_quiet (fail)
        go_wp2_with (first | (with_reducible refine stop_index_sort ?_) | ((with_reducible apply wpList_unguard); rfl) | (with_reducible refine stop_make ?_) | ((with_reducible apply len_B); assumption) | ((with_reducible apply len_BB); assumption)  | ((with_reducible apply len_N); assumption) | ((with_reducible apply len_V); assumption) | ((with_reducible apply len_VV); assumption) | ((with_reducible apply len_P); assumption) | ((with_reducible apply len_O); assumption) | ((with_reducible apply len_H); assumption)  | (with_reducible refine stop_builtin ?_) | (with_reducible refine stop_slice ?_) | (with_reducible refine stop_index_B ?_) | (with_reducible refine stop_index_BB ?_)  | (with_reducible refine stop_index_N ?_) | (with_reducible refine stop_index_V ?_) | (with_reducible refine stop_index_VV ?_) | (with_reducible refine stop_index_P ?_) | (with_reducible refine stop_index_O ?_) | (with_reducible refine stop_index_H ?_)  | (with_reducible refine stop_str_B ?_) | (with_reducible refine stop_mark_B ?_) | (with_reducible refine stop_buildSlice ?_))
        go_roundg (LS.length - (j + 1) + 1)
        case measure => have := Hk.out; omega
        case rel =>
          refine ⟨j + 1, by omega, by omega, by go_num, ?_, hbr.trans ⟨rfl, rfl, rfl, Nat.le_refl _, fun _ _ => rfl⟩⟩
          rw [Hat.out, ← Hbb.out, Bool.true_or]
    · have hltI : ¬ (j : Int) < (LS.length : Int) := by omega
      obtain rfl : j = LS.length := by omega
      obtain ⟨d0, d1, d2, d3, d4, d5, d6, d7, d8, d9, d10, d11, d12, d13, d14, d15⟩ := HcA.out wr hbr
      rw [List.take_of_length_le (Nat.le_refl _)]
      have hNr := hNA.below hbr (Nat.le_refl _)
      have hnr := HnA.out.old.below hbr (Nat.le_refl _)
      have hR := nright_any wr _ (oneN k 0) _ hNr hnr
      rw [HF.out] at hR
      have HR := Lib.hid hR
      clear hR hnr hNr
      go_wp2_with (fail)
      refine HR.out.mono ?_
      rintro e w3 ⟨rfl, hb3⟩
      go_wp2_with (fail)
      go_ret
      exact ⟨by simp [letters], below_on (below_on HbA.out hbr HbA.out.size) hb3 (Nat.le_trans HbA.out.size hbr.size)⟩

set_option maxHeartbeats 8000000 in
set_option maxRecDepth 100000 in
theorem noteFields_c1 (w : World) (hN : Srt w) (hB : Nib w) (k : UInt8) (m : Nat) (hm : m < 256) (hi : m % 15 = 1) :
    Calls Tryd.prog 3 #[.int .u8 (k.toNat : Int), .int .u8 (m : Int)] w fun e w' => e = .returned (.bool true) ∧ Below w.heap.size w w' := by
  go_enter Tryd.func3, Tryd.ntmps3
  go_wp2_with (first | (with_reducible refine stop_index_sort ?_) | ((with_reducible apply wpList_unguard); rfl) | (with_reducible refine stop_make ?_) | ((with_reducible apply len_B); assumption) | ((with_reducible apply len_BB); assumption)  | ((with_reducible apply len_N); assumption) | ((with_reducible apply len_V); assumption) | ((with_reducible apply len_VV); assumption) | ((with_reducible apply len_P); assumption) | ((with_reducible apply len_O); assumption) | ((with_reducible apply len_H); assumption)  | (with_reducible refine stop_builtin ?_) | (with_reducible refine stop_slice ?_) | (with_reducible refine stop_index_B ?_) | (with_reducible refine stop_index_BB ?_)  | (with_reducible refine stop_index_N ?_) | (with_reducible refine stop_index_V ?_) | (with_reducible refine stop_index_VV ?_) | (with_reducible refine stop_index_P ?_) | (with_reducible refine stop_index_O ?_) | (with_reducible refine stop_index_H ?_)  | (with_reducible refine stop_str_B ?_) | (with_reducible refine stop_mark_B ?_) | (with_reducible refine stop_buildSlice ?_))
  refine (awake12_any w hN hB).mono ?_
  rintro e w1 ⟨rfl, hb1⟩
  have hN1 := hN.below hb1 (Nat.le_refl _)
  have hkl := k.toNat_lt
  have hiI : (m : Int) % 15 = 1 := by omega
  clear hi
  have he : ByteArray.extract ⟨#[116, 98, 115, 97, 109, 113, 105, 107, 101, 99, 119, 112, 111, 118, 104]⟩ 1 2 = ⟨#[98]⟩ := by decide +kernel
  go_upto_region 36 with (fail)
  refine name_world fun wA hwA => ?_
  have HE := Lib.hid he
  clear he
  have hbA : Below w1.heap.size w1 wA := by rw [hwA]; exact (Below.refl w1.heap.size w1).alloc (Nat.le_refl _) _
  have hoA : wA.heap[w1.heap.size]? = some (.cells #[.int .u8 (k.toNat : Int), .int .u64 0, .int .u64 1, .int .u64 0, .int .u64 0, .int .u64 0, .int .u64 0, .int .u64 0, .int .i64 0, .int .i64 0, .int .i64 0, .int .i64 0, .slice none 0 0, .slice none 0 0, .slice none 0 0, .slice none 0 0] 30) := by rw [hwA]; exact heap_alloc_new w1 _
  have hnA : Nt wA (fun _ => True) (oneN k 1) (.agg #[.int .u8 (k.toNat : Int), .int .u64 0, .int .u64 1, .int .u64 0, .int .u64 0, .int .u64 0, .int .u64 0, .int .u64 0, .int .i64 0, .int .i64 0, .int .i64 0, .int .i64 0, .slice none 0 0, .slice none 0 0, .slice none 0 0, .slice none 0 0]) := Nt.flat wA _ (oneN k 1) rfl rfl rfl rfl (by first | exact i64_zero | exact i64_one) (by first | exact i64_zero | exact i64_one) (by first | exact i64_zero | exact i64_one) (by first | exact i64_zero | exact i64_one)
  clear hwA
  have hcA : ∀ wq, Below wA.heap.size wA wq → wq.cell? ⟨w1.heap.size, 0, none⟩ = some (.int .u8 (k.toNat : Int)) ∧ wq.cell? ⟨w1.heap.size, 1, none⟩ = some (.int .u64 0) ∧ wq.cell? ⟨w1.heap.size, 2, none⟩ = some (.int .u64 1) ∧ wq.cell? ⟨w1.heap.size, 3, none⟩ = some (.int .u64 0) ∧ wq.cell? ⟨w1.heap.size, 4, none⟩ = some (.int .u64 0) ∧ wq.cell? ⟨w1.heap.size, 5, none⟩ = some (.int .u64 0) ∧ wq.cell? ⟨w1.heap.size, 6, none⟩ = some (.int .u64 0) ∧ wq.cell? ⟨w1.heap.size, 7, none⟩ = some (.int .u64 0) ∧ wq.cell? ⟨w1.heap.size, 8, none⟩ = some (.int .i64 0) ∧ wq.cell? ⟨w1.heap.size, 9, none⟩ = some (.int .i64 0) ∧ wq.cell? ⟨w1.heap.size, 10, none⟩ = some (.int .i64 0) ∧ wq.cell? ⟨w1.heap.size, 11, none⟩ = some (.int .i64 0) ∧ wq.cell? ⟨w1.heap.size, 12, none⟩ = some (.slice none 0 0) ∧ wq.cell? ⟨w1.heap.size, 13, none⟩ = some (.slice none 0 0) ∧ wq.cell? ⟨w1.heap.size, 14, none⟩ = some (.slice none 0 0) ∧ wq.cell? ⟨w1.heap.size, 15, none⟩ = some (.slice none 0 0) := by
    intro wq hb
    have e2 := (hb.block w1.heap.size (Array.getElem?_eq_some_iff.1 hoA).1).trans hoA
    simp [World.cell?, e2]
  have hNA := hN1.below hbA (Nat.le_refl _)
  have HbA := Lib.hid (below_on hb1 hbA hb1.size)
  have HnA := Lib.hid hnA
  have HcA := Lib.hid hcA
  have hf := fields_one k 1 (by decide)
  obtain ⟨LS, hLS⟩ : ∃ LS, LS = sortLets k.toNat := ⟨_, rfl⟩
  have hname := rname_any wA k.toNat (by omega)
  rw [← hLS] at hf hname
  have HF := Lib.hid hf
  have hLl : LS.length ≤ 100 := by
    rw [hLS]
    have : ∀ q : Fin 256, (sortLets q.val).length ≤ 100 := by decide +kernel
    exact this ⟨k.toNat, k.toNat_lt⟩
  clear hf hLS hnA hcA hoA hbA
  go_wp2_with (first | (with_reducible refine stop_index_sort ?_) | ((with_reducible apply wpList_unguard); rfl) | (with_reducible refine stop_make ?_) | ((with_reducible apply len_B); assumption) | ((with_reducible apply len_BB); assumption)  | ((with_reducible apply len_N); assumption) | ((with_reducible apply len_V); assumption) | ((with_reducible apply len_VV); assumption) | ((with_reducible apply len_P); assumption) | ((with_reducible apply len_O); assumption) | ((with_reducible apply len_H); assumption)  | (with_reducible refine stop_builtin ?_) | (with_reducible refine stop_slice ?_) | (with_reducible refine stop_index_B ?_) | (with_reducible refine stop_index_BB ?_)  | (with_reducible refine stop_index_N ?_) | (with_reducible refine stop_index_V ?_) | (with_reducible refine stop_index_VV ?_) | (with_reducible refine stop_index_P ?_) | (with_reducible refine stop_index_O ?_) | (with_reducible refine stop_index_H ?_)  | (with_reducible refine stop_str_B ?_) | (with_reducible refine stop_mark_B ?_) | (with_reducible refine stop_buildSlice ?_))
  refine hname.mono ?_
  rintro e w2 ⟨rfl, rfl⟩
  clear hname
  go_wp2_with (first | (with_reducible refine stop_index_sort ?_) | ((with_reducible apply wpList_unguard); rfl) | (with_reducible refine stop_make ?_) | ((with_reducible apply len_B); assumption) | ((with_reducible apply len_BB); assumption)  | ((with_reducible apply len_N); assumption) | ((with_reducible apply len_V); assumption) | ((with_reducible apply len_VV); assumption) | ((with_reducible apply len_P); assumption) | ((with_reducible apply len_O); assumption) | ((with_reducible apply len_H); assumption)  | (with_reducible refine stop_builtin ?_) | (with_reducible refine stop_slice ?_) | (with_reducible refine stop_index_B ?_) | (with_reducible refine stop_index_BB ?_)  | (with_reducible refine stop_index_N ?_) | (with_reducible refine stop_index_V ?_) | (with_reducible refine stop_index_VV ?_) | (with_reducible refine stop_index_P ?_) | (with_reducible refine stop_index_O ?_) | (with_reducible refine stop_index_H ?_)  | (with_reducible refine stop_str_B ?_) | (with_reducible refine stop_mark_B ?_) | (with_reducible refine stop_buildSlice ?_))
  go_loopg [10, 11] (LS.length + 1) (fun kk x10 x11 wr => ∃ j : Nat, kk = LS.length - j + 1 ∧ j ≤ LS.length ∧ x11 = .int .i64 j ∧ x10 = .bool ((LS.take j).any (· == 98)) ∧ Below wA.heap.size wA wr)
  case atStart => exact ⟨0, by omega, by omega, rfl, rfl, Below.refl _ _⟩
  case round =>
    obtain ⟨j, hk, hj, rfl, rfl, hbr⟩ := hrel
    have Hk := Lib.hid hk
    clear hk
    by_cases hlt : j < LS.length
    · have hat := any_take LS 98 j hlt
      have Hat := Lib.hid hat
      clear hat
      obtain ⟨bb, hbb⟩ : ∃ bb, bb = (LS.take j).any (· == 98) := ⟨_, rfl⟩
      rw [← hbb]
      have Hbb := Lib.hid hbb
      clear hbb
      have hltI : (j : Int) < (LS.length : Int) := by omega
      cases bb
      · go_wp2_with (fail)
        go_quiet (fail)
        go_wp2_with (first | (with_reducible refine stop_index_sort ?_) | ((with_reducible apply wpList_unguard); rfl) | (with_reducible refine stop_make ?_) | ((with_reducible apply len_B); assumption) | ((with_reducible apply len_BB); assumption)  | ((with_reducible apply len_N); assumption) | ((with_reducible apply len_V); assumption) | ((with_reducible apply len_VV); assumption) | ((with_reducible apply len_P); assumption) | ((with_reducible apply len_O); assumption) | ((with_reducible apply len_H); assumption)  | (with_reducible refine stop_builtin ?_) | (with_reducible refine stop_slice ?_) | (with_reducible refine stop_index_B ?_) | (with_reducible refine stop_index_BB ?_)  | (with_reducible refine stop_index_N ?_) | (with_reducible refine stop_index_V ?_) | (with_reducible refine stop_index_VV ?_) | (with_reducible refine stop_index_P ?_) | (with_reducible refine stop_index_O ?_) | (with_reducible refine stop_index_H ?_)  | (with_reducible refine stop_str_B ?_) | (with_reducible refine stop_mark_B ?_) | (with_reducible refine stop_buildSlice ?_))
        go_roundg (LS.length - (j + 1) + 1)
        case measure => have := Hk.out; omega
        case rel =>
          refine ⟨j + 1, by omega, by omega, by go_num, ?_, hbr.trans ⟨rfl, rfl, rfl, Nat.le_refl _, fun _ _ => rfl⟩⟩
          rw [Hat.out, ← Hbb.out, Bool.false_or]
          exact congrArg Value.bool (u8_eq LS[j] 98)
      · go_wp2_with (fail)
        go_quiet (fail)
        go_wp2_with (first | (with_reducible refine stop_index_sort ?_) | ((with_reducible apply wpList_unguard); rfl) | (with_reducible refine stop_make ?_) | ((with_reducible apply len_B); assumption) | ((with_reducible apply len_BB); assumption)  | ((with_reducible apply len_N); assumption) | ((with_reducible apply len_V); assumption) | ((with_reducible apply len_VV); assumption) | ((with_reducible apply len_P); assumption) | ((with_reducible apply len_O); assumption) | ((with_reducible apply len_H); assumption)  | (with_reducible refine stop_builtin ?_) | (with_reducible refine stop_slice ?_) | (with_reducible refine stop_index_B ?_) | (with_reducible refine stop_index_BB ?_)  | (with_reducible refine stop_index_N ?_) | (with_reducible refine stop_index_V ?_) | (with_reducible refine stop_index_VV ?_) | (with_reducible refine stop_index_P ?_) | (with_reducible refine stop_index_O ?_) | (with_reducible refine stop_index_H ?_)  | (with_reducible refine stop_str_B ?_) | (with_reducible refine stop_mark_B ?_) | (with_reducible refine stop_buildSlice ?_))
        go_roundg (LS.length - (j + 1) + 1)
        case measure => have := Hk.out; omega
        case rel =>
          refine ⟨j + 1, by omega, by omega, by go_num, ?_, hbr.trans ⟨rfl, rfl, rfl, Nat.le_refl _, fun _ _ => rfl⟩⟩
          rw [Hat.out, ← Hbb.out, Bool.true_or]
    · have hltI : ¬ (j : Int) < (LS.length : Int) := by omega
      obtain rfl : j = LS.length := by omega
      obtain ⟨d0, d1, d2, d3, d4, d5, d6, d7, d8, d9, d10, d11, d12, d13, d14, d15⟩ := HcA.out wr hbr
      rw [List.take_of_length_le (Nat.le_refl _)]
      have hNr := hNA.below hbr (Nat.le_refl _)
      have hnr := HnA.out.old.below hbr (Nat.le_refl _)
      have hR := nright_any wr _ (oneN k 1) _ hNr hnr
      rw [HF.out] at hR
      have HR := Lib.hid hR
      clear hR hnr hNr
      go_wp2_with (fail)
      refine HR.out.mono ?_
      rintro e w3 ⟨rfl, hb3⟩
      go_wp2_with (fail)
      go_ret
      exact ⟨by simp [letters], below_on (below_on HbA.out hbr HbA.out.size) hb3 (Nat.le_trans HbA.out.size hbr.size)⟩

set_option maxHeartbeats 8000000 in
set_option maxRecDepth 100000 in
theorem noteFields_c2 (w : World) (hN : Srt w) (hB : Nib w) (k : UInt8) (m : Nat) (hm : m < 256) (hi : m % 15 = 2) :
    Calls Tryd.prog 3 #[.int .u8 (k.toNat : Int), .int .u8 (m : Int)] w fun e w' => e = .returned (.bool true) ∧ Below w.heap.size w w' := by
  go_enter Tryd.func3, Tryd.ntmps3
  go_wp2_with (first | (with_reducible refine stop_index_sort ?_) | ((with_reducible apply wpList_unguard); rfl) | (with_reducible refine stop_make ?_) | ((with_reducible apply len_B); assumption) | ((with_reducible apply len_BB); assumption)  | ((with_reducible apply len_N); assumption) | ((with_reducible apply len_V); assumption) | ((with_reducible apply len_VV); assumption) | ((with_reducible apply len_P); assumption) | ((with_reducible apply len_O); assumption) | ((with_reducible apply len_H); assumption)  | (with_reducible refine stop_builtin ?_) | (with_reducible refine stop_slice ?_) | (with_reducible refine stop_index_B ?_) | (with_reducible refine stop_index_BB ?_)  | (with_reducible refine stop_index_N ?_) | (with_reducible refine stop_index_V ?_) | (with_reducible refine stop_index_VV ?_) | (with_reducible refine stop_index_P ?_) | (with_reducible refine stop_index_O ?_) | (with_reducible refine stop_index_H ?_)  | (with_reducible refine stop_str_B ?_) | (with_reducible refine stop_mark_B ?_) | (with_reducible refine stop_buildSlice ?_))
  refine (awake12_any w hN hB).mono ?_
  rintro e w1 ⟨rfl, hb1⟩
  have hN1 := hN.below hb1 (Nat.le_refl _)
  have hkl := k.toNat_lt
  have hiI : (m : Int) % 15 = 2 := by omega
  clear hi
  have he : ByteArray.extract ⟨#[116, 98, 115, 97, 109, 113, 105, 107, 101, 99, 119, 112, 111, 118, 104]⟩ 2 3 = ⟨#[115]⟩ := by decide +kernel
  go_upto_region 36 with (fail)
  refine name_world fun wA hwA => ?_
  have HE := Lib.hid he
  clear he
  have hbA : Below w1.heap.size w1 wA := by rw [hwA]; exact (Below.refl w1.heap.size w1).alloc (Nat.le_refl _) _
  have hoA : wA.heap[w1.heap.size]? = some (.cells #[.int .u8 (k.toNat : Int), .int .u64 0, .int .u64 0, .int .u64 1, .int .u64 0, .int .u64 0, .int .u64 0, .int .u64 0, .int .i64 0, .int .i64 0, .int .i64 0, .int .i64 0, .slice none 0 0, .slice none 0 0, .slice none 0 0, .slice none 0 0] 30) := by rw [hwA]; exact heap_alloc_new w1 _
  have hnA : Nt wA (fun _ => True) (oneN k 2) (.agg #[.int .u8 (k.toNat : Int), .int .u64 0, .int .u64 0, .int .u64 1, .int .u64 0, .int .u64 0, .int .u64 0, .int .u64 0, .int .i64 0, .int .i64 0, .int .i64 0, .int .i64 0, .slice none 0 0, .slice none 0 0, .slice none 0 0, .slice none 0 0]) := Nt.flat wA _ (oneN k 2) rfl rfl rfl rfl (by first | exact i64_zero | exact i64_one) (by first | exact i64_zero | exact i64_one) (by first | exact i64_zero | exact i64_one) (by first | exact i64_zero | exact i64_one)
  clear hwA
  have hcA : ∀ wq, Below wA.heap.size wA wq → wq.cell? ⟨w1.heap.size, 0, none⟩ = some (.int .u8 (k.toNat : Int)) ∧ wq.cell? ⟨w1.heap.size, 1, none⟩ = some (.int .u64 0) ∧ wq.cell? ⟨w1.heap.size, 2, none⟩ = some (.int .u64 0) ∧ wq.cell? ⟨w1.heap.size, 3, none⟩ = some (.int .u64 1) ∧ wq.cell? ⟨w1.heap.size, 4, none⟩ = some (.int .u64 0) ∧ wq.cell? ⟨w1.heap.size, 5, none⟩ = some (.int .u64 0) ∧ wq.cell? ⟨w1.heap.size, 6, none⟩ = some (.int .u64 0) ∧ wq.cell? ⟨w1.heap.size, 7, none⟩ = some (.int .u64 0) ∧ wq.cell? ⟨w1.heap.size, 8, none⟩ = some (.int .i64 0) ∧ wq.cell? ⟨w1.heap.size, 9, none⟩ = some (.int .i64 0) ∧ wq.cell? ⟨w1.heap.size, 10, none⟩ = some (.int .i64 0) ∧ wq.cell? ⟨w1.heap.size, 11, none⟩ = some (.int .i64 0) ∧ wq.cell? ⟨w1.heap.size, 12, none⟩ = some (.slice none 0 0) ∧ wq.cell? ⟨w1.heap.size, 13, none⟩ = some (.slice none 0 0) ∧ wq.cell? ⟨w1.heap.size, 14, none⟩ = some (.slice none 0 0) ∧ wq.cell? ⟨w1.heap.size, 15, none⟩ = some (.slice none 0 0) := by
    intro wq hb
    have e2 := (hb.block w1.heap.size (Array.getElem?_eq_some_iff.1 hoA).1).trans hoA
    simp [World.cell?, e2]
  have hNA := hN1.below hbA (Nat.le_refl _)
  have HbA := Lib.hid (below_on hb1 hbA hb1.size)
  have HnA := Lib.hid hnA
  have HcA := Lib.hid hcA
  have hf := fields_one k 2 (by decide)
  obtain ⟨LS, hLS⟩ : ∃ LS, LS = sortLets k.toNat := ⟨_, rfl⟩
  have hname := rname_any wA k.toNat (by omega)
  rw [← hLS] at hf hname
  have HF := Lib.hid hf
  have hLl : LS.length ≤ 100 := by
    rw [hLS]
    have : ∀ q : Fin 256, (sortLets q.val).length ≤ 100 := by decide +kernel
    exact this ⟨k.toNat, k.toNat_lt⟩
  clear hf hLS hnA hcA hoA hbA
  go_wp2_with (first | (with_reducible refine stop_index_sort ?_) | ((with_reducible apply wpList_unguard); rfl) | (with_reducible refine stop_make ?_) | ((with_reducible apply len_B); assumption) | ((with_reducible apply len_BB); assumption)  | ((with_reducible apply len_N); assumption) | ((with_reducible apply len_V); assumption) | ((with_reducible apply len_VV); assumption) | ((with_reducible apply len_P); assumption) | ((with_reducible apply len_O); assumption) | ((with_reducible apply len_H); assumption)  | (with_reducible refine stop_builtin ?_) | (with_reducible refine stop_slice ?_) | (with_reducible refine stop_index_B ?_) | (with_reducible refine stop_index_BB ?_)  | (with_reducible refine stop_index_N ?_) | (with_reducible refine stop_index_V ?_) | (with_reducible refine stop_index_VV ?_) | (with_reducible refine stop_index_P ?_) | (with_reducible refine stop_index_O ?_) | (with_reducible refine stop_index_H ?_)  | (with_reducible refine stop_str_B ?_) | (with_reducible refine stop_mark_B ?_) | (with_reducible refine stop_buildSlice ?_))
  refine hname.mono ?_
  rintro e w2 ⟨rfl, rfl⟩
  clear hname
  go_wp2_with (first | (with_reducible refine stop_index_sort ?_) | ((with_reducible apply wpList_unguard); rfl) | (with_reducible refine stop_make ?_) | ((with_reducible apply len_B); assumption) | ((with_reducible apply len_BB); assumption)  | ((with_reducible apply len_N); assumption) | ((with_reducible apply len_V); assumption) | ((with_reducible apply len_VV); assumption) | ((with_reducible apply len_P); assumption) | ((with_reducible apply len_O); assumption) | ((with_reducible apply len_H); assumption)  | (with_reducible refine stop_builtin ?_) | (with_reducible refine stop_slice ?_) | (with_reducible refine stop_index_B ?_) | (with_reducible refine stop_index_BB ?_)  | (with_reducible refine stop_index_N ?_) | (with_reducible refine stop_index_V ?_) | (with_reducible refine stop_index_VV ?_) | (with_reducible refine stop_index_P ?_) | (with_reducible refine stop_index_O ?_) | (with_reducible refine stop_index_H ?_)  | (with_reducible refine stop_str_B ?_) | (with_reducible refine stop_mark_B ?_) | (with_reducible refine stop_buildSlice ?_))
  go_loopg [10, 11] (LS.length + 1) (fun kk x10 x11 wr => ∃ j : Nat, kk = LS.length - j + 1 ∧ j ≤ LS.length ∧ x11 = .int .i64 j ∧ x10 = .bool ((LS.take j).any (· == 115)) ∧ Below wA.heap.size wA wr)
  case atStart => exact ⟨0, by omega, by omega, rfl, rfl, Below.refl _ _⟩
  case round =>
    obtain ⟨j, hk, hj, rfl, rfl, hbr⟩ := hrel
    have Hk := Lib.hid hk
    clear hk
    by_cases hlt : j < LS.length
    · have hat := any_take LS 115 j hlt
      have Hat := Lib.hid hat
      clear hat
      obtain ⟨bb, hbb⟩ : ∃ bb, bb = (LS.take j).any (· == 115) := ⟨_, rfl⟩
      rw [← hbb]
      have Hbb := Lib.hid hbb
      clear hbb
      have hltI : (j : Int) < (LS.length : Int) := by omega
      cases bb
      · go_wp2_with (fail)
        go_quiet (fail)
        go_wp2_with (first | (with_reducible refine stop_index_sort ?_) | ((with_reducible apply wpList_unguard); rfl) | (with_reducible refine stop_make ?_) | ((with_reducible apply len_B); assumption) | ((with_reducible apply len_BB); assumption)  | ((with_reducible apply len_N); assumption) | ((with_reducible apply len_V); assumption) | ((with_reducible apply len_VV); assumption) | ((with_reducible apply len_P); assumption) | ((with_reducible apply len_O); assumption) | ((with_reducible apply len_H); assumption)  | (with_reducible refine stop_builtin ?_) | (with_reducible refine stop_slice ?_) | (with_reducible refine stop_index_B ?_) | (with_reducible refine stop_index_BB ?_)  | (with_reducible refine stop_index_N ?_) | (with_reducible refine stop_index_V ?_) | (with_reducible refine stop_index_VV ?_) | (with_reducible refine stop_index_P ?_) | (with_reducible refine stop_index_O ?_) | (with_reducible refine stop_index_H ?_)  | (with_reducible refine stop_str_B ?_) | (with_reducible refine stop_mark_B ?_) | (with_reducible refine stop_buildSlice ?_))
        go_roundg (LS.length - (j + 1) + 1)
        case measure => have := Hk.out; omega
        case rel =>
          refine ⟨j + 1, by omega, by omega, by go_num, ?_, hbr.trans ⟨rfl, rfl, rfl, Nat.le_refl _, fun _ _ => rfl⟩⟩
          rw [Hat.out, ← Hbb.out, Bool.false_or]
          exact congrArg Value.bool (u8_eq LS[j] 115)
      · go_wp2_with (fail)
        go_quiet (fail)
        go_wp2_with (first | (with_reducible refine stop_index_sort ?_) | ((with_reducible apply wpList_unguard); rfl) | (with_reducible refine stop_make ?_) | ((with_reducible apply len_B); assumption) | ((with_reducible apply len_BB); assumption)  | ((with_reducible apply len_N); assumption) | ((with_reducible apply len_V); assumption) | ((with_reducible apply len_VV); assumption) | ((with_reducible apply len_P); assumption) | ((with_reducible apply len_O); assumption) | ((with_reducible apply len_H); assumption)  | (with_reducible refine stop_builtin ?_) | (with_reducible refine stop_slice ?_) | (with_reducible refine stop_index_B ?_) | (with_reducible refine stop_index_BB ?_)  | (with_reducible refine stop_index_N ?_) | (with_reducible refine stop_index_V ?_) | (with_reducible refine stop_index_VV ?_) | (with_reducible refine stop_index_P ?_) | (with_reducible refine stop_index_O ?_) | (with_reducible refine stop_index_H ?_)  | (with_reducible refine stop_str_B ?_) | (with_reducible refine stop_mark_B ?_) | (with_reducible refine stop_buildSlice ?_))
        go_roundg (LS.length - (j + 1) + 1)
        case measure => have := Hk.out; omega
        case rel =>
          refine ⟨j + 1, by omega, by omega, by go_num, ?_, hbr.trans ⟨rfl, rfl, rfl, Nat.le_refl _, fun _ _ => rfl⟩⟩
          rw [Hat.out, ← Hbb.out, Bool.true_or]
    · have hltI : ¬ (j : Int) < (LS.length : Int) := by omega
      obtain rfl : j = LS.length := by omega
      obtain ⟨d0, d1, d2, d3, d4, d5, d6, d7, d8, d9, d10, d11, d12, d13, d14, d15⟩ := HcA.out wr hbr
      rw [List.take_of_length_le (Nat.le_refl _)]
      have hNr := hNA.below hbr (Nat.le_refl _)
      have hnr := HnA.out.old.below hbr (Nat.le_refl _)
      have hR := nright_any wr _ (oneN k 2) _ hNr hnr
      rw [HF.out] at hR
      have HR := Lib.hid hR
      clear hR hnr hNr
      go_wp2_with (fail)
      refine HR.out.mono ?_
      rintro e w3 ⟨rfl, hb3⟩
      go_wp2_with (fail)
      go_ret
      exact ⟨by simp [letters], below_on (below_on HbA.out hbr HbA.out.size) hb3 (Nat.le_trans HbA.out.size hbr.size)⟩

set_option maxHeartbeats 8000000 in
set_option maxRecDepth 100000 in
theorem noteFields_c3 (w : World) (hN : Srt w) (hB : Nib w) (k : UInt8) (m : Nat) (hm : m < 256) (hi : m % 15 = 3) :
    Calls Tryd.prog 3 #[.int .u8 (k.toNat : Int), .int .u8 (m : Int)] w fun e w' => e = .returned (.bool true) ∧ Below w.heap.size w w' := by
  go_enter Tryd.func3, Tryd.ntmps3
  go_wp2_with (first | (with_reducible refine stop_index_sort ?_) | ((with_reducible apply wpList_unguard); rfl) | (with_reducible refine stop_make ?_) | ((with_reducible apply len_B); assumption) | ((with_reducible apply len_BB); assumption)  | ((with_reducible apply len_N); assumption) | ((with_reducible apply len_V); assumption) | ((with_reducible apply len_VV); assumption) | ((with_reducible apply len_P); assumption) | ((with_reducible apply len_O); assumption) | ((with_reducible apply len_H); assumption)  | (with_reducible refine stop_builtin ?_) | (with_reducible refine stop_slice ?_) | (with_reducible refine stop_index_B ?_) | (with_reducible refine stop_index_BB ?_)  | (with_reducible refine stop_index_N ?_) | (with_reducible refine stop_index_V ?_) | (with_reducible refine stop_index_VV ?_) | (with_reducible refine stop_index_P ?_) | (with_reducible refine stop_index_O ?_) | (with_reducible refine stop_index_H ?_)  | (with_reducible refine stop_str_B ?_) | (with_reducible refine stop_mark_B ?_) | (with_reducible refine stop_buildSlice ?_))
  refine (awake12_any w hN hB).mono ?_
  rintro e w1 ⟨rfl, hb1⟩
  have hN1 := hN.below hb1 (Nat.le_refl _)
  have hkl := k.toNat_lt
  have hiI : (m : Int) % 15 = 3 := by omega
  clear hi
  have he : ByteArray.extract ⟨#[116, 98, 115, 97, 109, 113, 105, 107, 101, 99, 119, 112, 111, 118, 104]⟩ 3 4 = ⟨#[97]⟩ := by decide +kernel
  go_upto_region 36 with (fail)
  refine name_world fun wA hwA => ?_
  have HE := Lib.hid he
  clear he
  have hbA : Below w1.heap.size w1 wA := by rw [hwA]; exact (Below.refl w1.heap.size w1).alloc (Nat.le_refl _) _
  have hoA : wA.heap[w1.heap.size]? = some (.cells #[.int .u8 (k.toNat : Int), .int .u64 0, .int .u64 0, .int .u64 0, .int .u64 1, .int .u64 0, .int .u64 0, .int .u64 0, .int .i64 0, .int .i64 0, .int .i64 0, .int .i64 0, .slice none 0 0, .slice none 0 0, .slice none 0 0, .slice none 0 0] 30) := by rw [hwA]; exact heap_alloc_new w1 _
  have hnA : Nt wA (fun _ => True) (oneN k 3) (.agg #[.int .u8 (k.toNat : Int), .int .u64 0, .int .u64 0, .int .u64 0, .int .u64 1, .int .u64 0, .int .u64 0, .int .u64 0, .int .i64 0, .int .i64 0, .int .i64 0, .int .i64 0, .slice none 0 0, .slice none 0 0, .slice none 0 0, .slice none 0 0]) := Nt.flat wA _ (oneN k 3) rfl rfl rfl rfl (by first | exact i64_zero | exact i64_one) (by first | exact i64_zero | exact i64_one) (by first | exact i64_zero | exact i64_one) (by first | exact i64_zero | exact i64_one)
  clear hwA
  have hcA : ∀ wq, Below wA.heap.size wA wq → wq.cell? ⟨w1.heap.size, 0, none⟩ = some (.int .u8 (k.toNat : Int)) ∧ wq.cell? ⟨w1.heap.size, 1, none⟩ = some (.int .u64 0) ∧ wq.cell? ⟨w1.heap.size, 2, none⟩ = some (.int .u64 0) ∧ wq.cell? ⟨w1.heap.size, 3, none⟩ = some (.int .u64 0) ∧ wq.cell? ⟨w1.heap.size, 4, none⟩ = some (.int .u64 1) ∧ wq.cell? ⟨w1.heap.size, 5, none⟩ = some (.int .u64 0) ∧ wq.cell? ⟨w1.heap.size, 6, none⟩ = some (.int .u64 0) ∧ wq.cell? ⟨w1.heap.size, 7, none⟩ = some (.int .u64 0) ∧ wq.cell? ⟨w1.heap.size, 8, none⟩ = some (.int .i64 0) ∧ wq.cell? ⟨w1.heap.size, 9, none⟩ = some (.int .i64 0) ∧ wq.cell? ⟨w1.heap.size, 10, none⟩ = some (.int .i64 0) ∧ wq.cell? ⟨w1.heap.size, 11, none⟩ = some (.int .i64 0) ∧ wq.cell? ⟨w1.heap.size, 12, none⟩ = some (.slice none 0 0) ∧ wq.cell? ⟨w1.heap.size, 13, none⟩ = some (.slice none 0 0) ∧ wq.cell? ⟨w1.heap.size, 14, none⟩ = some (.slice none 0 0) ∧ wq.cell? ⟨w1.heap.size, 15, none⟩ = some (.slice none 0 0) := by
    intro wq hb
    have e2 := (hb.block w1.heap.size (Array.getElem?_eq_some_iff.1 hoA).1).trans hoA
    simp [World.cell?, e2]
  have hNA := hN1.below hbA (Nat.le_refl _)
  have HbA := Lib.hid (below_on hb1 hbA hb1.size)
  have HnA := Lib.hid hnA
  have HcA := Lib.hid hcA
  have hf := fields_one k 3 (by decide)
  obtain ⟨LS, hLS⟩ : ∃ LS, LS = sortLets k.toNat := ⟨_, rfl⟩
  have hname := rname_any wA k.toNat (by omega)
  rw [← hLS] at hf hname
  have HF := Lib.hid hf
  have hLl : LS.length ≤ 100 := by
    rw [hLS]
    have : ∀ q : Fin 256, (sortLets q.val).length ≤ 100 := by decide +kernel
    exact this ⟨k.toNat, k.toNat_lt⟩
  clear hf hLS hnA hcA hoA hbA
  go_wp2_with (first | (with_reducible refine stop_index_sort ?_) | ((with_reducible apply wpList_unguard); rfl) | (with_reducible refine stop_make ?_) | ((with_reducible apply len_B); assumption) | ((with_reducible apply len_BB); assumption)  | ((with_reducible apply len_N); assumption) | ((with_reducible apply len_V); assumption) | ((with_reducible apply len_VV); assumption) | ((with_reducible apply len_P); assumption) | ((with_reducible apply len_O); assumption) | ((with_reducible apply len_H); assumption)  | (with_reducible refine stop_builtin ?_) | (with_reducible refine stop_slice ?_) | (with_reducible refine stop_index_B ?_) | (with_reducible refine stop_index_BB ?_)  | (with_reducible refine stop_index_N ?_) | (with_reducible refine stop_index_V ?_) | (with_reducible refine stop_index_VV ?_) | (with_reducible refine stop_index_P ?_) | (with_reducible refine stop_index_O ?_) | (with_reducible refine stop_index_H ?_)  | (with_reducible refine stop_str_B ?_) | (with_reducible refine stop_mark_B ?_) | (with_reducible refine stop_buildSlice ?_))
  refine hname.mono ?_
  rintro e w2 ⟨rfl, rfl⟩
  clear hname
  go_wp2_with (first | (with_reducible refine stop_index_sort ?_) | ((with_reducible apply wpList_unguard); rfl) | (with_reducible refine stop_make ?_) | ((with_reducible apply len_B); assumption) | ((with_reducible apply len_BB); assumption)  | ((with_reducible apply len_N); assumption) | ((with_reducible apply len_V); assumption) | ((with_reducible apply len_VV); assumption) | ((with_reducible apply len_P); assumption) | ((with_reducible apply len_O); assumption) | ((with_reducible apply len_H); assumption)  | (with_reducible refine stop_builtin ?_) | (with_reducible refine stop_slice ?_) | (with_reducible refine stop_index_B ?_) | (with_reducible refine stop_index_BB ?_)  | (with_reducible refine stop_index_N ?_) | (with_reducible refine stop_index_V ?_) | (with_reducible refine stop_index_VV ?_) | (with_reducible refine stop_index_P ?_) | (with_reducible refine stop_index_O ?_) | (with_reducible refine stop_index_H ?_)  | (with_reducible refine stop_str_B ?_) | (with_reducible refine stop_mark_B ?_) | (with_reducible refine stop_buildSlice ?_))
  go_loopg [10, 11] (LS.length + 1) (fun kk x10 x11 wr => ∃ j : Nat, kk = LS.length - j + 1 ∧ j ≤ LS.length ∧ x11 = .int .i64 j ∧ x10 = .bool ((LS.take j).any (· == 97)) ∧ Below wA.heap.size wA wr)
  case atStart => exact ⟨0, by omega, by omega, rfl, rfl, Below.refl _ _⟩
  case round =>
    obtain ⟨j, hk, hj, rfl, rfl, hbr⟩ := hrel
    have Hk := Lib.hid hk
    clear hk
    by_cases hlt : j < LS.length
    · have hat := any_take LS 97 j hlt
      have Hat := Lib.hid hat
      clear hat
      obtain ⟨bb, hbb⟩ : ∃ bb, bb = (LS.take j).any (· == 97) := ⟨_, rfl⟩
      rw [← hbb]
      have Hbb := Lib.hid hbb
      clear hbb
      have hltI : (j : Int) < (LS.length : Int) := by omega
      cases bb
      · go_wp2_with (fail)
        go_quiet (fail)
        go_wp2_with (first | (with_reducible refine stop_index_sort ?_) | ((with_reducible apply wpList_unguard); rfl) | (with_reducible refine stop_make ?_) | ((with_reducible apply len_B); assumption) | ((with_reducible apply len_BB); assumption)  | ((with_reducible apply len_N); assumption) | ((with_reducible apply len_V); assumption) | ((with_reducible apply len_VV); assumption) | ((with_reducible apply len_P); assumption) | ((with_reducible apply len_O); assumption) | ((with_reducible apply len_H); assumption)  | (with_reducible refine stop_builtin ?_) | (with_reducible refine stop_slice ?_) | (with_reducible refine stop_index_B ?_) | (with_reducible refine stop_index_BB ?_)  | (with_reducible refine stop_index_N ?_) | (with_reducible refine stop_index_V ?_) | (with_reducible refine stop_index_VV ?_) | (with_reducible refine stop_index_P ?_) | (with_reducible refine stop_index_O ?_) | (with_reducible refine stop_index_H ?_)  | (with_reducible refine stop_str_B ?_) | (with_reducible refine stop_mark_B ?_) | (with_reducible refine stop_buildSlice ?_))
        go_roundg (LS.length - (j + 1) + 1)
        case measure => have := Hk.out; omega
        case rel =>
          refine ⟨j + 1, by omega, by omega, by go_num, ?_, hbr.trans ⟨rfl, rfl, rfl, Nat.le_refl _, fun _ _ => rfl⟩⟩
          rw [Hat.out, ← Hbb.out, Bool.false_or]
          exact congrArg Value.bool (u8_eq LS[j] 97)
      · go_wp2_with (fail)
        go_quiet (fail)
        go_wp2_with (first | (with_reducible refine stop_index_sort ?_) | ((with_reducible apply wpList_unguard); rfl) | (with_reducible refine stop_make ?_) | ((with_reducible apply len_B); assumption) | ((with_reducible apply len_BB); assumption)  | ((with_reducible apply len_N); assumption) | ((with_reducible apply len_V); assumption) | ((with_reducible apply len_VV); assumption) | ((with_reducible apply len_P); assumption) | ((with_reducible apply len_O); assumption) | ((with_reducible apply len_H); assumption)  | (with_reducible refine stop_builtin ?_) | (with_reducible refine stop_slice ?_) | (with_reducible refine stop_index_B ?_) | (with_reducible refine stop_index_BB ?_)  | (with_reducible refine stop_index_N ?_) | (with_reducible refine stop_index_V ?_) | (with_reducible refine stop_index_VV ?_) | (with_reducible refine stop_index_P ?_) | (with_reducible refine stop_index_O ?_) | (with_reducible refine stop_index_H ?_)  | (with_reducible refine stop_str_B ?_) | (with_reducible refine stop_mark_B ?_) | (with_reducible refine stop_buildSlice ?_))
        go_roundg (LS.length - (j + 1) + 1)
        case measure => have := Hk.out; omega
        case rel =>
          refine ⟨j + 1, by omega, by omega, by go_num, ?_, hbr.trans ⟨rfl, rfl, rfl, Nat.le_refl _, fun _ _ => rfl⟩⟩
          rw [Hat.out, ← Hbb.out, Bool.true_or]
    · have hltI : ¬ (j : Int) < (LS.length : Int) := by omega
      obtain rfl : j = LS.length := by omega
      obtain ⟨d0, d1, d2, d3, d4, d5, d6, d7, d8, d9, d10, d11, d12, d13, d14, d15⟩ := HcA.out wr hbr
      rw [List.take_of_length_le (Nat.le_refl _)]
      have hNr := hNA.below hbr (Nat.le_refl _)
      have hnr := HnA.out.old.below hbr (Nat.le_refl _)
      have hR := nright_any wr _ (oneN k 3) _ hNr hnr
      rw [HF.out] at hR
      have HR := Lib.hid hR
      clear hR hnr hNr
      go_wp2_with (fail)
      refine HR.out.mono ?_
      rintro e w3 ⟨rfl, hb3⟩
      go_wp2_with (fail)
      go_ret
      exact ⟨by simp [letters], below_on (below_on HbA.out hbr HbA.out.size) hb3 (Nat.le_trans HbA.out.size hbr.size)⟩
end Go.Proofs.YtnkbfelnggompaaDoor
