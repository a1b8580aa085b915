/- The kinds' table: package note: sorted, Name; armillaryref12: Name. -/
import Derived.Test.YtnkbfelnggompaaDoorNoteVec
namespace Go.Arm
/-- A kind's name, its fields' mask, its fields' letters. -/
def sortTab : List (List UInt8 × Nat × List UInt8) := [([], 0, []),
  ([65, 115, 107], 4098, [98, 111]),
  ([82, 101, 112, 108, 121], 518, [98, 115, 99]),
  ([80, 114, 101, 112, 97, 114, 101], 6153, [116, 97, 112, 111]),
  ([86, 111, 116, 101], 513, [116, 99]),
  ([68, 101, 99, 105, 100, 101], 517, [116, 115, 99]),
  ([65, 99, 107], 1, [116]),
  ([80, 114, 111, 98, 101], 1, [116]),
  ([81, 117, 101, 114, 121], 8672, [113, 105, 107, 101, 118]),
  ([76, 111, 111, 107], 8692, [115, 109, 113, 105, 107, 101, 118]),
  ([83, 101, 101, 110], 16928, [113, 99, 104]),
  ([82, 101, 115, 117, 108, 116], 16932, [115, 113, 99, 104]),
  ([80, 114, 101, 112, 97, 114, 101, 100], 6153, [116, 97, 112, 111]),
  ([67, 111, 109, 109, 105, 116, 116, 101, 100], 5, [116, 115]),
  ([65, 98, 111, 114, 116, 101, 100], 1, [116]),
  ([83, 119, 101, 112, 116], 16, [109]),
  ([69, 112, 111, 99, 104], 16, [109]),
  ([67, 111, 109, 109, 105, 116], 2055, [116, 98, 115, 112]),
  ([69, 110, 100], 1, [116]),
  ([66, 101, 103, 105, 110], 7179, [116, 98, 97, 119, 112, 111]),
  ([89, 101, 115], 1025, [116, 119]),
  ([65, 99, 107, 101, 100], 1025, [116, 119]),
  ([71, 111, 110, 101], 1, [116])]
def sortAt (k : Nat) : List UInt8 × Nat × List UInt8 := sortTab[k]?.getD ([], 0, [])
def sortName (k : Nat) : List UInt8 := (sortAt k).1
def sortMask (k : Nat) : Nat := (sortAt k).2.1
def sortLets (k : Nat) : List UInt8 := (sortAt k).2.2
theorem sortAt_far (k : Nat) (h : 23 ≤ k) : sortAt k = ([], 0, []) := by
  unfold sortAt
  rw [List.getElem?_eq_none (by show sortTab.length ≤ k; exact h)]; rfl
end Go.Arm
namespace Go.Proofs.YtnkbfelnggompaaDoor
open Go Go.RowKit Go.Arm

/-- The table lies as its initialiser lays it. -/
def Srt (w : World) : Prop := ∀ k, k < 23 → w.cell? ⟨0, k * 2, none⟩ = some (.string ⟨(sortName k).toArray⟩) ∧ w.cell? ⟨0, k * 2 + 1, none⟩ = some (.int .i64 (sortMask k : Int))
theorem Srt.lt {w : World} (h : Srt w) : 0 < w.heap.size := World.block_lt_of_cell? w _ (h 0 (by decide)).1
theorem Srt.below {w w' : World} (h : Srt w) {B : Nat} (hb : Below B w w') (hB : w.heap.size ≤ B) : Srt w' := fun k hk => by
  have hlt := h.lt
  have e := hb.block _ (Nat.lt_of_lt_of_le hlt hB)
  exact ⟨(cell?_same (w := w) e).trans (h k hk).1, (cell?_same (w := w) e).trans (h k hk).2⟩

section
variable {ops : Array Oper} {Q : Exit → Act → World → Prop} {a : Act} {w : World} {rest : List Oper}
variable {dst : Option Tmp} {ty : TypeId} {pos : String} {after : Array Edge}
theorem stop_index_sort {x i : Operand} (h : Stop (wpList Tryd.prog ops Q (⟨dst, .indexAddr 99 x i, ty, pos, after, none⟩ :: rest) a w) .mk) : wpList Tryd.prog ops Q (⟨dst, .indexAddr 99 x i, ty, pos, after, none⟩ :: rest) a w := h
set_option maxRecDepth 100000 in
theorem idx_sort {Q : Exit → Act → World → Prop} {i : Operand} (hN : Srt w) {k : Nat} (hi : a.eval i = .int .u8 (k : Int)) (hk : k < 23)
    (h : w.cell? ⟨0, k * 2, none⟩ = some (.string ⟨(sortName k).toArray⟩) → w.cell? ⟨0, k * 2 + 1, none⟩ = some (.int .i64 (sortMask k : Int)) → wpList Tryd.prog ops Q rest (a.put dst (.pointer (some ⟨0, k * 2, none⟩))) w) :
    wpList Tryd.prog ops Q (⟨dst, .indexAddr 99 (.global 0) i, ty, pos, after, none⟩ :: rest) a w := by
  refine wpList_plain rfl fun K hK => ?_
  have hrun : (Instr.indexAt 99 (.pointer (some ⟨0, 0, none⟩)) (.int .u8 (k : Int))).run Tryd.prog w = .ok (.pointer (some ⟨0, k * 2, none⟩)) w := by
    rw [run_indexAt_array (P := Tryd.prog) w 99 ⟨0, 0, none⟩ .u8 k (by kernel_rfl), if_pos ⟨by omega, by show (k : Int) < ((23 : Nat) : Int); omega⟩]
    simp [go_sem]
  unfold Oper.wp
  simp only [execOp, hi, BigFrame.eval_global, Sem.run_bind, hrun, Result.andThen_ok, Sem.run_pure]
  exact hK _ _ (h (hN k hk).1 (hN k hk).2)
end

abbrev sortV (k : Nat) : Value := .agg #[.string ⟨(sortName k).toArray⟩, .int .i64 (sortMask k : Int)]

set_option maxRecDepth 100000 in
theorem sorted_any (w : World) (k : Nat) (hN : Srt w) (hk : k < 256) :
    Calls Tryd.prog 27 #[.int .u8 k] w fun e w' => e = .returned (sortV k) ∧ Below w.heap.size w w' := by
  have hal := (Below.refl w.heap.size w).alloc (Nat.le_refl _) (.cells #[.string ⟨#[]⟩, .int .i64 0] 66)
  have hNx := hN.below hal (Nat.le_refl _)
  obtain ⟨nm, hnm⟩ : ∃ nm : ByteArray, nm = ⟨(sortName k).toArray⟩ := ⟨_, rfl⟩
  obtain ⟨mk, hmk⟩ : ∃ mk, mk = sortMask k := ⟨_, rfl⟩
  unfold sortV
  rw [← hnm, ← hmk]
  have Hn := Lib.hid hnm
  have Hm := Lib.hid hmk
  clear hnm hmk
  by_cases h : k < 23
  · go_enter Tryd.func27, Tryd.ntmps27
    go_wp2_with (first | (with_reducible refine stop_index_sort ?_) | ((with_reducible apply wpList_unguard); rfl) | (with_reducible refine stop_make ?_) | ((with_reducible apply len_B); assumption) | ((with_reducible apply len_BB); assumption)  | ((with_reducible apply len_N); assumption) | ((with_reducible apply len_V); assumption) | ((with_reducible apply len_VV); assumption) | ((with_reducible apply len_P); assumption) | ((with_reducible apply len_O); assumption) | ((with_reducible apply len_H); assumption)  | (with_reducible refine stop_builtin ?_) | (with_reducible refine stop_slice ?_) | (with_reducible refine stop_index_B ?_) | (with_reducible refine stop_index_BB ?_)  | (with_reducible refine stop_index_N ?_) | (with_reducible refine stop_index_V ?_) | (with_reducible refine stop_index_VV ?_) | (with_reducible refine stop_index_P ?_) | (with_reducible refine stop_index_O ?_) | (with_reducible refine stop_index_H ?_)  | (with_reducible refine stop_str_B ?_) | (with_reducible refine stop_mark_B ?_) | (with_reducible refine stop_buildSlice ?_))
    refine Stop.go (idx_sort hNx rfl h fun c0 c1 => ?_)
    rw [← Hn.out] at c0
    rw [← Hm.out] at c1
    go_wp2_with (first | (with_reducible refine stop_index_sort ?_) | ((with_reducible apply wpList_unguard); rfl) | (with_reducible refine stop_make ?_) | ((with_reducible apply len_B); assumption) | ((with_reducible apply len_BB); assumption)  | ((with_reducible apply len_N); assumption) | ((with_reducible apply len_V); assumption) | ((with_reducible apply len_VV); assumption) | ((with_reducible apply len_P); assumption) | ((with_reducible apply len_O); assumption) | ((with_reducible apply len_H); assumption)  | (with_reducible refine stop_builtin ?_) | (with_reducible refine stop_slice ?_) | (with_reducible refine stop_index_B ?_) | (with_reducible refine stop_index_BB ?_)  | (with_reducible refine stop_index_N ?_) | (with_reducible refine stop_index_V ?_) | (with_reducible refine stop_index_VV ?_) | (with_reducible refine stop_index_P ?_) | (with_reducible refine stop_index_O ?_) | (with_reducible refine stop_index_H ?_)  | (with_reducible refine stop_str_B ?_) | (with_reducible refine stop_mark_B ?_) | (with_reducible refine stop_buildSlice ?_))
    have hw2 := Below.refl w.heap.size w
    refine bodyPost_ret (results_cell_row rfl _ _ w.heap.size _ _ _ _ rfl (heap_alloc_new w _) Tryd.underlying66 rfl (by kernel_rfl)) rfl ?_
    exact ⟨rfl, hw2.alloc (Nat.le_refl _) _⟩
  · have e : sortAt k = ([], 0, []) := sortAt_far k (by omega)
    have e1 : nm = ⟨#[]⟩ := by rw [Hn.out, sortName, e]
    have e2 : mk = 0 := by rw [Hm.out, sortMask, e]
    subst e1
    subst e2
    go_enter Tryd.func27, Tryd.ntmps27
    go_wp2_with (first | (with_reducible refine stop_index_sort ?_) | ((with_reducible apply wpList_unguard); rfl) | (with_reducible refine stop_make ?_) | ((with_reducible apply len_B); assumption) | ((with_reducible apply len_BB); assumption)  | ((with_reducible apply len_N); assumption) | ((with_reducible apply len_V); assumption) | ((with_reducible apply len_VV); assumption) | ((with_reducible apply len_P); assumption) | ((with_reducible apply len_O); assumption) | ((with_reducible apply len_H); assumption)  | (with_reducible refine stop_builtin ?_) | (with_reducible refine stop_slice ?_) | (with_reducible refine stop_index_B ?_) | (with_reducible refine stop_index_BB ?_)  | (with_reducible refine stop_index_N ?_) | (with_reducible refine stop_index_V ?_) | (with_reducible refine stop_index_VV ?_) | (with_reducible refine stop_index_P ?_) | (with_reducible refine stop_index_O ?_) | (with_reducible refine stop_index_H ?_)  | (with_reducible refine stop_str_B ?_) | (with_reducible refine stop_mark_B ?_) | (with_reducible refine stop_buildSlice ?_))
    refine bodyPost_ret (results_cell_row rfl _ _ w.heap.size _ _ _ _ rfl (heap_alloc_new w _) Tryd.underlying66 rfl (by kernel_rfl)) rfl ?_
    exact ⟨rfl, hal⟩

theorem sort_field0 (nm : ByteArray) (m : Nat) : ∀ w : World, (Instr.field 66 (.agg #[.string nm, .int .i64 (m : Int)]) 0).run Tryd.prog w = .ok (.string nm) w := fun _ => by kernel_rfl
theorem sort_field1 (nm : ByteArray) (m : Nat) : ∀ w : World, (Instr.field 66 (.agg #[.string nm, .int .i64 (m : Int)]) 1).run Tryd.prog w = .ok (.int .i64 (m : Int)) w := fun _ => by kernel_rfl

set_option maxRecDepth 100000 in
theorem nname_any (w : World) (k : Nat) (hN : Srt w) (hk : k < 256) :
    Calls Tryd.prog 16 #[.int .u8 k] w fun e w' => e = .returned (.string ⟨(sortName k).toArray⟩) ∧ Below w.heap.size w w' := by
  have hc := sorted_any w k hN hk
  obtain ⟨nm, hnm⟩ : ∃ nm : ByteArray, nm = ⟨(sortName k).toArray⟩ := ⟨_, rfl⟩
  unfold sortV at hc
  rw [← hnm] at hc ⊢
  clear hnm
  go_enter Tryd.func16, Tryd.ntmps16
  go_wp2_with (first | (with_reducible refine stop_index_sort ?_) | ((with_reducible apply wpList_unguard); rfl) | (with_reducible refine stop_make ?_) | ((with_reducible apply len_B); assumption) | ((with_reducible apply len_BB); assumption)  | ((with_reducible apply len_N); assumption) | ((with_reducible apply len_V); assumption) | ((with_reducible apply len_VV); assumption) | ((with_reducible apply len_P); assumption) | ((with_reducible apply len_O); assumption) | ((with_reducible apply len_H); assumption)  | (with_reducible refine stop_builtin ?_) | (with_reducible refine stop_slice ?_) | (with_reducible refine stop_index_B ?_) | (with_reducible refine stop_index_BB ?_)  | (with_reducible refine stop_index_N ?_) | (with_reducible refine stop_index_V ?_) | (with_reducible refine stop_index_VV ?_) | (with_reducible refine stop_index_P ?_) | (with_reducible refine stop_index_O ?_) | (with_reducible refine stop_index_H ?_)  | (with_reducible refine stop_str_B ?_) | (with_reducible refine stop_mark_B ?_) | (with_reducible refine stop_buildSlice ?_))
  refine hc.mono ?_
  rintro e w1 ⟨rfl, hb⟩
  have hfd := sort_field0 nm (sortMask k)
  go_wp2_with (first | (with_reducible refine stop_index_sort ?_) | ((with_reducible apply wpList_unguard); rfl) | (with_reducible refine stop_make ?_) | ((with_reducible apply len_B); assumption) | ((with_reducible apply len_BB); assumption)  | ((with_reducible apply len_N); assumption) | ((with_reducible apply len_V); assumption) | ((with_reducible apply len_VV); assumption) | ((with_reducible apply len_P); assumption) | ((with_reducible apply len_O); assumption) | ((with_reducible apply len_H); assumption)  | (with_reducible refine stop_builtin ?_) | (with_reducible refine stop_slice ?_) | (with_reducible refine stop_index_B ?_) | (with_reducible refine stop_index_BB ?_)  | (with_reducible refine stop_index_N ?_) | (with_reducible refine stop_index_V ?_) | (with_reducible refine stop_index_VV ?_) | (with_reducible refine stop_index_P ?_) | (with_reducible refine stop_index_O ?_) | (with_reducible refine stop_index_H ?_)  | (with_reducible refine stop_str_B ?_) | (with_reducible refine stop_mark_B ?_) | (with_reducible refine stop_buildSlice ?_))
  go_ret
  exact ⟨rfl, hb⟩

set_option maxRecDepth 100000 in
theorem rname_any (w : World) (k : Nat) (hk : k < 256) :
    Calls Tryd.prog 11 #[.int .u8 k] w fun e w' => e = .returned (.tuple #[.string ⟨(sortName k).toArray⟩, .string ⟨(sortLets k).toArray⟩]) ∧ w = w' := by
  by_cases h : 1 ≤ k ∧ k < 23
  · obtain ⟨h1, h2⟩ := h
    rcases (show k = 1 ∨ k = 2 ∨ k = 3 ∨ k = 4 ∨ k = 5 ∨ k = 6 ∨ k = 7 ∨ k = 8 ∨ k = 9 ∨ k = 10 ∨ k = 11 ∨ k = 12 ∨ k = 13 ∨ k = 14 ∨ k = 15 ∨ k = 16 ∨ k = 17 ∨ k = 18 ∨ k = 19 ∨ k = 20 ∨ k = 21 ∨ k = 22 by omega) with rfl | rfl | rfl | rfl | rfl | rfl | rfl | rfl | rfl | rfl | rfl | rfl | rfl | rfl | rfl | rfl | rfl | rfl | rfl | rfl | rfl | rfl
    all_goals
      go_enter Tryd.func11, Tryd.ntmps11
      go_wp2_with (first | (with_reducible refine stop_index_sort ?_) | ((with_reducible apply wpList_unguard); rfl) | (with_reducible refine stop_make ?_) | ((with_reducible apply len_B); assumption) | ((with_reducible apply len_BB); assumption)  | ((with_reducible apply len_N); assumption) | ((with_reducible apply len_V); assumption) | ((with_reducible apply len_VV); assumption) | ((with_reducible apply len_P); assumption) | ((with_reducible apply len_O); assumption) | ((with_reducible apply len_H); assumption)  | (with_reducible refine stop_builtin ?_) | (with_reducible refine stop_slice ?_) | (with_reducible refine stop_index_B ?_) | (with_reducible refine stop_index_BB ?_)  | (with_reducible refine stop_index_N ?_) | (with_reducible refine stop_index_V ?_) | (with_reducible refine stop_index_VV ?_) | (with_reducible refine stop_index_P ?_) | (with_reducible refine stop_index_O ?_) | (with_reducible refine stop_index_H ?_)  | (with_reducible refine stop_str_B ?_) | (with_reducible refine stop_mark_B ?_) | (with_reducible refine stop_buildSlice ?_))
      go_ret2
      exact ⟨rfl, rfl⟩
  · have e1 : sortName k = [] := by
      by_cases h0 : k = 0
      · subst h0; rfl
      · rw [sortName, sortAt_far k (by omega)]
    have e2 : sortLets k = [] := by
      by_cases h0 : k = 0
      · subst h0; rfl
      · rw [sortLets, sortAt_far k (by omega)]
    rw [e1, e2]
    have n1 : ((k : Int) == 1) = false := beq_eq_false_iff_ne.2 (by omega)
    have n2 : ((k : Int) == 2) = false := beq_eq_false_iff_ne.2 (by omega)
    have n3 : ((k : Int) == 3) = false := beq_eq_false_iff_ne.2 (by omega)
    have n4 : ((k : Int) == 4) = false := beq_eq_false_iff_ne.2 (by omega)
    have n5 : ((k : Int) == 5) = false := beq_eq_false_iff_ne.2 (by omega)
    have n6 : ((k : Int) == 6) = false := beq_eq_false_iff_ne.2 (by omega)
    have n7 : ((k : Int) == 7) = false := beq_eq_false_iff_ne.2 (by omega)
    have n8 : ((k : Int) == 8) = false := beq_eq_false_iff_ne.2 (by omega)
    have n9 : ((k : Int) == 9) = false := beq_eq_false_iff_ne.2 (by omega)
    have n10 : ((k : Int) == 10) = false := beq_eq_false_iff_ne.2 (by omega)
    have n11 : ((k : Int) == 11) = false := beq_eq_false_iff_ne.2 (by omega)
    have n12 : ((k : Int) == 12) = false := beq_eq_false_iff_ne.2 (by omega)
    have n13 : ((k : Int) == 13) = false := beq_eq_false_iff_ne.2 (by omega)
    have n14 : ((k : Int) == 14) = false := beq_eq_false_iff_ne.2 (by omega)
    have n15 : ((k : Int) == 15) = false := beq_eq_false_iff_ne.2 (by omega)
    have n16 : ((k : Int) == 16) = false := beq_eq_false_iff_ne.2 (by omega)
    have n17 : ((k : Int) == 17) = false := beq_eq_false_iff_ne.2 (by omega)
    have n18 : ((k : Int) == 18) = false := beq_eq_false_iff_ne.2 (by omega)
    have n19 : ((k : Int) == 19) = false := beq_eq_false_iff_ne.2 (by omega)
    have n20 : ((k : Int) == 20) = false := beq_eq_false_iff_ne.2 (by omega)
    have n21 : ((k : Int) == 21) = false := beq_eq_false_iff_ne.2 (by omega)
    have n22 : ((k : Int) == 22) = false := beq_eq_false_iff_ne.2 (by omega)
    go_enter Tryd.func11, Tryd.ntmps11
    go_wp2_with (first | (with_reducible refine stop_index_sort ?_) | ((with_reducible apply wpList_unguard); rfl) | (with_reducible refine stop_make ?_) | ((with_reducible apply len_B); assumption) | ((with_reducible apply len_BB); assumption)  | ((with_reducible apply len_N); assumption) | ((with_reducible apply len_V); assumption) | ((with_reducible apply len_VV); assumption) | ((with_reducible apply len_P); assumption) | ((with_reducible apply len_O); assumption) | ((with_reducible apply len_H); assumption)  | (with_reducible refine stop_builtin ?_) | (with_reducible refine stop_slice ?_) | (with_reducible refine stop_index_B ?_) | (with_reducible refine stop_index_BB ?_)  | (with_reducible refine stop_index_N ?_) | (with_reducible refine stop_index_V ?_) | (with_reducible refine stop_index_VV ?_) | (with_reducible refine stop_index_P ?_) | (with_reducible refine stop_index_O ?_) | (with_reducible refine stop_index_H ?_)  | (with_reducible refine stop_str_B ?_) | (with_reducible refine stop_mark_B ?_) | (with_reducible refine stop_buildSlice ?_))
    go_ret2
    exact ⟨rfl, rfl⟩
end Go.Proofs.YtnkbfelnggompaaDoor
