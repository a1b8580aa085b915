/- package seal: the contracts. -/
import Derived.Test.YtnkbfelnggompaaDoorRefSeal
import Derived.Test.YtnkbfelnggompaaDoorJoin
import Derived.Test.YtnkbfelnggompaaDoorClone
namespace Go.Proofs.YtnkbfelnggompaaDoor
open Go Go.RowKit Go.Arm

/-- The table of four bits lies as its initialiser lays it. -/
def Nib (w : World) : Prop := ∀ i, i < 16 → w.cell? ⟨1, i, none⟩ = some (.int .u32 ((nib i).toNat : Int))

theorem Nib.lt {w : World} (h : Nib w) : 1 < w.heap.size := World.block_lt_of_cell? w _ (h 0 (by decide))
theorem Nib.below {w w' : World} (h : Nib w) {B : Nat} (hb : Below B w w') (hB : w.heap.size ≤ B) : Nib w' := fun i hi => by
  rw [hb.cell (by have := h.lt; show 1 < B; omega)]; exact h i hi
theorem Nib.drew {w : World} (h : Nib w) : Nib w.drew := h
theorem Nib.drewN {w : World} (h : Nib w) (n : Nat) : Nib (w.drewN n) := h
theorem Nib.grown {w w' : World} {row : Option Nat} (h : Nib w) (hg : w.grownBy w' row) (hr : row ≠ some 1) : Nib w' := fun i hi => by
  rw [World.cell?_of_block (w := w) (hg.block _ h.lt (fun e => hr e.symm))]; exact h i hi

section
variable {ops : Array Oper} {Q : Exit → Act → World → Prop} {a : Act} {w : World} {rest : List Oper}
variable {dst : Option Tmp} {ty : TypeId} {pos : String} {after : Array Edge}
theorem stop_index_nib {x i : Operand} (h : Stop (wpList Tryd.prog ops Q (⟨dst, .indexAddr 143 x i, ty, pos, after, none⟩ :: rest) a w) .mk) : wpList Tryd.prog ops Q (⟨dst, .indexAddr 143 x i, ty, pos, after, none⟩ :: rest) a w := h
set_option maxRecDepth 100000 in
theorem idx_nib {Q : Exit → Act → World → Prop} {i : Operand} (hN : Nib w) {c : BitVec 32} (hi : a.eval i = .int .u32 (bits .and .u32 (c.toNat : Int) 15))
    (h : w.cell? ⟨1, c.toNat % 16, none⟩ = some (.int .u32 ((nib (c.toNat % 16)).toNat : Int)) → wpList Tryd.prog ops Q rest (a.put dst (.pointer (some ⟨1, c.toNat % 16, none⟩))) w) :
    wpList Tryd.prog ops Q (⟨dst, .indexAddr 143 (.global 1) i, ty, pos, after, none⟩ :: rest) a w := by
  have hc : bits .and .u32 (c.toNat : Int) 15 = ((c.toNat % 16 : Nat) : Int) := by
    have := and32 c.toNat 15 c.isLt (by omega)
    rw [show (15 : Nat) = 2 ^ 4 - 1 from rfl, Nat.and_two_pow_sub_one_eq_mod] at this
    exact this
  rw [hc] at hi
  have hlt : c.toNat % 16 < 16 := Nat.mod_lt _ (by decide)
  generalize c.toNat % 16 = m at *
  refine wpList_plain rfl fun K hK => ?_
  have hrun : (Instr.indexAt 143 (.pointer (some ⟨1, 0, none⟩)) (.int .u32 (m : Int))).run Tryd.prog w = .ok (.pointer (some ⟨1, m, none⟩)) w := by
    rw [run_indexAt_array (P := Tryd.prog) w 143 ⟨1, 0, none⟩ .u32 m (by kernel_rfl), if_pos ⟨by omega, by show (m : Int) < ((16 : Nat) : Int); omega⟩]
    simp [go_sem]
  unfold Oper.wp
  simp only [execOp, hi, BigFrame.eval_global, Sem.run_bind, hrun, Result.andThen_ok, Sem.run_pure]
  exact hK _ _ (h (hN m hlt))
end

set_option maxRecDepth 100000 in
/-- Sum -/
theorem ssum_any (w : World) (S : Nat → Prop) (ll : List (List UInt8)) (p : Value) (hN : Nib w) (hp : Sl w S ll p) :
    Calls Tryd.prog 77 #[p] w fun e w' => e = .returned (.int .u32 ((sum ll.flatten).toNat : Int)) ∧ w = w' := by
  have hm := hp.length_le
  unfold maxLen at hm
  go_enter Tryd.func77, Tryd.ntmps77
  go_wp2_with (first | ((with_reducible apply wpList_unguard); rfl) | (with_reducible refine stop_index_nib ?_) | ((with_reducible apply len_B); assumption) | ((with_reducible apply len_BB); assumption)  | (with_reducible refine stop_builtin ?_) | (with_reducible refine stop_slice ?_) | (with_reducible refine stop_index_B ?_) | (with_reducible refine stop_index_BB ?_)  | (with_reducible refine stop_str_B ?_) | (with_reducible refine stop_mark_B ?_) | (with_reducible refine stop_buildSlice ?_))
  go_loop [3, 10] (fun c i => ∃ k : Nat, k ≤ ll.length ∧ i = .int .i64 k ∧ c = .int .u32 ((sumFrom 0xffffffff#32 (ll.take k).flatten).toNat : Int)) (fun _ i => ll.length - (intOf i).toNat)
  case atStart => exact ⟨0, Nat.zero_le _, rfl, rfl⟩
  case round =>
    obtain ⟨k, hk, rfl, rfl⟩ := hrel
    by_cases hlt : k < ll.length
    · go_wp2_with (first | ((with_reducible apply wpList_unguard); rfl) | (with_reducible refine stop_index_nib ?_) | ((with_reducible apply len_B); assumption) | ((with_reducible apply len_BB); assumption)  | (with_reducible refine stop_builtin ?_) | (with_reducible refine stop_slice ?_) | (with_reducible refine stop_index_B ?_) | (with_reducible refine stop_index_BB ?_)  | (with_reducible refine stop_str_B ?_) | (with_reducible refine stop_mark_B ?_) | (with_reducible refine stop_buildSlice ?_))
      refine Stop.go (idx_BB hp rfl (by omega) (by omega) fun b o l q hy hq hc => ?_)
      have hm2 := hq.length_le
      unfold maxLen at hm2
      have Hy := Lib.hid hy
      clear hy
      obtain ⟨c0, hc0⟩ : ∃ c0, c0 = sumFrom 0xffffffff#32 (ll.take k).flatten := ⟨_, rfl⟩
      rw [← hc0]
      have Hc0 := Lib.hid hc0
      clear hc0
      go_wp2_with (first | ((with_reducible apply wpList_unguard); rfl) | (with_reducible refine stop_index_nib ?_) | ((with_reducible apply len_B); assumption) | ((with_reducible apply len_BB); assumption)  | (with_reducible refine stop_builtin ?_) | (with_reducible refine stop_slice ?_) | (with_reducible refine stop_index_B ?_) | (with_reducible refine stop_index_BB ?_)  | (with_reducible refine stop_str_B ?_) | (with_reducible refine stop_mark_B ?_) | (with_reducible refine stop_buildSlice ?_))
      go_loop [3, 16] (fun d i => ∃ j : Nat, j ≤ l.length ∧ i = .int .i64 j ∧ d = .int .u32 ((sumFrom c0 (l.take j)).toNat : Int)) (fun _ i => l.length - (intOf i).toNat)
      case atStart => exact ⟨0, Nat.zero_le _, rfl, rfl⟩
      case round =>
        obtain ⟨j, hj, rfl, rfl⟩ := hrel
        by_cases hlt2 : j < l.length
        · obtain ⟨c1, hc1⟩ : ∃ c1, c1 = sumFrom c0 (l.take j) := ⟨_, rfl⟩
          rw [← hc1]
          have Hc1 := Lib.hid hc1
          clear hc1
          go_wp2_with (first | ((with_reducible apply wpList_unguard); rfl) | (with_reducible refine stop_index_nib ?_) | ((with_reducible apply len_B); assumption) | ((with_reducible apply len_BB); assumption)  | (with_reducible refine stop_builtin ?_) | (with_reducible refine stop_slice ?_) | (with_reducible refine stop_index_B ?_) | (with_reducible refine stop_index_BB ?_)  | (with_reducible refine stop_str_B ?_) | (with_reducible refine stop_mark_B ?_) | (with_reducible refine stop_buildSlice ?_))
          refine Stop.go (idx_B hq rfl (by omega) (by omega) fun b' o' y hy2 hc2 => ?_)
          have Hy2 := Lib.hid hy2
          clear hy2
          go_wp2_with (first | ((with_reducible apply wpList_unguard); rfl) | (with_reducible refine stop_index_nib ?_) | ((with_reducible apply len_B); assumption) | ((with_reducible apply len_BB); assumption)  | (with_reducible refine stop_builtin ?_) | (with_reducible refine stop_slice ?_) | (with_reducible refine stop_index_B ?_) | (with_reducible refine stop_index_BB ?_)  | (with_reducible refine stop_str_B ?_) | (with_reducible refine stop_mark_B ?_) | (with_reducible refine stop_buildSlice ?_))
          rw [mix_byte]
          obtain ⟨c2, hc2'⟩ : ∃ c2, c2 = c1 ^^^ BitVec.ofNat 32 y.toNat := ⟨_, rfl⟩
          rw [← hc2']
          have Hc2 := Lib.hid hc2'
          clear hc2'
          refine Stop.go (idx_nib hN rfl fun hcell => ?_)
          go_wp2_with (first | ((with_reducible apply wpList_unguard); rfl) | (with_reducible refine stop_index_nib ?_) | ((with_reducible apply len_B); assumption) | ((with_reducible apply len_BB); assumption)  | (with_reducible refine stop_builtin ?_) | (with_reducible refine stop_slice ?_) | (with_reducible refine stop_index_B ?_) | (with_reducible refine stop_index_BB ?_)  | (with_reducible refine stop_str_B ?_) | (with_reducible refine stop_mark_B ?_) | (with_reducible refine stop_buildSlice ?_))
          rw [nib_walk]
          obtain ⟨c3, hc3'⟩ : ∃ c3, c3 = nibStep c2 := ⟨_, rfl⟩
          rw [← hc3']
          have Hc3 := Lib.hid hc3'
          clear hc3'
          refine Stop.go (idx_nib hN rfl fun hcell2 => ?_)
          go_wp2_with (first | ((with_reducible apply wpList_unguard); rfl) | (with_reducible refine stop_index_nib ?_) | ((with_reducible apply len_B); assumption) | ((with_reducible apply len_BB); assumption)  | (with_reducible refine stop_builtin ?_) | (with_reducible refine stop_slice ?_) | (with_reducible refine stop_index_B ?_) | (with_reducible refine stop_index_BB ?_)  | (with_reducible refine stop_str_B ?_) | (with_reducible refine stop_mark_B ?_) | (with_reducible refine stop_buildSlice ?_))
          go_round
          case rel =>
            refine ⟨j + 1, by omega, by go_num, ?_⟩
            rw [nib_walk, take_snoc l j y (by simpa using Hy2.out), sumFrom_snoc, ← Hc1.out, ← step_nib, ← Hc2.out, ← Hc3.out]
          case measure => simp [intOf]; omega
        · go_wp2_with (first | ((with_reducible apply wpList_unguard); rfl) | (with_reducible refine stop_index_nib ?_) | ((with_reducible apply len_B); assumption) | ((with_reducible apply len_BB); assumption)  | (with_reducible refine stop_builtin ?_) | (with_reducible refine stop_slice ?_) | (with_reducible refine stop_index_B ?_) | (with_reducible refine stop_index_BB ?_)  | (with_reducible refine stop_str_B ?_) | (with_reducible refine stop_mark_B ?_) | (with_reducible refine stop_buildSlice ?_))
          go_round
          case rel =>
            refine ⟨k + 1, by omega, by go_num, ?_⟩
            rw [take_snoc ll k l (by simpa using Hy.out), List.flatten_append, sumFrom_append, ← Hc0.out, List.take_of_length_le (by omega)]
            simp
          case measure => simp [intOf]; omega
    · have hsg : IntKind.u32.signed = false := rfl
      go_wp2_with (first | ((with_reducible apply wpList_unguard); rfl) | (with_reducible refine stop_index_nib ?_) | ((with_reducible apply len_B); assumption) | ((with_reducible apply len_BB); assumption)  | (with_reducible refine stop_builtin ?_) | (with_reducible refine stop_slice ?_) | (with_reducible refine stop_index_B ?_) | (with_reducible refine stop_index_BB ?_)  | (with_reducible refine stop_str_B ?_) | (with_reducible refine stop_mark_B ?_) | (with_reducible refine stop_buildSlice ?_))
      go_ret
      refine ⟨?_, rfl⟩
      rw [List.take_of_length_le (by omega), not_toNat']; rfl

/-- Frame, too long -/
theorem sframe_long (w : World) (S : Nat → Prop) (ll : List (List UInt8)) (p : Value) (hp : Sl w S ll p) (hl : ll.length ≤ 1000000) (hf : ll.flatten.length ≤ 1099511627776) (hbig : 4096 < ll.flatten.length) :
    Calls Tryd.prog 55 #[p] w fun e w' => e = .returned (.tuple #[.slice none 0 0, .int .i64 3]) ∧ Below w.heap.size w w' := by
  go_enter Tryd.func55, Tryd.ntmps55
  go_wp2_with (first | ((with_reducible apply wpList_unguard); rfl) | ((with_reducible apply len_B); assumption) | ((with_reducible apply len_BB); assumption)  | (with_reducible refine stop_builtin ?_) | (with_reducible refine stop_slice ?_) | (with_reducible refine stop_index_B ?_) | (with_reducible refine stop_index_BB ?_)  | (with_reducible refine stop_str_B ?_) | (with_reducible refine stop_mark_B ?_) | (with_reducible refine stop_buildSlice ?_))
  refine (join_any w S ll p hp hl hf).mono ?_
  rintro e w1 ⟨v, rfl, hv, hb⟩
  have hvs := hv.sl'
  generalize ll.flatten = l at *
  go_wp2_with (first | ((with_reducible apply wpList_unguard); rfl) | ((with_reducible apply len_B); assumption) | ((with_reducible apply len_BB); assumption)  | (with_reducible refine stop_builtin ?_) | (with_reducible refine stop_slice ?_) | (with_reducible refine stop_index_B ?_) | (with_reducible refine stop_index_BB ?_)  | (with_reducible refine stop_str_B ?_) | (with_reducible refine stop_mark_B ?_) | (with_reducible refine stop_buildSlice ?_))
  go_ret2
  exact ⟨rfl, hb⟩

set_option maxRecDepth 100000 in
/-- Frame -/
theorem sframe_any (w : World) (S : Nat → Prop) (ll : List (List UInt8)) (p : Value) (hN : Nib w) (hp : Sl w S ll p) (hl : ll.length ≤ 1000000) (hf : ll.flatten.length ≤ 4096) :
    Calls Tryd.prog 55 #[p] w fun e w' => ∃ v, e = .returned (.tuple #[v, .int .i64 0]) ∧ OwnB w' w.heap.size (frame ll.flatten) v ∧ Below w.heap.size w w' := by
  have hj := join_any w S ll p hp hl (by omega)
  generalize ll.flatten = l at *
  have Hj := Lib.hid hj
  clear hj
  go_enter Tryd.func55, Tryd.ntmps55
  go_wp2_with (first | ((with_reducible apply wpList_unguard); rfl) | ((with_reducible apply len_B); assumption) | ((with_reducible apply len_BB); assumption)  | (with_reducible refine stop_builtin ?_) | (with_reducible refine stop_slice ?_) | (with_reducible refine stop_index_B ?_) | (with_reducible refine stop_index_BB ?_)  | (with_reducible refine stop_str_B ?_) | (with_reducible refine stop_mark_B ?_) | (with_reducible refine stop_buildSlice ?_))
  refine Hj.out.mono ?_
  rintro e w1 ⟨v, rfl, hv, hb⟩
  have hs1 := hb.size
  have hvs : Sl w1 (fun b => w.heap.size ≤ b) l v := hv.sl'
  have hN1 := hN.below hb (Nat.le_refl _)
  go_wp2_with (first | ((with_reducible apply wpList_unguard); rfl) | ((with_reducible apply len_B); assumption) | ((with_reducible apply len_BB); assumption)  | (with_reducible refine stop_builtin ?_) | (with_reducible refine stop_slice ?_) | (with_reducible refine stop_index_B ?_) | (with_reducible refine stop_index_BB ?_)  | (with_reducible refine stop_str_B ?_) | (with_reducible refine stop_mark_B ?_) | (with_reducible refine stop_buildSlice ?_))
  refine Stop.go (build_B (low l.length 2) [.int .u8 (↑l.length % 256), .int .u8 (↑l.length / 256)] rfl rfl ?_ (by simp [low]) fun u w2 h1 h2 h3 h4 => ?_)
  · simp [low]; omega
  have hvs2 := hvs.grown0 h2
  have h1s : Sl w2 (fun b => w.heap.size ≤ b) (low l.length 2) u := h1.sl'.wide (fun b h _ => by omega)
  have hb2 := hb.grown0 h2 hs1
  have hs2 := h2.size
  have hN2 := hN1.grown h2 (by simp)
  go_wp2_with (first | ((with_reducible apply wpList_unguard); rfl) | ((with_reducible apply len_B); assumption) | ((with_reducible apply len_BB); assumption)  | (with_reducible refine stop_builtin ?_) | (with_reducible refine stop_slice ?_) | (with_reducible refine stop_index_B ?_) | (with_reducible refine stop_index_BB ?_)  | (with_reducible refine stop_str_B ?_) | (with_reducible refine stop_mark_B ?_) | (with_reducible refine stop_buildSlice ?_))
  refine Stop.go (build_BB (S := fun b => w.heap.size ≤ b) [low l.length 2, l] [u, v] rfl rfl (rds_cons h1s (rds_cons hvs2 rds_nil)) (by simp) fun q w3 g1 g2 g3 g4 => ?_)
  have hvs3 := hvs2.grown0 g2
  have h1s3 := h1s.grown0 g2
  have hb3 := hb2.grown0 g2 (by omega)
  have hN3 := hN2.grown g2 (by simp)
  have hs3 := g2.size
  go_wp2_with (first | ((with_reducible apply wpList_unguard); rfl) | ((with_reducible apply len_B); assumption) | ((with_reducible apply len_BB); assumption)  | (with_reducible refine stop_builtin ?_) | (with_reducible refine stop_slice ?_) | (with_reducible refine stop_index_B ?_) | (with_reducible refine stop_index_BB ?_)  | (with_reducible refine stop_str_B ?_) | (with_reducible refine stop_mark_B ?_) | (with_reducible refine stop_buildSlice ?_))
  refine (ssum_any w3 _ _ q hN3 g1.slGe).mono ?_
  rintro e w4 ⟨rfl, rfl⟩
  rw [show [low l.length 2, l].flatten = framed l by simp [framed]]
  obtain ⟨c, hc⟩ : ∃ c, c = sum (framed l) := ⟨_, rfl⟩
  rw [← hc]
  have Hc := Lib.hid hc
  clear hc
  have hcl := c.isLt
  go_wp2_with (first | ((with_reducible apply wpList_unguard); rfl) | ((with_reducible apply len_B); assumption) | ((with_reducible apply len_BB); assumption)  | (with_reducible refine stop_builtin ?_) | (with_reducible refine stop_slice ?_) | (with_reducible refine stop_index_B ?_) | (with_reducible refine stop_index_BB ?_)  | (with_reducible refine stop_str_B ?_) | (with_reducible refine stop_mark_B ?_) | (with_reducible refine stop_buildSlice ?_))
  refine Stop.go (build_B (low c.toNat 4) [.int .u8 (↑c.toNat % 256), .int .u8 (↑c.toNat / 256 % 256), .int .u8 (↑c.toNat / 65536 % 256), .int .u8 (↑c.toNat / 16777216)] rfl rfl ?_ (by simp [low]) fun r w4 k1 k2 k3 k4 => ?_)
  · simp [low]; omega
  have hs4 := k2.size
  have hvs4 := hvs3.grown0 k2
  have h1s4 := h1s3.grown0 k2
  have k1s : Sl w4 (fun b => w.heap.size ≤ b) (low c.toNat 4) r := k1.sl'.wide (fun b h _ => by omega)
  have hb4 := hb3.grown0 k2 (by omega)
  go_wp2_with (first | ((with_reducible apply wpList_unguard); rfl) | ((with_reducible apply len_B); assumption) | ((with_reducible apply len_BB); assumption)  | (with_reducible refine stop_builtin ?_) | (with_reducible refine stop_slice ?_) | (with_reducible refine stop_index_B ?_) | (with_reducible refine stop_index_BB ?_)  | (with_reducible refine stop_str_B ?_) | (with_reducible refine stop_mark_B ?_) | (with_reducible refine stop_buildSlice ?_))
  refine Stop.go (build_BB (S := fun b => w.heap.size ≤ b) [low c.toNat 4, low l.length 2, l] [r, u, v] rfl rfl (rds_cons k1s (rds_cons h1s4 (rds_cons hvs4 rds_nil))) (by simp) fun q2 w5 m1 m2 m3 m4 => ?_)
  have hs5 := m2.size
  have hb5 := hb4.grown0 m2 (by omega)
  have hfl : [low c.toNat 4, low l.length 2, l].flatten = frame l := by rw [frame, ← Hc.out]; simp [framed]
  have hfr : (frame l).length = l.length + 6 := by simp [frame, framed, low_len]; omega
  go_wp2_with (first | ((with_reducible apply wpList_unguard); rfl) | ((with_reducible apply len_B); assumption) | ((with_reducible apply len_BB); assumption)  | (with_reducible refine stop_builtin ?_) | (with_reducible refine stop_slice ?_) | (with_reducible refine stop_index_B ?_) | (with_reducible refine stop_index_BB ?_)  | (with_reducible refine stop_str_B ?_) | (with_reducible refine stop_mark_B ?_) | (with_reducible refine stop_buildSlice ?_))
  refine (join_any w5 _ _ q2 m1.slGe (by simp) (by rw [hfl]; omega)).mono ?_
  rintro e w6 ⟨v6, rfl, hv6, hb6⟩
  rw [hfl] at hv6
  have hs6 := hb6.size
  go_wp2_with (first | ((with_reducible apply wpList_unguard); rfl) | ((with_reducible apply len_B); assumption) | ((with_reducible apply len_BB); assumption)  | (with_reducible refine stop_builtin ?_) | (with_reducible refine stop_slice ?_) | (with_reducible refine stop_index_B ?_) | (with_reducible refine stop_index_BB ?_)  | (with_reducible refine stop_str_B ?_) | (with_reducible refine stop_mark_B ?_) | (with_reducible refine stop_buildSlice ?_))
  go_ret2
  exact ⟨v6, rfl, hv6.rebase (fun b hb => by have := (hv6.ge b hb).1; omega), hb5.trans (hb6.mono (by omega))⟩

end Go.Proofs.YtnkbfelnggompaaDoor
