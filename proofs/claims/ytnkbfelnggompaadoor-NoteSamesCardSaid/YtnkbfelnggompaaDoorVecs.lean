/- armillaryref02: CutVec, SameVec. -/
import Derived.Test.YtnkbfelnggompaaDoorReader4
namespace Go.Arm
open Go.RowKit

/-- &x[i] in whatever world, as an equation for the walk; an element of one cell. -/
theorem Sl.index_run1 {α : Type} [Rep α] {P : Program} {w : World} {t e : TypeId} {z : Value} {bytes : Nat} {S : Nat → Prop} {l : List α} {v : Value} (hx : Sl w S l v) (hr : Row P t e z 1 bytes) (h1 : Rep.sz α = 1)
    (k : IntKind) (n : Int) (h0 : 0 ≤ n) (hn : n < l.length) :
    ∃ b o y u, l[n.toNat]? = some y ∧ Rep.rd w S y [u] ∧ (∀ w', (Instr.indexAt t v (.int k n)).run P w' = .ok (.pointer (some ⟨b, o, none⟩)) w') ∧ w.cell? ⟨b, o, none⟩ = some u := by
  obtain ⟨ao, cap, cs, rfl, hcap, _, hnone, hcs, _, hloc⟩ := hx
  have he : P.elem t = e := by simp [Program.elem, hr.1]
  have hlt : n.toNat < l.length := by omega
  obtain ⟨y, hy⟩ : ∃ y, l[n.toNat]? = some y := ⟨_, List.getElem?_eq_getElem hlt⟩
  obtain ⟨c, hc1, hc2⟩ := rds_get n.toNat hcs hy
  have hlen := Rep.len hc1
  rw [h1] at hlen
  obtain ⟨u, rfl⟩ : ∃ u, c = [u] := by
    match c, hlen with
    | [u], _ => exact ⟨u, rfl⟩
  have hcu := hc2 0 u rfl
  rw [h1, Nat.mul_one, Nat.add_zero] at hcu
  cases ao with
  | none => have := hnone rfl; omega
  | some ad =>
    have hcell := hloc ad rfl n.toNat u hcu
    have hspot : ∃ b o, ad.add n.toNat = ⟨b, o, none⟩ := by
      generalize ad.add n.toNat = q at hcell
      obtain ⟨b, o, sp⟩ := q
      cases sp with
      | none => exact ⟨b, o, rfl⟩
      | some s =>
        exfalso
        unfold World.cell? at hcell
        split at hcell <;> simp at hcell
    obtain ⟨b, o, hq⟩ := hspot
    rw [hq] at hcell
    refine ⟨b, o, _, _, hy, hc1, fun w' => ?_, hcell⟩
    have hrun := run_indexAt_slice (P := P) w' t ad l.length cap k n (by rw [he]; exact hr.1)
    rw [if_pos ⟨h0, hn⟩, he, run_sizeOf_row hr] at hrun
    simp only [Result.andThen, Nat.mul_one, hq] at hrun
    exact hrun
end Go.Arm
namespace Go.Proofs.YtnkbfelnggompaaDoor
open Go Go.RowKit Go.Arm

/-- CutVec -/
theorem cutvec_any (w : World) (S : Nat → Prop) (l : List Int32) (p : Value) (n : Int) (hp : Sl w S l p) (hn : 0 ≤ n) (hn2 : n ≤ 1000000) :
    Calls Tryd.prog 32 #[p, .int .i64 n] w fun e w' => ∃ v, e = .returned v ∧ Own w' w.heap.size 21 (fun _ => False) (l.take n.toNat) v ∧ Below w.heap.size w w' := by
  have hl : l.length ≤ 9223372036854775807 := hp.length_le
  go_enter Tryd.func32, Tryd.ntmps32
  go_wp2_with (first | ((with_reducible apply wpList_unguard); rfl) | (with_reducible refine stop_make ?_) | ((with_reducible apply len_B); assumption) | ((with_reducible apply len_BB); assumption)  | ((with_reducible apply len_N); assumption) | ((with_reducible apply len_V); assumption) | ((with_reducible apply len_VV); assumption)  | (with_reducible refine stop_builtin ?_) | (with_reducible refine stop_slice ?_) | (with_reducible refine stop_index_B ?_) | (with_reducible refine stop_index_BB ?_)  | (with_reducible refine stop_index_N ?_) | (with_reducible refine stop_index_V ?_) | (with_reducible refine stop_index_VV ?_)  | (with_reducible refine stop_str_B ?_) | (with_reducible refine stop_mark_B ?_) | (with_reducible refine stop_buildSlice ?_))
  refine Stop.go (build_V (S := fun _ => False) ([] : List Int32) [] rfl rfl rds_V (by simp) fun v w1 hv1 k2 k3 k4 => ?_)
  have hb0 := below_of_grown k2 (Nat.le_refl _) (by simp)
  have hp1 := hp.grown0 k2
  go_wp2_with (first | ((with_reducible apply wpList_unguard); rfl) | (with_reducible refine stop_make ?_) | ((with_reducible apply len_B); assumption) | ((with_reducible apply len_BB); assumption)  | ((with_reducible apply len_N); assumption) | ((with_reducible apply len_V); assumption) | ((with_reducible apply len_VV); assumption)  | (with_reducible refine stop_builtin ?_) | (with_reducible refine stop_slice ?_) | (with_reducible refine stop_index_B ?_) | (with_reducible refine stop_index_BB ?_)  | (with_reducible refine stop_index_N ?_) | (with_reducible refine stop_index_V ?_) | (with_reducible refine stop_index_VV ?_)  | (with_reducible refine stop_str_B ?_) | (with_reducible refine stop_mark_B ?_) | (with_reducible refine stop_buildSlice ?_))
  refine Stop.go (min2 rfl rfl ?_)
  go_wp2_with (first | ((with_reducible apply wpList_unguard); rfl) | (with_reducible refine stop_make ?_) | ((with_reducible apply len_B); assumption) | ((with_reducible apply len_BB); assumption)  | ((with_reducible apply len_N); assumption) | ((with_reducible apply len_V); assumption) | ((with_reducible apply len_VV); assumption)  | (with_reducible refine stop_builtin ?_) | (with_reducible refine stop_slice ?_) | (with_reducible refine stop_index_B ?_) | (with_reducible refine stop_index_BB ?_)  | (with_reducible refine stop_index_N ?_) | (with_reducible refine stop_index_V ?_) | (with_reducible refine stop_index_VV ?_)  | (with_reducible refine stop_str_B ?_) | (with_reducible refine stop_mark_B ?_) | (with_reducible refine stop_buildSlice ?_))
  refine Stop.go (wpList_slice_h rowV hp1 rfl (by omega) (by omega) fun u hu => ?_)
  go_wp2_with (first | ((with_reducible apply wpList_unguard); rfl) | (with_reducible refine stop_make ?_) | ((with_reducible apply len_B); assumption) | ((with_reducible apply len_BB); assumption)  | ((with_reducible apply len_N); assumption) | ((with_reducible apply len_V); assumption) | ((with_reducible apply len_VV); assumption)  | (with_reducible refine stop_builtin ?_) | (with_reducible refine stop_slice ?_) | (with_reducible refine stop_index_B ?_) | (with_reducible refine stop_index_BB ?_)  | (with_reducible refine stop_index_N ?_) | (with_reducible refine stop_index_V ?_) | (with_reducible refine stop_index_VV ?_)  | (with_reducible refine stop_str_B ?_) | (with_reducible refine stop_mark_B ?_) | (with_reducible refine stop_buildSlice ?_))
  refine Stop.go (app_V (l := []) hv1 hu (by simp; omega) hb0.size fun v' w2 h1 h2 h3 => ?_)
  have hb1 := hb0.grown h2 hb0.size (fun k hk => (hv1.ge k hk).1)
  go_wp2_with (first | ((with_reducible apply wpList_unguard); rfl) | (with_reducible refine stop_make ?_) | ((with_reducible apply len_B); assumption) | ((with_reducible apply len_BB); assumption)  | ((with_reducible apply len_N); assumption) | ((with_reducible apply len_V); assumption) | ((with_reducible apply len_VV); assumption)  | (with_reducible refine stop_builtin ?_) | (with_reducible refine stop_slice ?_) | (with_reducible refine stop_index_B ?_) | (with_reducible refine stop_index_BB ?_)  | (with_reducible refine stop_index_N ?_) | (with_reducible refine stop_index_V ?_) | (with_reducible refine stop_index_VV ?_)  | (with_reducible refine stop_str_B ?_) | (with_reducible refine stop_mark_B ?_) | (with_reducible refine stop_buildSlice ?_))
  go_ret
  refine ⟨v', rfl, ?_, hb1⟩
  have e : l.take (min (l.length : Int) n).toNat = l.take n.toNat := by
    rw [List.take_eq_take_iff]; omega
  rw [e] at h1
  simpa using h1

theorem same_take (l m : List Int32) (j : Nat) (h : l.length = m.length) (hj : l.length ≤ j) (he : l.take j = m.take j) : l = m := by
  rwa [List.take_of_length_le hj, List.take_of_length_le (by omega)] at he

theorem drewN_twice (w : World) (n : Nat) : ∀ k, (w.drewN n).drewN k = w.drewN (n + k)
  | 0 => rfl
  | k + 1 => by
    have := drewN_twice w n k
    show ((w.drewN n).drewN k).drew = (w.drewN (n + k)).drew
    rw [this]

/-- SameVec -/
theorem samevec_any (w : World) (S S' : Nat → Prop) (l m : List Int32) (p q : Value) (hp : Sl w S l p) (hq : Sl w S' m q) :
    Calls Tryd.prog 40 #[p, q] w fun e w' => ∃ nq, e = .returned (.bool (l == m)) ∧ w' = w.drewN nq := by
  have hll : l.length ≤ 9223372036854775807 := hp.length_le
  by_cases hlen : l.length = m.length
  · obtain ⟨R, hR⟩ : ∃ R, R = (l == m) := ⟨_, rfl⟩
    rw [← hR]
    have HR := Lib.hid hR
    clear hR
    have hne : ((l.length : Int) != (m.length : Int)) = false := by simp [hlen]
    have Hlen := Lib.hid hlen
    clear hlen
    go_enter Tryd.func40, Tryd.ntmps40
    go_wp2_with (first | ((with_reducible apply wpList_unguard); rfl) | (with_reducible refine stop_make ?_) | ((with_reducible apply len_B); assumption) | ((with_reducible apply len_BB); assumption)  | ((with_reducible apply len_N); assumption) | ((with_reducible apply len_V); assumption) | ((with_reducible apply len_VV); assumption)  | (with_reducible refine stop_builtin ?_) | (with_reducible refine stop_slice ?_) | (with_reducible refine stop_index_B ?_) | (with_reducible refine stop_index_BB ?_)  | (with_reducible refine stop_index_N ?_) | (with_reducible refine stop_index_V ?_) | (with_reducible refine stop_index_VV ?_)  | (with_reducible refine stop_str_B ?_) | (with_reducible refine stop_mark_B ?_) | (with_reducible refine stop_buildSlice ?_))
    go_loopg [5, 13] (l.length + 1) (fun k x i wr => ∃ (j n : Nat), k = l.length - j + 1 ∧ j ≤ l.length ∧ i = .int .i64 j ∧ wr = w.drewN n ∧ l.take j = m.take j)
    case atStart => exact ⟨0, 0, by omega, by omega, rfl, rfl, by simp⟩
    case round =>
      obtain ⟨j, n, hk, hj, rfl, hwr, htk⟩ := hrel
      have hp' : Sl wr S l p := by rw [hwr]; exact hp.drewN n
      have hq' : Sl wr S' m q := by rw [hwr]; exact hq.drewN n
      have Hwr := Lib.hid hwr
      clear hwr
      have Hk := Lib.hid hk
      have Htk := Lib.hid htk
      clear hk htk
      by_cases hlt : j < l.length
      · have hjm : j < m.length := by rw [← Hlen.out]; exact hlt
        obtain ⟨b1, o1, y1, x1, hy1, hr1, hx1, hc1⟩ := hp'.index_run1 (P := Tryd.prog) rowV rfl .i64 j (by omega) (by omega)
        obtain ⟨b3, o3, y3, x3, hy3, hr3, hx3, hc3⟩ := hq'.index_run1 (P := Tryd.prog) rowV rfl .i64 j (by omega) (by omega)
        have e1 : [x1] = [Value.int .i32 y1.toInt] := hr1
        have e3 : [x3] = [Value.int .i32 y3.toInt] := hr3
        simp only [List.cons.injEq, and_true] at e1 e3
        subst e1
        subst e3
        have Hy1 := Lib.hid hy1
        have Hy3 := Lib.hid hy3
        clear hr1 hr3 hy1 hy3
        by_cases hyy : y1 = y3
        · subst hyy
          go_wp2_with (first | ((with_reducible apply wpList_unguard); rfl) | (with_reducible refine stop_make ?_) | ((with_reducible apply len_B); assumption) | ((with_reducible apply len_BB); assumption)  | ((with_reducible apply len_N); assumption) | ((with_reducible apply len_V); assumption) | ((with_reducible apply len_VV); assumption)  | (with_reducible refine stop_builtin ?_) | (with_reducible refine stop_slice ?_) | (with_reducible refine stop_index_B ?_) | (with_reducible refine stop_index_BB ?_)  | (with_reducible refine stop_index_N ?_) | (with_reducible refine stop_index_V ?_) | (with_reducible refine stop_index_VV ?_)  | (with_reducible refine stop_str_B ?_) | (with_reducible refine stop_mark_B ?_) | (with_reducible refine stop_buildSlice ?_))
          go_quiet (fail)
          go_wp2_with (first | ((with_reducible apply wpList_unguard); rfl) | (with_reducible refine stop_make ?_) | ((with_reducible apply len_B); assumption) | ((with_reducible apply len_BB); assumption)  | ((with_reducible apply len_N); assumption) | ((with_reducible apply len_V); assumption) | ((with_reducible apply len_VV); assumption)  | (with_reducible refine stop_builtin ?_) | (with_reducible refine stop_slice ?_) | (with_reducible refine stop_index_B ?_) | (with_reducible refine stop_index_BB ?_)  | (with_reducible refine stop_index_N ?_) | (with_reducible refine stop_index_V ?_) | (with_reducible refine stop_index_VV ?_)  | (with_reducible refine stop_str_B ?_) | (with_reducible refine stop_mark_B ?_) | (with_reducible refine stop_buildSlice ?_))
          go_roundg (l.length - (j + 1) + 1)
          case measure => have := Hk.out; omega
          case rel =>
            refine ⟨j + 1, n + nq, rfl, by omega, rfl, by rw [Hwr.out, drewN_twice], ?_⟩
            rw [take_snoc l j y1 (by simpa using Hy1.out), take_snoc m j y1 (by simpa using Hy3.out), Htk.out]
        · have hyb : (y1.toInt != y3.toInt) = true := by
            rw [bne_iff_ne]
            exact fun e => hyy (Int32.toInt_inj.1 e)
          go_wp2_with (first | ((with_reducible apply wpList_unguard); rfl) | (with_reducible refine stop_make ?_) | ((with_reducible apply len_B); assumption) | ((with_reducible apply len_BB); assumption)  | ((with_reducible apply len_N); assumption) | ((with_reducible apply len_V); assumption) | ((with_reducible apply len_VV); assumption)  | (with_reducible refine stop_builtin ?_) | (with_reducible refine stop_slice ?_) | (with_reducible refine stop_index_B ?_) | (with_reducible refine stop_index_BB ?_)  | (with_reducible refine stop_index_N ?_) | (with_reducible refine stop_index_V ?_) | (with_reducible refine stop_index_VV ?_)  | (with_reducible refine stop_str_B ?_) | (with_reducible refine stop_mark_B ?_) | (with_reducible refine stop_buildSlice ?_))
          go_quiet (fail)
          go_wp2_with (first | ((with_reducible apply wpList_unguard); rfl) | (with_reducible refine stop_make ?_) | ((with_reducible apply len_B); assumption) | ((with_reducible apply len_BB); assumption)  | ((with_reducible apply len_N); assumption) | ((with_reducible apply len_V); assumption) | ((with_reducible apply len_VV); assumption)  | (with_reducible refine stop_builtin ?_) | (with_reducible refine stop_slice ?_) | (with_reducible refine stop_index_B ?_) | (with_reducible refine stop_index_BB ?_)  | (with_reducible refine stop_index_N ?_) | (with_reducible refine stop_index_V ?_) | (with_reducible refine stop_index_VV ?_)  | (with_reducible refine stop_str_B ?_) | (with_reducible refine stop_mark_B ?_) | (with_reducible refine stop_buildSlice ?_))
          go_ret
          have e : (l == m) = false := by
            rw [beq_eq_false_iff_ne]
            rintro rfl
            have := Hy1.out.symm.trans Hy3.out
            exact hyy (Option.some.inj this)
          rw [HR.out, e]
          exact ⟨n + nq, rfl, by rw [Hwr.out, drewN_twice]⟩
      · go_wp2_with (first | ((with_reducible apply wpList_unguard); rfl) | (with_reducible refine stop_make ?_) | ((with_reducible apply len_B); assumption) | ((with_reducible apply len_BB); assumption)  | ((with_reducible apply len_N); assumption) | ((with_reducible apply len_V); assumption) | ((with_reducible apply len_VV); assumption)  | (with_reducible refine stop_builtin ?_) | (with_reducible refine stop_slice ?_) | (with_reducible refine stop_index_B ?_) | (with_reducible refine stop_index_BB ?_)  | (with_reducible refine stop_index_N ?_) | (with_reducible refine stop_index_V ?_) | (with_reducible refine stop_index_VV ?_)  | (with_reducible refine stop_str_B ?_) | (with_reducible refine stop_mark_B ?_) | (with_reducible refine stop_buildSlice ?_))
        go_ret
        have e : (l == m) = true := by
          rw [beq_iff_eq]
          exact same_take l m j Hlen.out (by omega) Htk.out
        rw [HR.out, e]
        exact ⟨n, rfl, Hwr.out⟩
  · have hne : ((l.length : Int) != (m.length : Int)) = true := by rw [bne_iff_ne]; omega
    have e : (l == m) = false := by
      rw [beq_eq_false_iff_ne]
      rintro rfl
      exact hlen rfl
    rw [e]
    go_enter Tryd.func40, Tryd.ntmps40
    go_wp2_with (first | ((with_reducible apply wpList_unguard); rfl) | (with_reducible refine stop_make ?_) | ((with_reducible apply len_B); assumption) | ((with_reducible apply len_BB); assumption)  | ((with_reducible apply len_N); assumption) | ((with_reducible apply len_V); assumption) | ((with_reducible apply len_VV); assumption)  | (with_reducible refine stop_builtin ?_) | (with_reducible refine stop_slice ?_) | (with_reducible refine stop_index_B ?_) | (with_reducible refine stop_index_BB ?_)  | (with_reducible refine stop_index_N ?_) | (with_reducible refine stop_index_V ?_) | (with_reducible refine stop_index_VV ?_)  | (with_reducible refine stop_str_B ?_) | (with_reducible refine stop_mark_B ?_) | (with_reducible refine stop_buildSlice ?_))
    go_ret
    exact ⟨0, rfl, rfl⟩
end Go.Proofs.YtnkbfelnggompaaDoor
