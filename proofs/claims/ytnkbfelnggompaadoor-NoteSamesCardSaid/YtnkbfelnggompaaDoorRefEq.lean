/- armillaryref03: SameOps, SameHits; the reference's note in a block of its own. -/
import Derived.Test.YtnkbfelnggompaaDoorNoteEq
namespace Go.Arm
open Go.RowKit
/-- &x[i] in whatever world, as an equation for the walk. -/
theorem Sl.index_runR {α : Type} [Rep α] {P : Program} {w : World} {t e : TypeId} {z : Value} {bytes : Nat} {S : Nat → Prop} {l : List α} {v : Value} (hx : Sl w S l v) (hr : Row P t e z (Rep.sz α) bytes) (hsz : 0 < Rep.sz α)
    (k : IntKind) (n : Int) (h0 : 0 ≤ n) (hn : n < l.length) :
    ∃ b o y cs, l[n.toNat]? = some y ∧ Rep.rd w S y cs ∧ (∀ w', (Instr.indexAt t v (.int k n)).run P w' = .ok (.pointer (some ⟨b, o, none⟩)) w') ∧ ∀ j u, cs[j]? = some u → w.cell? ⟨b, o + j, none⟩ = some u := by
  obtain ⟨ao, cap, cs, rfl, _, _, hnone, hcs, _, hloc⟩ := hx
  have hlt : n.toNat < l.length := by omega
  obtain ⟨y, hy⟩ : ∃ y, l[n.toNat]? = some y := ⟨_, List.getElem?_eq_getElem hlt⟩
  obtain ⟨c, hc1, hc2⟩ := rds_get n.toNat hcs hy
  have hlen := Rep.len hc1
  obtain ⟨u0, hu0⟩ : ∃ u, c[0]? = some u := ⟨_, List.getElem?_eq_getElem (by omega)⟩
  cases ao with
  | none => have := hnone rfl; omega
  | some ad =>
    have f0 := hloc ad rfl _ _ (hc2 0 _ hu0)
    have hspot : ∃ b o, ad.add (n.toNat * Rep.sz α) = ⟨b, o, none⟩ := by
      rw [Nat.add_zero] at f0
      generalize ad.add (n.toNat * Rep.sz α) = q at f0
      obtain ⟨b, o, sp⟩ := q
      cases sp with
      | none => exact ⟨b, o, rfl⟩
      | some s =>
        exfalso
        unfold World.cell? at f0
        split at f0 <;> simp at f0
    obtain ⟨b, o, hq⟩ := hspot
    have he : P.elem t = e := by simp [Program.elem, hr.1]
    refine ⟨b, o, y, c, hy, hc1, fun w' => ?_, fun j u hu => ?_⟩
    · have hrun := run_indexAt_slice (P := P) w' t ad l.length cap k n (by rw [he]; exact hr.1)
      rw [if_pos ⟨h0, hn⟩, he, run_sizeOf_row hr] at hrun
      simp only [Result.andThen, hq] at hrun
      exact hrun
    · have := hloc ad rfl _ _ (hc2 j u hu)
      rwa [← add_add2, hq, add_lit] at this
end Go.Arm
namespace Go.Proofs.YtnkbfelnggompaaDoor
open Go Go.RowKit Go.Arm
theorem quiet_vec {w : World} {n : Nat} {S S' : Nat → Prop} {l m : List Int32} {p q : Value} (hp : Sl (w.drewN n) S l p) (hq : Sl (w.drewN n) S' m q) :
    Calls Tryd.prog 40 #[p, q] (w.drewN n) fun e w'' => e = .returned (.bool (l == m)) ∧ ∃ k, w'' = w.drewN k :=
  (samevec_any _ _ _ _ _ _ _ hp hq).mono fun _ _ ⟨nq, he, hw⟩ => ⟨he, n + nq, by rw [hw, drewN_twice]⟩
theorem quiet_vecB {w : World} {n : Nat} {S S' : Nat → Prop} {l m : List Int32} {p q : Value} {b : Bool} (hb : (l == m) = b) (hp : Sl (w.drewN n) S l p) (hq : Sl (w.drewN n) S' m q) :
    Calls Tryd.prog 40 #[p, q] (w.drewN n) fun e w'' => e = .returned (.bool b) ∧ ∃ k, w'' = w.drewN k := hb ▸ quiet_vec hp hq

set_option maxHeartbeats 4000000 in
set_option maxRecDepth 100000 in
theorem rsameO_any (w : World) (S S' : Nat → Prop) (l m : List OpR) (p q : Value) (hp : Sl w S l p) (hq : Sl w S' m q) :
    Calls Tryd.prog 39 #[p, q] w fun e w' => ∃ nq, e = .returned (.bool (l == m)) ∧ w' = w.drewN nq := by
  have hll : l.length ≤ 9223372036854775807 := hp.length_le
  by_cases hlen : l.length = m.length
  · obtain ⟨R, hR⟩ : ∃ R, R = (l == m) := ⟨_, rfl⟩
    rw [← hR]
    have HR := Lib.hid hR
    clear hR
    have hne : ((l.length : Int) != (m.length : Int)) = false := by simp [hlen]
    have Hlen := Lib.hid hlen
    clear hlen
    go_enter Tryd.func39, Tryd.ntmps39
    go_wp2_with (first | ((with_reducible apply wpList_unguard); rfl) | (with_reducible refine stop_make ?_) | ((with_reducible apply len_B); assumption) | ((with_reducible apply len_BB); assumption)  | ((with_reducible apply len_N); assumption) | ((with_reducible apply len_V); assumption) | ((with_reducible apply len_VV); assumption) | ((with_reducible apply len_P); assumption) | ((with_reducible apply len_O); assumption) | ((with_reducible apply len_H); assumption)  | (with_reducible refine stop_builtin ?_) | (with_reducible refine stop_slice ?_) | (with_reducible refine stop_index_B ?_) | (with_reducible refine stop_index_BB ?_)  | (with_reducible refine stop_index_N ?_) | (with_reducible refine stop_index_V ?_) | (with_reducible refine stop_index_VV ?_) | (with_reducible refine stop_index_P ?_) | (with_reducible refine stop_index_O ?_) | (with_reducible refine stop_index_H ?_)  | (with_reducible refine stop_str_B ?_) | (with_reducible refine stop_mark_B ?_) | (with_reducible refine stop_buildSlice ?_))
    go_loopg [5, 13] (l.length + 1) (fun k x i wr => ∃ (j n : Nat), k = l.length - j + 1 ∧ j ≤ l.length ∧ i = .int .i64 j ∧ wr = w.drewN n ∧ l.take j = m.take j)
    case atStart => exact ⟨0, 0, by omega, by omega, rfl, rfl, by simp⟩
    case round =>
      obtain ⟨j, n, hk, hj, rfl, hwr, htk⟩ := hrel
      have hp' : Sl wr S l p := by rw [hwr]; exact hp.drewN n
      have hq' : Sl wr S' m q := by rw [hwr]; exact hq.drewN n
      have Hwr := Lib.hid hwr
      clear hwr
      have Hk := Lib.hid hk
      have Htk := Lib.hid htk
      clear hk htk
      by_cases hlt : j < l.length
      · have hjm : j < m.length := by rw [← Hlen.out]; exact hlt
        obtain ⟨b1, o1, x, cx, hx, hrx, runx, hcx⟩ := hp'.index_runR (P := Tryd.prog) rowO (by decide) .i64 j (by omega) (by omega)
        obtain ⟨b2, o2, y, cy, hy, hry, runy, hcy⟩ := hq'.index_runR (P := Tryd.prog) rowO (by decide) .i64 j (by omega) (by omega)
        obtain ⟨xv, rfl, svx⟩ := hrx
        have x0 := hcx 0 _ rfl
        have x1 := hcx 1 _ rfl
        obtain ⟨xa, xn, xc, rfl⟩ := Sl.shape svx
        clear hcx
        simp only [Nat.add_zero] at x0
        obtain ⟨yv, rfl, svy⟩ := hry
        have y0 := hcy 0 _ rfl
        have y1 := hcy 1 _ rfl
        obtain ⟨ya, yn, yc, rfl⟩ := Sl.shape svy
        clear hcy
        simp only [Nat.add_zero] at y0
        have Hx := Lib.hid hx
        have Hy := Lib.hid hy
        clear hx hy
        by_cases qid : x.id = y.id
        · have qidb : (((x.id.toNat : Nat) : Int) != ((y.id.toNat : Nat) : Int)) = false := by rw [qid]; simp
          have Qid := Lib.hid qid
          clear qid
          by_cases qv : x.vec = y.vec
          · have hvb : (x.vec == y.vec) = true := by rw [qv]; simp
            have QV := Lib.hid qv
            clear qv
            go_wp2_with (first | ((with_reducible apply wpList_unguard); rfl) | (with_reducible refine stop_make ?_) | ((with_reducible apply len_B); assumption) | ((with_reducible apply len_BB); assumption)  | ((with_reducible apply len_N); assumption) | ((with_reducible apply len_V); assumption) | ((with_reducible apply len_VV); assumption) | ((with_reducible apply len_P); assumption) | ((with_reducible apply len_O); assumption) | ((with_reducible apply len_H); assumption)  | (with_reducible refine stop_builtin ?_) | (with_reducible refine stop_slice ?_) | (with_reducible refine stop_index_B ?_) | (with_reducible refine stop_index_BB ?_)  | (with_reducible refine stop_index_N ?_) | (with_reducible refine stop_index_V ?_) | (with_reducible refine stop_index_VV ?_) | (with_reducible refine stop_index_P ?_) | (with_reducible refine stop_index_O ?_) | (with_reducible refine stop_index_H ?_)  | (with_reducible refine stop_str_B ?_) | (with_reducible refine stop_mark_B ?_) | (with_reducible refine stop_buildSlice ?_))
            go_quiet (first | (go_at_call 40; exact quiet_vecB hvb (svx.drewN _) (svy.drewN _)))
            go_wp2_with (first | ((with_reducible apply wpList_unguard); rfl) | (with_reducible refine stop_make ?_) | ((with_reducible apply len_B); assumption) | ((with_reducible apply len_BB); assumption)  | ((with_reducible apply len_N); assumption) | ((with_reducible apply len_V); assumption) | ((with_reducible apply len_VV); assumption) | ((with_reducible apply len_P); assumption) | ((with_reducible apply len_O); assumption) | ((with_reducible apply len_H); assumption)  | (with_reducible refine stop_builtin ?_) | (with_reducible refine stop_slice ?_) | (with_reducible refine stop_index_B ?_) | (with_reducible refine stop_index_BB ?_)  | (with_reducible refine stop_index_N ?_) | (with_reducible refine stop_index_V ?_) | (with_reducible refine stop_index_VV ?_) | (with_reducible refine stop_index_P ?_) | (with_reducible refine stop_index_O ?_) | (with_reducible refine stop_index_H ?_)  | (with_reducible refine stop_str_B ?_) | (with_reducible refine stop_mark_B ?_) | (with_reducible refine stop_buildSlice ?_))
            go_roundg (l.length - (j + 1) + 1)
            case measure => have := Hk.out; omega
            case rel =>
              have hxy : x = y := by
                have qv := QV.out
                have q_id := Qid.out
                clear Hx Hy svx svy hvb HR Htk QV Qid qidb x0 y0 
                cases x; cases y
                simp_all
              refine ⟨j + 1, n + nq, rfl, by omega, rfl, by rw [Hwr.out, drewN_twice], ?_⟩
              rw [take_snocG l j x (by simpa using Hx.out), take_snocG m j y (by simpa using Hy.out), Htk.out, hxy]
          · have hvb : (x.vec == y.vec) = false := by rw [beq_eq_false_iff_ne]; exact qv
            have QV := Lib.hid qv
            clear qv
            go_wp2_with (first | ((with_reducible apply wpList_unguard); rfl) | (with_reducible refine stop_make ?_) | ((with_reducible apply len_B); assumption) | ((with_reducible apply len_BB); assumption)  | ((with_reducible apply len_N); assumption) | ((with_reducible apply len_V); assumption) | ((with_reducible apply len_VV); assumption) | ((with_reducible apply len_P); assumption) | ((with_reducible apply len_O); assumption) | ((with_reducible apply len_H); assumption)  | (with_reducible refine stop_builtin ?_) | (with_reducible refine stop_slice ?_) | (with_reducible refine stop_index_B ?_) | (with_reducible refine stop_index_BB ?_)  | (with_reducible refine stop_index_N ?_) | (with_reducible refine stop_index_V ?_) | (with_reducible refine stop_index_VV ?_) | (with_reducible refine stop_index_P ?_) | (with_reducible refine stop_index_O ?_) | (with_reducible refine stop_index_H ?_)  | (with_reducible refine stop_str_B ?_) | (with_reducible refine stop_mark_B ?_) | (with_reducible refine stop_buildSlice ?_))
            go_quiet (first | (go_at_call 40; exact quiet_vecB hvb (svx.drewN _) (svy.drewN _)))
            go_wp2_with (first | ((with_reducible apply wpList_unguard); rfl) | (with_reducible refine stop_make ?_) | ((with_reducible apply len_B); assumption) | ((with_reducible apply len_BB); assumption)  | ((with_reducible apply len_N); assumption) | ((with_reducible apply len_V); assumption) | ((with_reducible apply len_VV); assumption) | ((with_reducible apply len_P); assumption) | ((with_reducible apply len_O); assumption) | ((with_reducible apply len_H); assumption)  | (with_reducible refine stop_builtin ?_) | (with_reducible refine stop_slice ?_) | (with_reducible refine stop_index_B ?_) | (with_reducible refine stop_index_BB ?_)  | (with_reducible refine stop_index_N ?_) | (with_reducible refine stop_index_V ?_) | (with_reducible refine stop_index_VV ?_) | (with_reducible refine stop_index_P ?_) | (with_reducible refine stop_index_O ?_) | (with_reducible refine stop_index_H ?_)  | (with_reducible refine stop_str_B ?_) | (with_reducible refine stop_mark_B ?_) | (with_reducible refine stop_buildSlice ?_))
            go_ret
            have e : (l == m) = false := by
              rw [beq_eq_false_iff_ne]
              rintro rfl
              have := Hx.out.symm.trans Hy.out
              have := Option.some.inj this
              subst this
              exact QV.out rfl
            rw [HR.out, e]
            exact ⟨n + nq, rfl, by rw [Hwr.out, drewN_twice]⟩
        · have qidb : (((x.id.toNat : Nat) : Int) != ((y.id.toNat : Nat) : Int)) = true := by
            rw [bne_iff_ne]
            exact fun h => qid (UInt64.toNat_inj.1 (by omega))
          have Qid := Lib.hid qid
          clear qid
          go_wp2_with (first | ((with_reducible apply wpList_unguard); rfl) | (with_reducible refine stop_make ?_) | ((with_reducible apply len_B); assumption) | ((with_reducible apply len_BB); assumption)  | ((with_reducible apply len_N); assumption) | ((with_reducible apply len_V); assumption) | ((with_reducible apply len_VV); assumption) | ((with_reducible apply len_P); assumption) | ((with_reducible apply len_O); assumption) | ((with_reducible apply len_H); assumption)  | (with_reducible refine stop_builtin ?_) | (with_reducible refine stop_slice ?_) | (with_reducible refine stop_index_B ?_) | (with_reducible refine stop_index_BB ?_)  | (with_reducible refine stop_index_N ?_) | (with_reducible refine stop_index_V ?_) | (with_reducible refine stop_index_VV ?_) | (with_reducible refine stop_index_P ?_) | (with_reducible refine stop_index_O ?_) | (with_reducible refine stop_index_H ?_)  | (with_reducible refine stop_str_B ?_) | (with_reducible refine stop_mark_B ?_) | (with_reducible refine stop_buildSlice ?_))
          go_quiet (fail)
          go_wp2_with (first | ((with_reducible apply wpList_unguard); rfl) | (with_reducible refine stop_make ?_) | ((with_reducible apply len_B); assumption) | ((with_reducible apply len_BB); assumption)  | ((with_reducible apply len_N); assumption) | ((with_reducible apply len_V); assumption) | ((with_reducible apply len_VV); assumption) | ((with_reducible apply len_P); assumption) | ((with_reducible apply len_O); assumption) | ((with_reducible apply len_H); assumption)  | (with_reducible refine stop_builtin ?_) | (with_reducible refine stop_slice ?_) | (with_reducible refine stop_index_B ?_) | (with_reducible refine stop_index_BB ?_)  | (with_reducible refine stop_index_N ?_) | (with_reducible refine stop_index_V ?_) | (with_reducible refine stop_index_VV ?_) | (with_reducible refine stop_index_P ?_) | (with_reducible refine stop_index_O ?_) | (with_reducible refine stop_index_H ?_)  | (with_reducible refine stop_str_B ?_) | (with_reducible refine stop_mark_B ?_) | (with_reducible refine stop_buildSlice ?_))
          go_ret
          have e : (l == m) = false := by
            rw [beq_eq_false_iff_ne]
            rintro rfl
            have := Hx.out.symm.trans Hy.out
            have := Option.some.inj this
            subst this
            exact Qid.out rfl
          rw [HR.out, e]
          exact ⟨n + nq, rfl, by rw [Hwr.out, drewN_twice]⟩
      · go_wp2_with (first | ((with_reducible apply wpList_unguard); rfl) | (with_reducible refine stop_make ?_) | ((with_reducible apply len_B); assumption) | ((with_reducible apply len_BB); assumption)  | ((with_reducible apply len_N); assumption) | ((with_reducible apply len_V); assumption) | ((with_reducible apply len_VV); assumption) | ((with_reducible apply len_P); assumption) | ((with_reducible apply len_O); assumption) | ((with_reducible apply len_H); assumption)  | (with_reducible refine stop_builtin ?_) | (with_reducible refine stop_slice ?_) | (with_reducible refine stop_index_B ?_) | (with_reducible refine stop_index_BB ?_)  | (with_reducible refine stop_index_N ?_) | (with_reducible refine stop_index_V ?_) | (with_reducible refine stop_index_VV ?_) | (with_reducible refine stop_index_P ?_) | (with_reducible refine stop_index_O ?_) | (with_reducible refine stop_index_H ?_)  | (with_reducible refine stop_str_B ?_) | (with_reducible refine stop_mark_B ?_) | (with_reducible refine stop_buildSlice ?_))
        go_ret
        have e : (l == m) = true := by
          rw [beq_iff_eq]
          exact same_takeG l m j Hlen.out (by omega) Htk.out
        rw [HR.out, e]
        exact ⟨n, rfl, Hwr.out⟩
  · have hne : ((l.length : Int) != (m.length : Int)) = true := by rw [bne_iff_ne]; omega
    have e : (l == m) = false := by
      rw [beq_eq_false_iff_ne]
      rintro rfl
      exact hlen rfl
    rw [e]
    go_enter Tryd.func39, Tryd.ntmps39
    go_wp2_with (first | ((with_reducible apply wpList_unguard); rfl) | (with_reducible refine stop_make ?_) | ((with_reducible apply len_B); assumption) | ((with_reducible apply len_BB); assumption)  | ((with_reducible apply len_N); assumption) | ((with_reducible apply len_V); assumption) | ((with_reducible apply len_VV); assumption) | ((with_reducible apply len_P); assumption) | ((with_reducible apply len_O); assumption) | ((with_reducible apply len_H); assumption)  | (with_reducible refine stop_builtin ?_) | (with_reducible refine stop_slice ?_) | (with_reducible refine stop_index_B ?_) | (with_reducible refine stop_index_BB ?_)  | (with_reducible refine stop_index_N ?_) | (with_reducible refine stop_index_V ?_) | (with_reducible refine stop_index_VV ?_) | (with_reducible refine stop_index_P ?_) | (with_reducible refine stop_index_O ?_) | (with_reducible refine stop_index_H ?_)  | (with_reducible refine stop_str_B ?_) | (with_reducible refine stop_mark_B ?_) | (with_reducible refine stop_buildSlice ?_))
    go_ret
    exact ⟨0, rfl, rfl⟩

set_option maxHeartbeats 4000000 in
set_option maxRecDepth 100000 in
theorem rsameH_any (w : World) (S S' : Nat → Prop) (l m : List HitR) (p q : Value) (hp : Sl w S l p) (hq : Sl w S' m q) :
    Calls Tryd.prog 41 #[p, q] w fun e w' => ∃ nq, e = .returned (.bool (l == m)) ∧ w' = w.drewN nq := by
  have hll : l.length ≤ 9223372036854775807 := hp.length_le
  by_cases hlen : l.length = m.length
  · obtain ⟨R, hR⟩ : ∃ R, R = (l == m) := ⟨_, rfl⟩
    rw [← hR]
    have HR := Lib.hid hR
    clear hR
    have hne : ((l.length : Int) != (m.length : Int)) = false := by simp [hlen]
    have Hlen := Lib.hid hlen
    clear hlen
    go_enter Tryd.func41, Tryd.ntmps41
    go_wp2_with (first | ((with_reducible apply wpList_unguard); rfl) | (with_reducible refine stop_make ?_) | ((with_reducible apply len_B); assumption) | ((with_reducible apply len_BB); assumption)  | ((with_reducible apply len_N); assumption) | ((with_reducible apply len_V); assumption) | ((with_reducible apply len_VV); assumption) | ((with_reducible apply len_P); assumption) | ((with_reducible apply len_O); assumption) | ((with_reducible apply len_H); assumption)  | (with_reducible refine stop_builtin ?_) | (with_reducible refine stop_slice ?_) | (with_reducible refine stop_index_B ?_) | (with_reducible refine stop_index_BB ?_)  | (with_reducible refine stop_index_N ?_) | (with_reducible refine stop_index_V ?_) | (with_reducible refine stop_index_VV ?_) | (with_reducible refine stop_index_P ?_) | (with_reducible refine stop_index_O ?_) | (with_reducible refine stop_index_H ?_)  | (with_reducible refine stop_str_B ?_) | (with_reducible refine stop_mark_B ?_) | (with_reducible refine stop_buildSlice ?_))
    go_loopg [5, 13] (l.length + 1) (fun k x i wr => ∃ (j n : Nat), k = l.length - j + 1 ∧ j ≤ l.length ∧ i = .int .i64 j ∧ wr = w.drewN n ∧ l.take j = m.take j)
    case atStart => exact ⟨0, 0, by omega, by omega, rfl, rfl, by simp⟩
    case round =>
      obtain ⟨j, n, hk, hj, rfl, hwr, htk⟩ := hrel
      have hp' : Sl wr S l p := by rw [hwr]; exact hp.drewN n
      have hq' : Sl wr S' m q := by rw [hwr]; exact hq.drewN n
      have Hwr := Lib.hid hwr
      clear hwr
      have Hk := Lib.hid hk
      have Htk := Lib.hid htk
      clear hk htk
      by_cases hlt : j < l.length
      · have hjm : j < m.length := by rw [← Hlen.out]; exact hlt
        obtain ⟨b1, o1, x, cx, hx, hrx, runx, hcx⟩ := hp'.index_runR (P := Tryd.prog) rowH (by decide) .i64 j (by omega) (by omega)
        obtain ⟨b2, o2, y, cy, hy, hry, runy, hcy⟩ := hq'.index_runR (P := Tryd.prog) rowH (by decide) .i64 j (by omega) (by omega)
        obtain ⟨xv, rfl, svx⟩ := hrx
        have x0 := hcx 0 _ rfl
        have x1 := hcx 1 _ rfl
        have x2 := hcx 2 _ rfl
        obtain ⟨xa, xn, xc, rfl⟩ := Sl.shape svx
        clear hcx
        simp only [Nat.add_zero] at x0
        obtain ⟨yv, rfl, svy⟩ := hry
        have y0 := hcy 0 _ rfl
        have y1 := hcy 1 _ rfl
        have y2 := hcy 2 _ rfl
        obtain ⟨ya, yn, yc, rfl⟩ := Sl.shape svy
        clear hcy
        simp only [Nat.add_zero] at y0
        have Hx := Lib.hid hx
        have Hy := Lib.hid hy
        clear hx hy
        by_cases qid : x.id = y.id
        · have qidb : (((x.id.toNat : Nat) : Int) != ((y.id.toNat : Nat) : Int)) = false := by rw [qid]; simp
          have Qid := Lib.hid qid
          clear qid
          by_cases qdist : x.dist = y.dist
          · have qdistb : (((x.dist.toNat : Nat) : Int) != ((y.dist.toNat : Nat) : Int)) = false := by rw [qdist]; simp
            have Qdist := Lib.hid qdist
            clear qdist
            by_cases qv : x.vec = y.vec
            · have hvb : (x.vec == y.vec) = true := by rw [qv]; simp
              have QV := Lib.hid qv
              clear qv
              go_wp2_with (first | ((with_reducible apply wpList_unguard); rfl) | (with_reducible refine stop_make ?_) | ((with_reducible apply len_B); assumption) | ((with_reducible apply len_BB); assumption)  | ((with_reducible apply len_N); assumption) | ((with_reducible apply len_V); assumption) | ((with_reducible apply len_VV); assumption) | ((with_reducible apply len_P); assumption) | ((with_reducible apply len_O); assumption) | ((with_reducible apply len_H); assumption)  | (with_reducible refine stop_builtin ?_) | (with_reducible refine stop_slice ?_) | (with_reducible refine stop_index_B ?_) | (with_reducible refine stop_index_BB ?_)  | (with_reducible refine stop_index_N ?_) | (with_reducible refine stop_index_V ?_) | (with_reducible refine stop_index_VV ?_) | (with_reducible refine stop_index_P ?_) | (with_reducible refine stop_index_O ?_) | (with_reducible refine stop_index_H ?_)  | (with_reducible refine stop_str_B ?_) | (with_reducible refine stop_mark_B ?_) | (with_reducible refine stop_buildSlice ?_))
              go_quiet (first | (go_at_call 40; exact quiet_vecB hvb (svx.drewN _) (svy.drewN _)))
              go_wp2_with (first | ((with_reducible apply wpList_unguard); rfl) | (with_reducible refine stop_make ?_) | ((with_reducible apply len_B); assumption) | ((with_reducible apply len_BB); assumption)  | ((with_reducible apply len_N); assumption) | ((with_reducible apply len_V); assumption) | ((with_reducible apply len_VV); assumption) | ((with_reducible apply len_P); assumption) | ((with_reducible apply len_O); assumption) | ((with_reducible apply len_H); assumption)  | (with_reducible refine stop_builtin ?_) | (with_reducible refine stop_slice ?_) | (with_reducible refine stop_index_B ?_) | (with_reducible refine stop_index_BB ?_)  | (with_reducible refine stop_index_N ?_) | (with_reducible refine stop_index_V ?_) | (with_reducible refine stop_index_VV ?_) | (with_reducible refine stop_index_P ?_) | (with_reducible refine stop_index_O ?_) | (with_reducible refine stop_index_H ?_)  | (with_reducible refine stop_str_B ?_) | (with_reducible refine stop_mark_B ?_) | (with_reducible refine stop_buildSlice ?_))
              go_roundg (l.length - (j + 1) + 1)
              case measure => have := Hk.out; omega
              case rel =>
                have hxy : x = y := by
                  have qv := QV.out
                  have q_id := Qid.out
                  have q_dist := Qdist.out
                  clear Hx Hy svx svy hvb HR Htk QV Qid Qdist qidb qdistb x0 y0 x1 y1 
                  cases x; cases y
                  simp_all
                refine ⟨j + 1, n + nq, rfl, by omega, rfl, by rw [Hwr.out, drewN_twice], ?_⟩
                rw [take_snocG l j x (by simpa using Hx.out), take_snocG m j y (by simpa using Hy.out), Htk.out, hxy]
            · have hvb : (x.vec == y.vec) = false := by rw [beq_eq_false_iff_ne]; exact qv
              have QV := Lib.hid qv
              clear qv
              go_wp2_with (first | ((with_reducible apply wpList_unguard); rfl) | (with_reducible refine stop_make ?_) | ((with_reducible apply len_B); assumption) | ((with_reducible apply len_BB); assumption)  | ((with_reducible apply len_N); assumption) | ((with_reducible apply len_V); assumption) | ((with_reducible apply len_VV); assumption) | ((with_reducible apply len_P); assumption) | ((with_reducible apply len_O); assumption) | ((with_reducible apply len_H); assumption)  | (with_reducible refine stop_builtin ?_) | (with_reducible refine stop_slice ?_) | (with_reducible refine stop_index_B ?_) | (with_reducible refine stop_index_BB ?_)  | (with_reducible refine stop_index_N ?_) | (with_reducible refine stop_index_V ?_) | (with_reducible refine stop_index_VV ?_) | (with_reducible refine stop_index_P ?_) | (with_reducible refine stop_index_O ?_) | (with_reducible refine stop_index_H ?_)  | (with_reducible refine stop_str_B ?_) | (with_reducible refine stop_mark_B ?_) | (with_reducible refine stop_buildSlice ?_))
              go_quiet (first | (go_at_call 40; exact quiet_vecB hvb (svx.drewN _) (svy.drewN _)))
              go_wp2_with (first | ((with_reducible apply wpList_unguard); rfl) | (with_reducible refine stop_make ?_) | ((with_reducible apply len_B); assumption) | ((with_reducible apply len_BB); assumption)  | ((with_reducible apply len_N); assumption) | ((with_reducible apply len_V); assumption) | ((with_reducible apply len_VV); assumption) | ((with_reducible apply len_P); assumption) | ((with_reducible apply len_O); assumption) | ((with_reducible apply len_H); assumption)  | (with_reducible refine stop_builtin ?_) | (with_reducible refine stop_slice ?_) | (with_reducible refine stop_index_B ?_) | (with_reducible refine stop_index_BB ?_)  | (with_reducible refine stop_index_N ?_) | (with_reducible refine stop_index_V ?_) | (with_reducible refine stop_index_VV ?_) | (with_reducible refine stop_index_P ?_) | (with_reducible refine stop_index_O ?_) | (with_reducible refine stop_index_H ?_)  | (with_reducible refine stop_str_B ?_) | (with_reducible refine stop_mark_B ?_) | (with_reducible refine stop_buildSlice ?_))
              go_ret
              have e : (l == m) = false := by
                rw [beq_eq_false_iff_ne]
                rintro rfl
                have := Hx.out.symm.trans Hy.out
                have := Option.some.inj this
                subst this
                exact QV.out rfl
              rw [HR.out, e]
              exact ⟨n + nq, rfl, by rw [Hwr.out, drewN_twice]⟩
          · have qdistb : (((x.dist.toNat : Nat) : Int) != ((y.dist.toNat : Nat) : Int)) = true := by
              rw [bne_iff_ne]
              exact fun h => qdist (UInt64.toNat_inj.1 (by omega))
            have Qdist := Lib.hid qdist
            clear qdist
            go_wp2_with (first | ((with_reducible apply wpList_unguard); rfl) | (with_reducible refine stop_make ?_) | ((with_reducible apply len_B); assumption) | ((with_reducible apply len_BB); assumption)  | ((with_reducible apply len_N); assumption) | ((with_reducible apply len_V); assumption) | ((with_reducible apply len_VV); assumption) | ((with_reducible apply len_P); assumption) | ((with_reducible apply len_O); assumption) | ((with_reducible apply len_H); assumption)  | (with_reducible refine stop_builtin ?_) | (with_reducible refine stop_slice ?_) | (with_reducible refine stop_index_B ?_) | (with_reducible refine stop_index_BB ?_)  | (with_reducible refine stop_index_N ?_) | (with_reducible refine stop_index_V ?_) | (with_reducible refine stop_index_VV ?_) | (with_reducible refine stop_index_P ?_) | (with_reducible refine stop_index_O ?_) | (with_reducible refine stop_index_H ?_)  | (with_reducible refine stop_str_B ?_) | (with_reducible refine stop_mark_B ?_) | (with_reducible refine stop_buildSlice ?_))
            go_quiet (fail)
            go_wp2_with (first | ((with_reducible apply wpList_unguard); rfl) | (with_reducible refine stop_make ?_) | ((with_reducible apply len_B); assumption) | ((with_reducible apply len_BB); assumption)  | ((with_reducible apply len_N); assumption) | ((with_reducible apply len_V); assumption) | ((with_reducible apply len_VV); assumption) | ((with_reducible apply len_P); assumption) | ((with_reducible apply len_O); assumption) | ((with_reducible apply len_H); assumption)  | (with_reducible refine stop_builtin ?_) | (with_reducible refine stop_slice ?_) | (with_reducible refine stop_index_B ?_) | (with_reducible refine stop_index_BB ?_)  | (with_reducible refine stop_index_N ?_) | (with_reducible refine stop_index_V ?_) | (with_reducible refine stop_index_VV ?_) | (with_reducible refine stop_index_P ?_) | (with_reducible refine stop_index_O ?_) | (with_reducible refine stop_index_H ?_)  | (with_reducible refine stop_str_B ?_) | (with_reducible refine stop_mark_B ?_) | (with_reducible refine stop_buildSlice ?_))
            go_ret
            have e : (l == m) = false := by
              rw [beq_eq_false_iff_ne]
              rintro rfl
              have := Hx.out.symm.trans Hy.out
              have := Option.some.inj this
              subst this
              exact Qdist.out rfl
            rw [HR.out, e]
            exact ⟨n + nq, rfl, by rw [Hwr.out, drewN_twice]⟩
        · have qidb : (((x.id.toNat : Nat) : Int) != ((y.id.toNat : Nat) : Int)) = true := by
            rw [bne_iff_ne]
            exact fun h => qid (UInt64.toNat_inj.1 (by omega))
          have Qid := Lib.hid qid
          clear qid
          go_wp2_with (first | ((with_reducible apply wpList_unguard); rfl) | (with_reducible refine stop_make ?_) | ((with_reducible apply len_B); assumption) | ((with_reducible apply len_BB); assumption)  | ((with_reducible apply len_N); assumption) | ((with_reducible apply len_V); assumption) | ((with_reducible apply len_VV); assumption) | ((with_reducible apply len_P); assumption) | ((with_reducible apply len_O); assumption) | ((with_reducible apply len_H); assumption)  | (with_reducible refine stop_builtin ?_) | (with_reducible refine stop_slice ?_) | (with_reducible refine stop_index_B ?_) | (with_reducible refine stop_index_BB ?_)  | (with_reducible refine stop_index_N ?_) | (with_reducible refine stop_index_V ?_) | (with_reducible refine stop_index_VV ?_) | (with_reducible refine stop_index_P ?_) | (with_reducible refine stop_index_O ?_) | (with_reducible refine stop_index_H ?_)  | (with_reducible refine stop_str_B ?_) | (with_reducible refine stop_mark_B ?_) | (with_reducible refine stop_buildSlice ?_))
          go_quiet (fail)
          go_wp2_with (first | ((with_reducible apply wpList_unguard); rfl) | (with_reducible refine stop_make ?_) | ((with_reducible apply len_B); assumption) | ((with_reducible apply len_BB); assumption)  | ((with_reducible apply len_N); assumption) | ((with_reducible apply len_V); assumption) | ((with_reducible apply len_VV); assumption) | ((with_reducible apply len_P); assumption) | ((with_reducible apply len_O); assumption) | ((with_reducible apply len_H); assumption)  | (with_reducible refine stop_builtin ?_) | (with_reducible refine stop_slice ?_) | (with_reducible refine stop_index_B ?_) | (with_reducible refine stop_index_BB ?_)  | (with_reducible refine stop_index_N ?_) | (with_reducible refine stop_index_V ?_) | (with_reducible refine stop_index_VV ?_) | (with_reducible refine stop_index_P ?_) | (with_reducible refine stop_index_O ?_) | (with_reducible refine stop_index_H ?_)  | (with_reducible refine stop_str_B ?_) | (with_reducible refine stop_mark_B ?_) | (with_reducible refine stop_buildSlice ?_))
          go_ret
          have e : (l == m) = false := by
            rw [beq_eq_false_iff_ne]
            rintro rfl
            have := Hx.out.symm.trans Hy.out
            have := Option.some.inj this
            subst this
            exact Qid.out rfl
          rw [HR.out, e]
          exact ⟨n + nq, rfl, by rw [Hwr.out, drewN_twice]⟩
      · go_wp2_with (first | ((with_reducible apply wpList_unguard); rfl) | (with_reducible refine stop_make ?_) | ((with_reducible apply len_B); assumption) | ((with_reducible apply len_BB); assumption)  | ((with_reducible apply len_N); assumption) | ((with_reducible apply len_V); assumption) | ((with_reducible apply len_VV); assumption) | ((with_reducible apply len_P); assumption) | ((with_reducible apply len_O); assumption) | ((with_reducible apply len_H); assumption)  | (with_reducible refine stop_builtin ?_) | (with_reducible refine stop_slice ?_) | (with_reducible refine stop_index_B ?_) | (with_reducible refine stop_index_BB ?_)  | (with_reducible refine stop_index_N ?_) | (with_reducible refine stop_index_V ?_) | (with_reducible refine stop_index_VV ?_) | (with_reducible refine stop_index_P ?_) | (with_reducible refine stop_index_O ?_) | (with_reducible refine stop_index_H ?_)  | (with_reducible refine stop_str_B ?_) | (with_reducible refine stop_mark_B ?_) | (with_reducible refine stop_buildSlice ?_))
        go_ret
        have e : (l == m) = true := by
          rw [beq_iff_eq]
          exact same_takeG l m j Hlen.out (by omega) Htk.out
        rw [HR.out, e]
        exact ⟨n, rfl, Hwr.out⟩
  · have hne : ((l.length : Int) != (m.length : Int)) = true := by rw [bne_iff_ne]; omega
    have e : (l == m) = false := by
      rw [beq_eq_false_iff_ne]
      rintro rfl
      exact hlen rfl
    rw [e]
    go_enter Tryd.func41, Tryd.ntmps41
    go_wp2_with (first | ((with_reducible apply wpList_unguard); rfl) | (with_reducible refine stop_make ?_) | ((with_reducible apply len_B); assumption) | ((with_reducible apply len_BB); assumption)  | ((with_reducible apply len_N); assumption) | ((with_reducible apply len_V); assumption) | ((with_reducible apply len_VV); assumption) | ((with_reducible apply len_P); assumption) | ((with_reducible apply len_O); assumption) | ((with_reducible apply len_H); assumption)  | (with_reducible refine stop_builtin ?_) | (with_reducible refine stop_slice ?_) | (with_reducible refine stop_index_B ?_) | (with_reducible refine stop_index_BB ?_)  | (with_reducible refine stop_index_N ?_) | (with_reducible refine stop_index_V ?_) | (with_reducible refine stop_index_VV ?_) | (with_reducible refine stop_index_P ?_) | (with_reducible refine stop_index_O ?_) | (with_reducible refine stop_index_H ?_)  | (with_reducible refine stop_str_B ?_) | (with_reducible refine stop_mark_B ?_) | (with_reducible refine stop_buildSlice ?_))
    go_ret
    exact ⟨0, rfl, rfl⟩
end Go.Proofs.YtnkbfelnggompaaDoor
