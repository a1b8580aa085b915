/- armillaryref03: Few, Hits. -/
import Derived.Test.YtnkbfelnggompaaDoorNoteFields
import Derived.Test.YtnkbfelnggompaaDoorRefEq
import Derived.Test.YtnkbfelnggompaaDoorPushV
import Derived.Test.YtnkbfelnggompaaDoorStep
import Derived.Deep.RegionHeld3
namespace Go.Arm
open Go.RowKit
def cutO (o : OpR) : OpR := ⟨o.id, o.vec.take 10⟩
def cutH (h : HitR) : HitR := ⟨h.id, h.dist, h.vec.take 8⟩
end Go.Arm
namespace Go.Proofs.YtnkbfelnggompaaDoor
open Go Go.RowKit Go.Arm

/-- append(s, x...) to a row of the call's own, as a step. -/
theorem step_app_OpR {ops : Array Oper} {a : Act} {w : World} {dst : Option Tmp} {ty : TypeId} {pos : String} {after : Array Edge} {K : Act → World → Prop} {Q : Exit → Act → World → Prop} {E : Prop}
    {s x : Operand} {B : Nat} {S' : Nat → Prop} {l m : List OpR} (hs : OwnG w B 32 l (a.eval s)) (hx : Sl w S' m (a.eval x)) (hS : ∀ b, S' b → b < w.heap.size → B ≤ b ∧ (a.eval s).ownBlock ≠ some b)
    (hl : (l.length + m.length) * 32 ≤ 140737488355328) (hB : B ≤ w.heap.size)
    (h : ∀ v' w', OwnG w' B 32 (l ++ m) v' → w.grownBy w' (a.eval s).ownBlock → K (a.put dst v') w') :
    if Region.wanted ⟨dst, .call ⟨.builtin .append, #[s, x], #[26, 26]⟩, ty, pos, after, none⟩ (yielded ops a.tmps) = true then
      Oper.wp Tryd.prog ⟨dst, .call ⟨.builtin .append, #[s, x], #[26, 26]⟩, ty, pos, after, none⟩ a w K Q else E :=
  step_of_list rfl (fun a' w' => ∃ v', a' = a.put dst v' ∧ OwnG w' B 32 (l ++ m) v' ∧ w.grownBy w' (a.eval s).ownBlock)
    (fun _ _ hQ => wpList_appendG rowO rfl (by decide) hs hx hS (by simp only [maxLen]; omega) hl hB fun v' _ g1 g2 _ => hQ _ _ ⟨v', rfl, g1, g2⟩)
    fun _ _ ⟨v', e, g1, g2⟩ => e ▸ h v' _ g1 g2

set_option maxHeartbeats 4000000 in
set_option maxRecDepth 100000 in
theorem rfewO_any (w : World) (S : Nat → Prop) (l : List OpR) (q : Value) (hp : Sl w S l q) :
    Calls Tryd.prog 30 #[q, .int .i64 18] w fun e w' => ∃ v, e = .returned v ∧ Sl w' (fun b => w.heap.size ≤ b ∧ b < w'.heap.size) ((l.take 18).map cutO) v ∧ Below w.heap.size w w' := by
  have hll : l.length ≤ 9223372036854775807 := hp.length_le
  have Hp := Lib.hid hp.old
  go_enter Tryd.func30, Tryd.ntmps30
  go_wp2_with (first | ((with_reducible apply wpList_unguard); rfl) | (with_reducible refine stop_make ?_) | ((with_reducible apply len_B); assumption) | ((with_reducible apply len_BB); assumption)  | ((with_reducible apply len_N); assumption) | ((with_reducible apply len_V); assumption) | ((with_reducible apply len_VV); assumption) | ((with_reducible apply len_P); assumption) | ((with_reducible apply len_O); assumption) | ((with_reducible apply len_H); assumption)  | (with_reducible refine stop_builtin ?_) | (with_reducible refine stop_slice ?_) | (with_reducible refine stop_index_B ?_) | (with_reducible refine stop_index_BB ?_)  | (with_reducible refine stop_index_N ?_) | (with_reducible refine stop_index_V ?_) | (with_reducible refine stop_index_VV ?_) | (with_reducible refine stop_index_P ?_) | (with_reducible refine stop_index_O ?_) | (with_reducible refine stop_index_H ?_)  | (with_reducible refine stop_str_B ?_) | (with_reducible refine stop_mark_B ?_) | (with_reducible refine stop_buildSlice ?_))
  clear hp
  go_loopg [5, 6, 7, 10] (l.length + 1) (fun k x5 x6 x7 i wr => ∃ (j : Nat) (D : List OpR), k = l.length - j + 1 ∧ j ≤ l.length ∧ i = .int .i64 j ∧ D = (l.take (min j 18)).map cutO ∧ D.length ≤ 18 ∧ OwnG wr w.heap.size 32 D x5 ∧ Below w.heap.size w wr)
  case atStart => exact ⟨0, [], by omega, by omega, rfl, by simp, by simp, OwnG.nil _ _ _, Below.refl _ _⟩
  case round =>
    obtain ⟨j, D, hk, hj, rfl, hD, hDl, ho, hbr⟩ := hrel
    have hpr := Hp.out.below hbr (Nat.le_refl _)
    have Hk := Lib.hid hk
    have HD := Lib.hid hD
    clear hk hD
    by_cases hlt : j < l.length
    · go_wp2_with (first | ((with_reducible apply wpList_unguard); rfl) | (with_reducible refine stop_make ?_) | ((with_reducible apply len_B); assumption) | ((with_reducible apply len_BB); assumption)  | ((with_reducible apply len_N); assumption) | ((with_reducible apply len_V); assumption) | ((with_reducible apply len_VV); assumption) | ((with_reducible apply len_P); assumption) | ((with_reducible apply len_O); assumption) | ((with_reducible apply len_H); assumption)  | (with_reducible refine stop_builtin ?_) | (with_reducible refine stop_slice ?_) | (with_reducible refine stop_index_B ?_) | (with_reducible refine stop_index_BB ?_)  | (with_reducible refine stop_index_N ?_) | (with_reducible refine stop_index_V ?_) | (with_reducible refine stop_index_VV ?_) | (with_reducible refine stop_index_P ?_) | (with_reducible refine stop_index_O ?_) | (with_reducible refine stop_index_H ?_)  | (with_reducible refine stop_str_B ?_) | (with_reducible refine stop_mark_B ?_) | (with_reducible refine stop_buildSlice ?_))
      refine Stop.go (idx_O hpr rfl (by omega) (by omega) fun b5 o5 p pv hp hpv hcell0 hcell1 => ?_)
      have hp' : l[j]? = some p := by simpa using hp
      have Hx := Lib.hid hp'
      clear hp hp'
      obtain ⟨pa, pn, pc, rfl⟩ := Sl.shape hpv
      have ha := (Below.refl wr.heap.size wr).alloc (Nat.le_refl _) (.cells #[.int .u64 (p.id.toNat : Int), .slice pa pn pc] 32)
      by_cases h18 : (j : Int) < 18
      · go_wp2_with (fail)
        have ex := heap_alloc_new wr (.cells #[.int .u64 (p.id.toNat : Int), .slice pa pn pc] 32)
        generalize wr.alloc (.cells #[.int .u64 (p.id.toNat : Int), .slice pa pn pc] 32) = w5 at ha ex ⊢
        obtain ⟨bo, hbo⟩ : ∃ bo, bo = wr.heap.size := ⟨_, rfl⟩
        rw [← hbo] at ex ⊢
        have HBO := Lib.hid hbo
        clear hbo hpr hcell0 hcell1
        have hbl : bo < w5.heap.size := (Array.getElem?_eq_some_iff.1 ex).1
        have hB5 := below_on hbr ha hbr.size
        have ho5 := ho.below ha (Nat.le_refl _)
        have hv5 := hpv.below ha (Nat.le_refl _)
        have hv5d : Sl w5.drew (· < w.heap.size) p.vec (.slice pa pn pc) := hv5.drew
        have howns : ∀ b, u5.ownBlock = some b → w.heap.size ≤ b ∧ b < bo := fun b hb => ⟨(ho.ge b hb).1, by have := (ho.ge b hb).2; have := HBO.out; omega⟩
        have Ho5 := Lib.hid ho5
        have HoW := Lib.hid howns
        clear ho5 howns ho
        have hcell : ∀ wq : World, wq.heap[bo]? = some (.cells #[.int .u64 (p.id.toNat : Int), .slice pa pn pc] 32) → wq.cell? ⟨bo, 0, none⟩ = some (.int .u64 (p.id.toNat : Int)) ∧ wq.cell? ⟨bo, 1, none⟩ = some (.slice pa pn pc) := by
          intro wq e2
          simp [World.cell?, e2]
        go_region_held3 (fun wq => wq.cell? ⟨bo, 0, none⟩ = some (.int .u64 (p.id.toNat : Int)) ∧ wq.cell? ⟨bo, 1, none⟩ = some (.slice pa pn pc))
          (first | exact hcell _ ex | exact hcell _ ex6 | exact hcell _ ex7 | exact hcell _ ex8)
          (first
            | (go_at_call 32; refine (cutvec_any w5.drew _ p.vec _ 10 hv5d (by decide) (by decide)).mono ?_; rintro e w6 ⟨qv, rfl, hq6, hb6⟩; obtain ⟨qa, qn, qc, rfl⟩ := Own.shape hq6; have hb6' : Below w5.heap.size w5 w6 := ((Below.refl w5.heap.size w5).drew).trans hb6; have ex6 := (hb6'.block bo hbl).trans ex; have ha7 := (Below.refl w6.heap.size w6).alloc (Nat.le_refl _) (.cells #[.int .u64 (p.id.toNat : Int), .slice qa qn qc] 32); have hb7 := below_on hb6' ha7 hb6'.size; have ex7 := (hb7.block bo hbl).trans ex; have hq7 := (hq6.sl (S' := fun b => w5.heap.size ≤ b) (fun _ h _ => h.elim) (fun b hb => (hq6.ge b hb).1)).below ha7 (Nat.le_refl _); have hx7 := lit_sl (w6.alloc (.cells #[.int .u64 (p.id.toNat : Int), .slice qa qn qc] 32)) (fun b => w5.heap.size ≤ b) w6.heap.size [cutO p] [.int .u64 (p.id.toNat : Int), .slice qa qn qc] 32 (by simp) ⟨[.int .u64 (p.id.toNat : Int), .slice qa qn qc], [], rfl, ⟨_, rfl, hq7⟩, rfl⟩ hb6'.size (heap_alloc_new w6 (.cells #[.int .u64 (p.id.toNat : Int), .slice qa qn qc] 32)); have hs7 := Ho5.out.below hb7 (Nat.le_refl _); have hS7 : ∀ b, w5.heap.size ≤ b → b < (w6.alloc (.cells #[.int .u64 (p.id.toNat : Int), .slice qa qn qc] 32)).heap.size → w.heap.size ≤ b ∧ u5.ownBlock ≠ some b := fun b hb _ => ⟨Nat.le_trans hB5.size hb, fun e => by have := (HoW.out b e).2; omega⟩)
            | (refine step_app_OpR (B := w.heap.size) (l := D) (m := [cutO p]) hs7 hx7 hS7 (by simp; omega) (Nat.le_trans hB5.size hb7.size) fun v8 w8 g1 g2 => ?_; have ex8 := (g2.block bo (Nat.lt_of_lt_of_le hbl hb7.size) (fun e => by have e' : u5.ownBlock = some bo := e.symm; have := (HoW.out bo e').2; omega)).trans ex7))
        rename_i hHeld
        have hB8 := (below_on hB5 hb7 hB5.size).grown g2 (Nat.le_trans hB5.size hb7.size) (fun b hb => (HoW.out b hb).1)
        go_wp2_with (fail)
        go_roundg (l.length - (j + 1) + 1)
        case measure => have := Hk.out; omega
        case rel =>
          refine ⟨j + 1, D ++ [cutO p], by omega, by omega, by go_num, ?_, ?_, g1, hB8⟩
          · rw [HD.out, show min (j + 1) 18 = min j 18 + 1 by omega, show min j 18 = j by omega, take_snocG l j p Hx.out]
            simp
          · have := congrArg List.length HD.out
            simp at this
            simp
            omega
      · go_wp2_with (fail)
        go_roundg (l.length - (j + 1) + 1)
        case measure => have := Hk.out; omega
        case rel =>
          refine ⟨j + 1, D, by omega, by omega, by go_num, ?_, hDl, ho.below ha (Nat.le_refl _), below_on hbr ha hbr.size⟩
          rw [HD.out, show min (j + 1) 18 = min j 18 by omega]
    · obtain rfl : j = l.length := by omega
      go_wp2_with (first | ((with_reducible apply wpList_unguard); rfl) | (with_reducible refine stop_make ?_) | ((with_reducible apply len_B); assumption) | ((with_reducible apply len_BB); assumption)  | ((with_reducible apply len_N); assumption) | ((with_reducible apply len_V); assumption) | ((with_reducible apply len_VV); assumption) | ((with_reducible apply len_P); assumption) | ((with_reducible apply len_O); assumption) | ((with_reducible apply len_H); assumption)  | (with_reducible refine stop_builtin ?_) | (with_reducible refine stop_slice ?_) | (with_reducible refine stop_index_B ?_) | (with_reducible refine stop_index_BB ?_)  | (with_reducible refine stop_index_N ?_) | (with_reducible refine stop_index_V ?_) | (with_reducible refine stop_index_VV ?_) | (with_reducible refine stop_index_P ?_) | (with_reducible refine stop_index_O ?_) | (with_reducible refine stop_index_H ?_)  | (with_reducible refine stop_str_B ?_) | (with_reducible refine stop_mark_B ?_) | (with_reducible refine stop_buildSlice ?_))
      go_ret
      have e := HD.out
      have e2 : l.take (min l.length 18) = l.take 18 := by rw [List.take_eq_take_iff]; omega
      rw [e2] at e
      rw [← e]
      exact ⟨_, rfl, ho.sl, hbr⟩

/-- append(s, x...) to a row of the call's own, as a step. -/
theorem step_app_HitR {ops : Array Oper} {a : Act} {w : World} {dst : Option Tmp} {ty : TypeId} {pos : String} {after : Array Edge} {K : Act → World → Prop} {Q : Exit → Act → World → Prop} {E : Prop}
    {s x : Operand} {B : Nat} {S' : Nat → Prop} {l m : List HitR} (hs : OwnG w B 34 l (a.eval s)) (hx : Sl w S' m (a.eval x)) (hS : ∀ b, S' b → b < w.heap.size → B ≤ b ∧ (a.eval s).ownBlock ≠ some b)
    (hl : (l.length + m.length) * 40 ≤ 140737488355328) (hB : B ≤ w.heap.size)
    (h : ∀ v' w', OwnG w' B 34 (l ++ m) v' → w.grownBy w' (a.eval s).ownBlock → K (a.put dst v') w') :
    if Region.wanted ⟨dst, .call ⟨.builtin .append, #[s, x], #[28, 28]⟩, ty, pos, after, none⟩ (yielded ops a.tmps) = true then
      Oper.wp Tryd.prog ⟨dst, .call ⟨.builtin .append, #[s, x], #[28, 28]⟩, ty, pos, after, none⟩ a w K Q else E :=
  step_of_list rfl (fun a' w' => ∃ v', a' = a.put dst v' ∧ OwnG w' B 34 (l ++ m) v' ∧ w.grownBy w' (a.eval s).ownBlock)
    (fun _ _ hQ => wpList_appendG rowH rfl (by decide) hs hx hS (by simp only [maxLen]; omega) hl hB fun v' _ g1 g2 _ => hQ _ _ ⟨v', rfl, g1, g2⟩)
    fun _ _ ⟨v', e, g1, g2⟩ => e ▸ h v' _ g1 g2

set_option maxHeartbeats 4000000 in
set_option maxRecDepth 100000 in
theorem rfewH_any (w : World) (S : Nat → Prop) (l : List HitR) (q : Value) (hp : Sl w S l q) :
    Calls Tryd.prog 31 #[q, .int .i64 18] w fun e w' => ∃ v, e = .returned v ∧ Sl w' (fun b => w.heap.size ≤ b ∧ b < w'.heap.size) ((l.take 18).map cutH) v ∧ Below w.heap.size w w' := by
  have hll : l.length ≤ 9223372036854775807 := hp.length_le
  have Hp := Lib.hid hp.old
  go_enter Tryd.func31, Tryd.ntmps31
  go_wp2_with (first | ((with_reducible apply wpList_unguard); rfl) | (with_reducible refine stop_make ?_) | ((with_reducible apply len_B); assumption) | ((with_reducible apply len_BB); assumption)  | ((with_reducible apply len_N); assumption) | ((with_reducible apply len_V); assumption) | ((with_reducible apply len_VV); assumption) | ((with_reducible apply len_P); assumption) | ((with_reducible apply len_O); assumption) | ((with_reducible apply len_H); assumption)  | (with_reducible refine stop_builtin ?_) | (with_reducible refine stop_slice ?_) | (with_reducible refine stop_index_B ?_) | (with_reducible refine stop_index_BB ?_)  | (with_reducible refine stop_index_N ?_) | (with_reducible refine stop_index_V ?_) | (with_reducible refine stop_index_VV ?_) | (with_reducible refine stop_index_P ?_) | (with_reducible refine stop_index_O ?_) | (with_reducible refine stop_index_H ?_)  | (with_reducible refine stop_str_B ?_) | (with_reducible refine stop_mark_B ?_) | (with_reducible refine stop_buildSlice ?_))
  clear hp
  go_loopg [5, 6, 7, 10] (l.length + 1) (fun k x5 x6 x7 i wr => ∃ (j : Nat) (D : List HitR), k = l.length - j + 1 ∧ j ≤ l.length ∧ i = .int .i64 j ∧ D = (l.take (min j 18)).map cutH ∧ D.length ≤ 18 ∧ OwnG wr w.heap.size 34 D x5 ∧ Below w.heap.size w wr)
  case atStart => exact ⟨0, [], by omega, by omega, rfl, by simp, by simp, OwnG.nil _ _ _, Below.refl _ _⟩
  case round =>
    obtain ⟨j, D, hk, hj, rfl, hD, hDl, ho, hbr⟩ := hrel
    have hpr := Hp.out.below hbr (Nat.le_refl _)
    have Hk := Lib.hid hk
    have HD := Lib.hid hD
    clear hk hD
    by_cases hlt : j < l.length
    · go_wp2_with (first | ((with_reducible apply wpList_unguard); rfl) | (with_reducible refine stop_make ?_) | ((with_reducible apply len_B); assumption) | ((with_reducible apply len_BB); assumption)  | ((with_reducible apply len_N); assumption) | ((with_reducible apply len_V); assumption) | ((with_reducible apply len_VV); assumption) | ((with_reducible apply len_P); assumption) | ((with_reducible apply len_O); assumption) | ((with_reducible apply len_H); assumption)  | (with_reducible refine stop_builtin ?_) | (with_reducible refine stop_slice ?_) | (with_reducible refine stop_index_B ?_) | (with_reducible refine stop_index_BB ?_)  | (with_reducible refine stop_index_N ?_) | (with_reducible refine stop_index_V ?_) | (with_reducible refine stop_index_VV ?_) | (with_reducible refine stop_index_P ?_) | (with_reducible refine stop_index_O ?_) | (with_reducible refine stop_index_H ?_)  | (with_reducible refine stop_str_B ?_) | (with_reducible refine stop_mark_B ?_) | (with_reducible refine stop_buildSlice ?_))
      refine Stop.go (idx_H hpr rfl (by omega) (by omega) fun b5 o5 p pv hp hpv hcell0 hcell1 hcell2 => ?_)
      have hp' : l[j]? = some p := by simpa using hp
      have Hx := Lib.hid hp'
      clear hp hp'
      obtain ⟨pa, pn, pc, rfl⟩ := Sl.shape hpv
      have ha := (Below.refl wr.heap.size wr).alloc (Nat.le_refl _) (.cells #[.int .u64 (p.id.toNat : Int), .int .u64 (p.dist.toNat : Int), .slice pa pn pc] 34)
      by_cases h18 : (j : Int) < 18
      · go_wp2_with (fail)
        have ex := heap_alloc_new wr (.cells #[.int .u64 (p.id.toNat : Int), .int .u64 (p.dist.toNat : Int), .slice pa pn pc] 34)
        generalize wr.alloc (.cells #[.int .u64 (p.id.toNat : Int), .int .u64 (p.dist.toNat : Int), .slice pa pn pc] 34) = w5 at ha ex ⊢
        obtain ⟨bo, hbo⟩ : ∃ bo, bo = wr.heap.size := ⟨_, rfl⟩
        rw [← hbo] at ex ⊢
        have HBO := Lib.hid hbo
        clear hbo hpr hcell0 hcell1 hcell2
        have hbl : bo < w5.heap.size := (Array.getElem?_eq_some_iff.1 ex).1
        have hB5 := below_on hbr ha hbr.size
        have ho5 := ho.below ha (Nat.le_refl _)
        have hv5 := hpv.below ha (Nat.le_refl _)
        have hv5d : Sl w5.drew (· < w.heap.size) p.vec (.slice pa pn pc) := hv5.drew
        have howns : ∀ b, u5.ownBlock = some b → w.heap.size ≤ b ∧ b < bo := fun b hb => ⟨(ho.ge b hb).1, by have := (ho.ge b hb).2; have := HBO.out; omega⟩
        have Ho5 := Lib.hid ho5
        have HoW := Lib.hid howns
        clear ho5 howns ho
        have hcell : ∀ wq : World, wq.heap[bo]? = some (.cells #[.int .u64 (p.id.toNat : Int), .int .u64 (p.dist.toNat : Int), .slice pa pn pc] 34) → wq.cell? ⟨bo, 0, none⟩ = some (.int .u64 (p.id.toNat : Int)) ∧ wq.cell? ⟨bo, 1, none⟩ = some (.int .u64 (p.dist.toNat : Int)) ∧ wq.cell? ⟨bo, 2, none⟩ = some (.slice pa pn pc) := by
          intro wq e2
          simp [World.cell?, e2]
        go_region_held3 (fun wq => wq.cell? ⟨bo, 0, none⟩ = some (.int .u64 (p.id.toNat : Int)) ∧ wq.cell? ⟨bo, 1, none⟩ = some (.int .u64 (p.dist.toNat : Int)) ∧ wq.cell? ⟨bo, 2, none⟩ = some (.slice pa pn pc))
          (first | exact hcell _ ex | exact hcell _ ex6 | exact hcell _ ex7 | exact hcell _ ex8)
          (first
            | (go_at_call 32; refine (cutvec_any w5.drew _ p.vec _ 8 hv5d (by decide) (by decide)).mono ?_; rintro e w6 ⟨qv, rfl, hq6, hb6⟩; obtain ⟨qa, qn, qc, rfl⟩ := Own.shape hq6; have hb6' : Below w5.heap.size w5 w6 := ((Below.refl w5.heap.size w5).drew).trans hb6; have ex6 := (hb6'.block bo hbl).trans ex; have ha7 := (Below.refl w6.heap.size w6).alloc (Nat.le_refl _) (.cells #[.int .u64 (p.id.toNat : Int), .int .u64 (p.dist.toNat : Int), .slice qa qn qc] 34); have hb7 := below_on hb6' ha7 hb6'.size; have ex7 := (hb7.block bo hbl).trans ex; have hq7 := (hq6.sl (S' := fun b => w5.heap.size ≤ b) (fun _ h _ => h.elim) (fun b hb => (hq6.ge b hb).1)).below ha7 (Nat.le_refl _); have hx7 := lit_sl (w6.alloc (.cells #[.int .u64 (p.id.toNat : Int), .int .u64 (p.dist.toNat : Int), .slice qa qn qc] 34)) (fun b => w5.heap.size ≤ b) w6.heap.size [cutH p] [.int .u64 (p.id.toNat : Int), .int .u64 (p.dist.toNat : Int), .slice qa qn qc] 34 (by simp) ⟨[.int .u64 (p.id.toNat : Int), .int .u64 (p.dist.toNat : Int), .slice qa qn qc], [], rfl, ⟨_, rfl, hq7⟩, rfl⟩ hb6'.size (heap_alloc_new w6 (.cells #[.int .u64 (p.id.toNat : Int), .int .u64 (p.dist.toNat : Int), .slice qa qn qc] 34)); have hs7 := Ho5.out.below hb7 (Nat.le_refl _); have hS7 : ∀ b, w5.heap.size ≤ b → b < (w6.alloc (.cells #[.int .u64 (p.id.toNat : Int), .int .u64 (p.dist.toNat : Int), .slice qa qn qc] 34)).heap.size → w.heap.size ≤ b ∧ u5.ownBlock ≠ some b := fun b hb _ => ⟨Nat.le_trans hB5.size hb, fun e => by have := (HoW.out b e).2; omega⟩)
            | (refine step_app_HitR (B := w.heap.size) (l := D) (m := [cutH p]) hs7 hx7 hS7 (by simp; omega) (Nat.le_trans hB5.size hb7.size) fun v8 w8 g1 g2 => ?_; have ex8 := (g2.block bo (Nat.lt_of_lt_of_le hbl hb7.size) (fun e => by have e' : u5.ownBlock = some bo := e.symm; have := (HoW.out bo e').2; omega)).trans ex7))
        rename_i hHeld
        have hB8 := (below_on hB5 hb7 hB5.size).grown g2 (Nat.le_trans hB5.size hb7.size) (fun b hb => (HoW.out b hb).1)
        go_wp2_with (fail)
        go_roundg (l.length - (j + 1) + 1)
        case measure => have := Hk.out; omega
        case rel =>
          refine ⟨j + 1, D ++ [cutH p], by omega, by omega, by go_num, ?_, ?_, g1, hB8⟩
          · rw [HD.out, show min (j + 1) 18 = min j 18 + 1 by omega, show min j 18 = j by omega, take_snocG l j p Hx.out]
            simp
          · have := congrArg List.length HD.out
            simp at this
            simp
            omega
      · go_wp2_with (fail)
        go_roundg (l.length - (j + 1) + 1)
        case measure => have := Hk.out; omega
        case rel =>
          refine ⟨j + 1, D, by omega, by omega, by go_num, ?_, hDl, ho.below ha (Nat.le_refl _), below_on hbr ha hbr.size⟩
          rw [HD.out, show min (j + 1) 18 = min j 18 by omega]
    · obtain rfl : j = l.length := by omega
      go_wp2_with (first | ((with_reducible apply wpList_unguard); rfl) | (with_reducible refine stop_make ?_) | ((with_reducible apply len_B); assumption) | ((with_reducible apply len_BB); assumption)  | ((with_reducible apply len_N); assumption) | ((with_reducible apply len_V); assumption) | ((with_reducible apply len_VV); assumption) | ((with_reducible apply len_P); assumption) | ((with_reducible apply len_O); assumption) | ((with_reducible apply len_H); assumption)  | (with_reducible refine stop_builtin ?_) | (with_reducible refine stop_slice ?_) | (with_reducible refine stop_index_B ?_) | (with_reducible refine stop_index_BB ?_)  | (with_reducible refine stop_index_N ?_) | (with_reducible refine stop_index_V ?_) | (with_reducible refine stop_index_VV ?_) | (with_reducible refine stop_index_P ?_) | (with_reducible refine stop_index_O ?_) | (with_reducible refine stop_index_H ?_)  | (with_reducible refine stop_str_B ?_) | (with_reducible refine stop_mark_B ?_) | (with_reducible refine stop_buildSlice ?_))
      go_ret
      have e := HD.out
      have e2 : l.take (min l.length 18) = l.take 18 := by rw [List.take_eq_take_iff]; omega
      rw [e2] at e
      rw [← e]
      exact ⟨_, rfl, ho.sl, hbr⟩
end Go.Proofs.YtnkbfelnggompaaDoor
