/- armillarylaw19: back; armillaryref13: Same, of two lists that are alike. -/
import Derived.Test.YtjkffjngamagkaaDoorRefCal
import Derived.Test.YtjkffjngamagkaaDoorRefHear
import Derived.Test.YtjkffjngamagkaaDoorPackF
namespace Go.Arm
open Go.RowKit
theorem Sl.elem {α : Type} [Rep α] {P : Program} {w : World} {t e : TypeId} {z : Value} {bytes : Nat} {S : Nat → Prop} {l : List α} {v : Value} (h : Sl w S l v) (hr : Row P t e z (Rep.sz α) bytes) (hsz : 0 < Rep.sz α) (i : Nat) (x : α) (hx : l[i]? = some x) :
  ∃ b o c, Rep.rd w S x c ∧ (∀ j u, c[j]? = some u → w.cell? ⟨b, o + j, none⟩ = some u) ∧ ∀ (k : IntKind) w', (Instr.indexAt t v (.int k (i : Int))).run P w' = .ok (.pointer (some ⟨b, o, none⟩)) w' := by
 obtain ⟨ao, cap, cs, rfl, _, _, hnone, hcs, _, hloc⟩ := h
 have hlt : i < l.length := (List.getElem?_eq_some_iff.1 hx).1
 obtain ⟨c, hc1, hc2⟩ := rds_get i hcs hx
 have hlen := Rep.len hc1
 obtain ⟨u0, hu0⟩ : ∃ u, c[0]? = some u := ⟨_, List.getElem?_eq_getElem (by omega)⟩
 cases ao with
 | none => have := hnone rfl; omega
 | some ad =>
  have f0 := hloc ad rfl _ _ (hc2 0 _ hu0)
  have hspot : ∃ b o, ad.add (i * Rep.sz α) = ⟨b, o, none⟩ := by
   rw [Nat.add_zero] at f0
   generalize ad.add (i * Rep.sz α) = q at f0
   obtain ⟨b, o, sp⟩ := q
   cases sp with
   | none => exact ⟨b, o, rfl⟩
   | some s =>
    exfalso
    unfold World.cell? at f0
    split at f0 <;> simp at f0
  obtain ⟨b, o, hq⟩ := hspot
  have he : P.elem t = e := by simp [Program.elem, hr.1]
  refine ⟨b, o, c, hc1, fun j u hu => ?_, fun k w' => ?_⟩
  ·have := hloc ad rfl _ _ (hc2 j u hu)
   rwa [← add_add2, hq, add_lit] at this
  ·have hrun := run_indexAt_slice (P := P) w' t ad l.length cap k i (by rw [he]; exact hr.1)
   rw [if_pos ⟨by omega, by omega⟩, he, run_sizeOf_row hr] at hrun
   simp only [Result.andThen, Int.toNat_natCast, hq] at hrun
   exact hrun
theorem cell_yields {P : Program} {ops : Array Oper} {a : Act} {dst : Option Tmp} {ty : TypeId} {pos : String} {after : Array Edge} {S : World → Prop} {t : TypeId} {b o : Nat} {x : Operand} {gd : Option (Nat × Bool)} {v : Value} (ht : One P t) (hw : Region.wanted ⟨dst, .load t x, ty, pos, after, gd⟩ (yielded ops a.tmps) = true) (hx : a.eval x = .pointer (some ⟨b, o, none⟩)) (hc : ∀ w, S w → w.cell? ⟨b, o, none⟩ = some v) :
  YieldsIf P ops S ⟨dst, .load t x, ty, pos, after, gd⟩ v a := by
 refine .inl ⟨hw, fun w hS => ?_⟩
 have hrun : (Instr.loadAt t (.pointer (some ⟨b, o, none⟩))).run P w = .ok v w := by
  simp only [Instr.loadAt, Instr.sureAddr, Sem.run_bind, Sem.run_pure, Result.andThen_ok, loadVar, ht.2 w, Bool.false_eq_true, if_false]
  simp [hc w hS]
 simp only [execOp, hx, Sem.run_bind, hrun, Result.andThen_ok, Sem.run_pure]
end Go.Arm
namespace Go.Proofs.YtjkffjngamagkaaDoor
open Go Go.RowKit Go.Arm
theorem let_one (z : LetR) {v : Value} (h : SlV v) : (#[.int .i64 z.src, .int .i64 z.dst, v] : Array Value).all (·.oneCell') = true := by
 obtain ⟨_, _, _, rfl⟩ := h
 simp [Value.oneCell']
set_option maxHeartbeats 4000000 in
theorem back_any (w : World) (S : Nat → Prop) (L : List LetR) (v : Value) (hv : Sl w S L v) (hL : L.length ≤ 1000) :
  Calls Tryd.prog 39 #[v] w fun e w' => ∃ u, e = .returned u ∧ Sl w' (fun k => k < w'.heap.size) L u ∧ Below w.heap.size w w' := by
 have hv0 := hv.old
 clear hv
 obtain ⟨va, vn, vc, rfl⟩ := Sl.shape hv0
 have hn := sl_lenW hv0
 subst hn
 go_enter Tryd.func39, Tryd.ntmps39
 go_wp2_with (first | ((with_reducible apply ugZ); rfl) | ((with_reducible (first | apply len_B | apply len_W | apply len_RL | apply len_L | apply len_Bat | apply len_Qst | apply len_H)); assumption) | ((with_reducible refine stop_ig kC ?_ ?_); rfl))
 go_loopg [3, 5, 8] (L.length + 1) (fun k x3 x5 i wr => ∃ (j : Nat), k = L.length - j + 1 ∧ j ≤ L.length ∧ i = .int .i64 j ∧ OwnR wr w.heap.size 167 (L.take j) x3 ∧ Below w.heap.size w wr)
 case atStart => exact ⟨0, by omega, by omega, rfl, Own.nil _ _ _ _, Below.refl _ _⟩
 case round =>
  obtain ⟨j, hk, hj, rfl, ho, hbr⟩ := hrel
  have Hk := Lib.hid hk
  clear hk
  have hpr := hv0.below hbr (Nat.le_refl _)
  have swr := hbr.size
  by_cases hlt : j < L.length
  ·go_wp2_with (first | ((with_reducible apply ugZ); rfl) | ((with_reducible (first | apply len_B | apply len_W | apply len_RL | apply len_L | apply len_Bat | apply len_Qst | apply len_H)); assumption) | ((with_reducible refine stop_ig kC ?_ ?_); rfl))
   refine Stop.go (wpList_indexR (α := LetR) rowL (by show 0 < 3; decide) hpr rfl (by omega) (by omega) fun b o z cs hz hr hc => ?_)
   have hz : L[j]? = some z := by simpa using hz
   obtain ⟨bv, rfl, hbv⟩ := hr
   have hone := let_one z (Sl.slv hbv)
   have hsn : L.take (j + 1) = L.take j ++ [z] := by
    obtain ⟨h1, rfl⟩ := List.getElem?_eq_some_iff.1 hz
    rw [List.take_succ_eq_append_getElem h1]
   have HSN := Lib.hid hsn
   clear hz hpr hsn
   go_wp2_with (first | ((with_reducible apply ugZ); rfl) | ((with_reducible (first | apply len_B | apply len_W | apply len_RL | apply len_L | apply len_Bat | apply len_Qst | apply len_H)); assumption) | ((with_reducible refine stop_ig kC ?_ ?_); rfl))
   refine Stop.go (cells_loadW (.agg #[.int .i64 z.src, .int .i64 z.dst, bv]) [.int .i64 z.src, .int .i64 z.dst, bv] Tryd.underlying158 rfl (by kernel_rfl) rfl hc rfl ?_)
   go_wp2_with (first | ((with_reducible apply ugZ); rfl) | ((with_reducible (first | apply len_B | apply len_W | apply len_RL | apply len_L | apply len_Bat | apply len_Qst | apply len_H)); assumption) | ((with_reducible refine stop_ig kC ?_ ?_); rfl))
   refine Stop.go (blk_alloc (z := .agg #[.int .i64 0, .int .i64 0, .slice none 0 0]) (cs := #[.int .i64 0, .int .i64 0, .slice none 0 0]) (zero_run (by kernel_rfl)) rfl fun bl w4 hl hlg hb4 => ?_)
   go_wp2_with (first | ((with_reducible apply ugZ); rfl) | ((with_reducible (first | apply len_B | apply len_W | apply len_RL | apply len_L | apply len_Bat | apply len_Qst | apply len_H)); assumption) | ((with_reducible refine stop_ig kC ?_ ?_); rfl))
   refine Stop.go (blk_store_all (cs' := #[.int .i64 z.src, .int .i64 z.dst, bv]) hl rfl rfl (by kernel_rfl) rfl hone fun w5 hl5 o5 z5 => ?_)
   have hb5 : Below wr.heap.size wr w5 := hb4.trans (o5.below hb4.size (by rintro k rfl; exact hlg))
   have ho5 := OwnR.below ho hb5 (Nat.le_refl _)
   have hbr5 := below_on hbr hb5 swr
   have hbv5 := hbv.below hb5 (Nat.le_refl _)
   have olt : ∀ k, u3.ownBlock = some k → w.heap.size ≤ k ∧ k < w5.heap.size := fun k hk => ho5.ge k hk
   clear hl hb4 o5 z5 hone hc hb5 hbr ho hbv
   go_wp2_with (first | ((with_reducible apply ugZ); rfl) | ((with_reducible (first | apply len_B | apply len_W | apply len_RL | apply len_L | apply len_Bat | apply len_Qst | apply len_H)); assumption) | ((with_reducible refine stop_ig kC ?_ ?_); rfl))
   refine Stop.go (blk_load_all Tryd.underlying158 rfl (by kernel_rfl) hl5 rfl ?_)
   go_wp2_with (first | ((with_reducible apply ugZ); rfl) | ((with_reducible (first | apply len_B | apply len_W | apply len_RL | apply len_L | apply len_Bat | apply len_Qst | apply len_H)); assumption) | ((with_reducible refine stop_ig kC ?_ ?_); rfl))
   refine Stop.go (wpList_lit1 (α := LetR) (S := fun k => k < w.heap.size) rowRL rfl (by show 0 < 3; decide) (by show 3 ≤ 1000; decide) z rfl ⟨bv, rfl, hbv5⟩ fun v9 w7 m1 m2 m3 m4 => ?_)
   have hbr7 := hbr5.grown0 m2 hbr5.size
   have ho7 := OwnR.grown0 ho5 m2
   have m1 : Sl w7 (fun k => k < w.heap.size ∨ w5.heap.size ≤ k) _ v9 := m1.sl (fun k h _ => .inl h) fun k hk => by rw [m3] at hk; cases hk; exact .inr (Nat.le_refl _)
   clear hbv5 ho5 hbr5 m2 m3 m4 hl5
   go_wp2_with (first | ((with_reducible apply ugZ); rfl) | ((with_reducible (first | apply len_B | apply len_W | apply len_RL | apply len_L | apply len_Bat | apply len_Qst | apply len_H)); assumption) | ((with_reducible refine stop_ig kC ?_ ?_); rfl))
   refine Stop.go (wpList_appendR (α := LetR) (B := w.heap.size) (l := L.take j) (m := [z]) rowRL rfl (by show 0 < 3; decide) ho7 m1 (fun b hb _ e => by have := olt b e; omega) (by simp only [maxLen, List.length_singleton, List.length_take]; omega) (by simp only [List.length_singleton, List.length_take]; omega) hbr7.size fun v10 w8 g1 g2 g3 => ?_)
   have g2 : w7.grownBy w8 u3.ownBlock := g2
   have hbr8 := hbr7.grown g2 hbr7.size (fun k hk => (olt k hk).1)
   rw [← HSN.out] at g1
   clear ho7 m1 hbr7 g2 g3 olt
   go_wp2_with (fail)
   go_roundg (L.length - (j + 1) + 1)
   case measure => have := Hk.out; omega
   case rel => exact ⟨j + 1, by omega, by omega, by go_num, g1, hbr8⟩
  ·rw [List.take_of_length_le (by omega)] at ho
   go_wp2_with (fail)
   go_ret
   exact ⟨_, rfl, OwnR.sl ho, hbr⟩
set_option maxHeartbeats 8000000 in
set_option maxRecDepth 100000 in
theorem rlsame_any (w : World) (S S' : Nat → Prop) (L : List LetR) (p q : Value) (hp : Sl w S L p) (hq : Sl w S' L q) :
  Calls Tryd.prog 38 #[p, q] w fun e w' => e = .returned (.bool true) ∧ Below w.heap.size w w' := by
 have hp0 := hp.old
 have hq0 := hq.old
 clear hp hq
 obtain ⟨pa, pn, pc, rfl⟩ := Sl.shape hp0
 have hn := sl_lenW hp0
 obtain ⟨qa, qn, qc, rfl⟩ := Sl.shape hq0
 have hm := sl_lenW hq0
 have hLl : L.length ≤ 9223372036854775807 := hp0.length_le
 go_enter Tryd.func38, Tryd.ntmps38
 have hp1 : Sl w (fun x => x < w.heap.size) L (.slice pa L.length pc) := hn ▸ hp0
 have hq1 : Sl w (fun x => x < w.heap.size) L (.slice qa L.length qc) := hm ▸ hq0
 subst hn
 subst hm
 go_wp2_with (first | ((with_reducible apply ugZ); rfl) | ((with_reducible (first | apply len_B | apply len_W | apply len_RL | apply len_L | apply len_Bat | apply len_Qst | apply len_H)); assumption) | ((with_reducible refine stop_ig kC ?_ ?_); rfl))
 go_loopg [5, 13] (L.length + 1) (fun k x5 i wr => ∃ (j : Nat), k = L.length - j + 1 ∧ j ≤ L.length ∧ i = .int .i64 j ∧ Below w.heap.size w wr)
 case atStart => exact ⟨0, by omega, by omega, rfl, Below.refl _ _⟩
 case round =>
  obtain ⟨j, hk, hj, rfl, hbr⟩ := hrel
  have Hk := Lib.hid hk
  clear hk
  have swr := hbr.size
  by_cases hlt : j < L.length
  ·obtain ⟨z, hz⟩ : ∃ z, L[j]? = some z := ⟨_, List.getElem?_eq_getElem hlt⟩
   go_upto_region 6 with (fail)
   have hbd := hbr.drew
   have hpd := hp0.below hbd (Nat.le_refl _)
   have hqd := hq0.below hbd (Nat.le_refl _)
   obtain ⟨b1, o1, c1, ⟨v1, rfl, hv1⟩, hc1, r1⟩ := hpd.elem rowRL (by show 0 < 3; decide) j z hz
   obtain ⟨b2, o2, c2, ⟨v2, rfl, hv2⟩, hc2, r2⟩ := hqd.elem rowRL (by show 0 < 3; decide) j z hz
   have c10 := hc1 0 _ rfl
   have c11 := hc1 1 _ rfl
   have c12 := hc1 2 _ rfl
   have c20 := hc2 0 _ rfl
   have c21 := hc2 1 _ rfl
   have c22 := hc2 2 _ rfl
   have HBB : Hid ((z.body == z.body) = true) := Lib.hid (by simp)
   clear hc1 hc2 hpd hqd hz hbr
   refine wp_region_D (fun wq => wq = wr.drew) 100 (fun _ => True) 38 rfl (by kernel_rfl) ?_
   generalize wr.drew = wd at *
   refine tkZ 0 16 (.slice pa L.length pc) rfl rfl (.inl ⟨by rfl, fun _ _ => by kernel_rfl⟩) (rfl) (.inr trivial) ?_
   simp only [Act.put, zqA, zqB, zqC]
   refine tkZ 1 17 (.int .i64 (j : Int)) rfl rfl (.inl ⟨by rfl, fun _ _ => by kernel_rfl⟩) (rfl) (.inr trivial) ?_
   simp only [Act.put, zqA, zqB, zqC]
   refine tkZ 2 18 (.pointer (some ⟨b1, o1, none⟩)) rfl rfl (idx_yields (by rfl) rfl rfl fun w => r1 .i64 w) (rfl) (.inr trivial) ?_
   simp only [Act.put, zqA, zqB, zqC]
   refine tkZ 3 19 (.pointer (some ⟨b1, o1, none⟩)) rfl rfl (.inl ⟨by rfl, fun _ _ => by go_simp⟩) (rfl) (.inr trivial) ?_
   simp only [Act.put, zqA, zqB, zqC]
   refine tkZ 4 20 (.int .i64 z.src) rfl rfl (cell_yields oneInt (by rfl) rfl fun _ h => h ▸ c10) (rfl) (.inr trivial) ?_
   simp only [Act.put, zqA, zqB, zqC]
   refine tkZ 5 21 (.slice qa L.length qc) rfl rfl (.inl ⟨by rfl, fun _ _ => by kernel_rfl⟩) (rfl) (.inr trivial) ?_
   simp only [Act.put, zqA, zqB, zqC]
   refine tkZ 6 22 (.int .i64 (j : Int)) rfl rfl (.inl ⟨by rfl, fun _ _ => by kernel_rfl⟩) (rfl) (.inr trivial) ?_
   simp only [Act.put, zqA, zqB, zqC]
   refine tkZ 7 23 (.pointer (some ⟨b2, o2, none⟩)) rfl rfl (idx_yields (by rfl) rfl rfl fun w => r2 .i64 w) (rfl) (.inr trivial) ?_
   simp only [Act.put, zqA, zqB, zqC]
   refine tkZ 8 24 (.pointer (some ⟨b2, o2, none⟩)) rfl rfl (.inl ⟨by rfl, fun _ _ => by go_simp⟩) (rfl) (.inr trivial) ?_
   simp only [Act.put, zqA, zqB, zqC]
   refine tkZ 9 25 (.int .i64 z.src) rfl rfl (cell_yields oneInt (by rfl) rfl fun _ h => h ▸ c20) (rfl) (.inr trivial) ?_
   simp only [Act.put, zqA, zqB, zqC]
   refine tkZ 10 26 (.bool false) rfl rfl (.inl ⟨by rfl, fun _ _ => by go_simp⟩) (rfl) (.inr trivial) ?_
   simp only [Act.put, zqA, zqB, zqC]
   refine tkZ 11 27 (.bool false) rfl rfl (.inl ⟨by rfl, fun _ _ => by kernel_rfl⟩) (rfl) (.inr trivial) ?_
   simp only [Act.put, zqA, zqB, zqC]
   refine tkZ 12 28 (.slice pa L.length pc) rfl rfl (.inl ⟨by rfl, fun _ _ => by kernel_rfl⟩) (rfl) (.inr trivial) ?_
   simp only [Act.put, zqA, zqB, zqC]
   refine tkZ 13 29 (.int .i64 (j : Int)) rfl rfl (.inl ⟨by rfl, fun _ _ => by kernel_rfl⟩) (rfl) (.inr trivial) ?_
   simp only [Act.put, zqA, zqB, zqC]
   refine tkZ 14 30 (.pointer (some ⟨b1, o1, none⟩)) rfl rfl (idx_yields (by rfl) rfl rfl fun w => r1 .i64 w) (rfl) (.inr trivial) ?_
   simp only [Act.put, zqA, zqB, zqC]
   refine tkZ 15 31 (.pointer (some ⟨b1, o1 + 1, none⟩)) rfl rfl (.inl ⟨by rfl, fun _ _ => by go_simp⟩) (rfl) (.inr trivial) ?_
   simp only [Act.put, zqA, zqB, zqC]
   refine tkZ 16 32 (.int .i64 z.dst) rfl rfl (cell_yields oneInt (by rfl) rfl fun _ h => h ▸ c11) (rfl) (.inr trivial) ?_
   simp only [Act.put, zqA, zqB, zqC]
   refine tkZ 17 33 (.slice qa L.length qc) rfl rfl (.inl ⟨by rfl, fun _ _ => by kernel_rfl⟩) (rfl) (.inr trivial) ?_
   simp only [Act.put, zqA, zqB, zqC]
   refine tkZ 18 34 (.int .i64 (j : Int)) rfl rfl (.inl ⟨by rfl, fun _ _ => by kernel_rfl⟩) (rfl) (.inr trivial) ?_
   simp only [Act.put, zqA, zqB, zqC]
   refine tkZ 19 35 (.pointer (some ⟨b2, o2, none⟩)) rfl rfl (idx_yields (by rfl) rfl rfl fun w => r2 .i64 w) (rfl) (.inr trivial) ?_
   simp only [Act.put, zqA, zqB, zqC]
   refine tkZ 20 36 (.pointer (some ⟨b2, o2 + 1, none⟩)) rfl rfl (.inl ⟨by rfl, fun _ _ => by go_simp⟩) (rfl) (.inr trivial) ?_
   simp only [Act.put, zqA, zqB, zqC]
   refine tkZ 21 37 (.int .i64 z.dst) rfl rfl (cell_yields oneInt (by rfl) rfl fun _ h => h ▸ c21) (rfl) (.inr trivial) ?_
   simp only [Act.put, zqA, zqB, zqC]
   refine tkZ 22 38 (.bool false) rfl rfl (.inl ⟨by rfl, fun _ _ => by go_simp⟩) (rfl) (.inr trivial) ?_
   simp only [Act.put, zqA, zqB, zqC]
   refine tkZ 23 39 (.bool false) rfl rfl (.inl ⟨by rfl, fun _ _ => by kernel_rfl⟩) (rfl) (.inr trivial) ?_
   simp only [Act.put, zqA, zqB, zqC]
   refine tkZ 24 40 (.bool false) rfl rfl (.inl ⟨by rfl, fun _ _ => by kernel_rfl⟩) (rfl) (.inr trivial) ?_
   simp only [Act.put, zqA, zqB, zqC]
   refine tkZ 25 41 (.slice pa L.length pc) rfl rfl (.inl ⟨by rfl, fun _ _ => by kernel_rfl⟩) (rfl) (.inr trivial) ?_
   simp only [Act.put, zqA, zqB, zqC]
   refine tkZ 26 42 (.int .i64 (j : Int)) rfl rfl (.inl ⟨by rfl, fun _ _ => by kernel_rfl⟩) (rfl) (.inr trivial) ?_
   simp only [Act.put, zqA, zqB, zqC]
   refine tkZ 27 43 (.pointer (some ⟨b1, o1, none⟩)) rfl rfl (idx_yields (by rfl) rfl rfl fun w => r1 .i64 w) (rfl) (.inr trivial) ?_
   simp only [Act.put, zqA, zqB, zqC]
   refine tkZ 28 44 (.pointer (some ⟨b1, o1 + 2, none⟩)) rfl rfl (.inl ⟨by rfl, fun _ _ => by go_simp⟩) (rfl) (.inr trivial) ?_
   simp only [Act.put, zqA, zqB, zqC]
   refine tkZ 29 45 (v1) rfl rfl (cell_yields oneB (by rfl) rfl fun _ h => h ▸ c12) (rfl) (.inr trivial) ?_
   simp only [Act.put, zqA, zqB, zqC]
   refine tkZ 30 46 (.slice qa L.length qc) rfl rfl (.inl ⟨by rfl, fun _ _ => by kernel_rfl⟩) (rfl) (.inr trivial) ?_
   simp only [Act.put, zqA, zqB, zqC]
   refine tkZ 31 47 (.int .i64 (j : Int)) rfl rfl (.inl ⟨by rfl, fun _ _ => by kernel_rfl⟩) (rfl) (.inr trivial) ?_
   simp only [Act.put, zqA, zqB, zqC]
   refine tkZ 32 48 (.pointer (some ⟨b2, o2, none⟩)) rfl rfl (idx_yields (by rfl) rfl rfl fun w => r2 .i64 w) (rfl) (.inr trivial) ?_
   simp only [Act.put, zqA, zqB, zqC]
   refine tkZ 33 49 (.pointer (some ⟨b2, o2 + 2, none⟩)) rfl rfl (.inl ⟨by rfl, fun _ _ => by go_simp⟩) (rfl) (.inr trivial) ?_
   simp only [Act.put, zqA, zqB, zqC]
   refine tkZ 34 50 (v2) rfl rfl (cell_yields oneB (by rfl) rfl fun _ h => h ▸ c22) (rfl) (.inr trivial) ?_
   simp only [Act.put, zqA, zqB, zqC]
   refine wpAnyD_step (i := 35) (by kernel_rfl) rfl fun K hK => ?_
   refine step_call (vs := #[v1, v2]) (by rfl) (by go_simp) (by kernel_rfl) (same_any wd _ _ z.body z.body v1 v2 hv1 hv2) ?_
   rintro e w8 ⟨rfl, rfl⟩
   rw [HBB.out]
   refine ⟨_, rfl, hK _ _ rfl trivial ?_⟩
   clear hK K
   simp only [Act.put, zqA, zqB, zqC]
   refine tkZ 36 52 (.bool false) rfl rfl (.inl ⟨by rfl, fun _ _ => by kernel_rfl⟩) (rfl) (.inr trivial) ?_
   simp only [Act.put, zqA, zqB, zqC]
   refine tkZ 37 53 (.bool false) rfl rfl (.inl ⟨by rfl, fun _ _ => by kernel_rfl⟩) (rfl) (.inr trivial) ?_
   simp only [Act.put, zqA, zqB, zqC]
   refine wpAnyD_done (by kernel_rfl) ?_
   go_wp2_with (fail)
   go_roundg (L.length - (j + 1) + 1)
   case measure => have := Hk.out; omega
   case rel => exact ⟨j + 1, by omega, by omega, by go_num, hbd⟩
  ·go_wp2_with (fail)
   go_ret
   exact ⟨rfl, hbr⟩
end Go.Proofs.YtjkffjngamagkaaDoor
