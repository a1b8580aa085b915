/- armillaryref19: Wake. -/
import Derived.Test.YtjkffjngamagkaaDoorRefRow
import Derived.Test.YtjkffjngamagkaaDoorRefPut
import Derived.Test.YtjkffjngamagkaaDoorCal5
namespace Go.Proofs.YtjkffjngamagkaaDoor
open Go Go.RowKit Go.Arm
theorem letsOf_append (self : Int) (l m : List WantR) : letsOf self (l ++ m) = letsOf self l ++ letsOf self m := by
 unfold letsOf
 rw [List.filter_append, List.map_append]
section
variable {ops : Array Oper} {Q : Exit → Act → World → Prop} {a : Act} {w : World} {rest : List Oper}
variable {dst : Option Tmp} {ty : TypeId} {pos : String} {after : Array Edge} {K : Act → World → Prop} {E : Prop}
set_option maxRecDepth 100000 in
theorem empty_W {Q : Exit → Act → World → Prop} {S : Nat → Prop} (h : ∀ v, Own (w.alloc (.cells #[] 166)) w.heap.size 166 S ([] : List WantR) v → v.ownBlock = some w.heap.size → wpList Tryd.prog ops Q rest (a.put dst v) (w.alloc (.cells #[] 166))) :
  wpList Tryd.prog ops Q (⟨dst, .buildSlice 69 0 #[], ty, pos, after, none⟩ :: rest) a w := by
 refine wpList_plain rfl fun K hK => ?_
 have ho := Own.made (α := WantR) w 166 S w.heap.size (Nat.le_refl _)
 go_simp
 exact hK _ _ (h _ ho rfl)
set_option maxRecDepth 100000 in
theorem step_empty_W {S : Nat → Prop} (h : ∀ v, Own (w.alloc (.cells #[] 166)) w.heap.size 166 S ([] : List WantR) v → v.ownBlock = some w.heap.size → K (a.put dst v) (w.alloc (.cells #[] 166))) :
  if Region.wanted ⟨dst, .buildSlice 69 0 #[], ty, pos, after, none⟩ (yielded ops a.tmps) = true then Oper.wp Tryd.prog ⟨dst, .buildSlice 69 0 #[], ty, pos, after, none⟩ a w K Q else E :=
 step_of_list rfl (fun a' w' => ∃ v, a' = a.put dst v ∧ w' = w.alloc (.cells #[] 166) ∧ Own w' w.heap.size 166 S ([] : List WantR) v ∧ v.ownBlock = some w.heap.size)
  (fun _ _ hQ => empty_W fun v h1 h2 => hQ _ _ ⟨v, rfl, rfl, h1, h2⟩) fun _ _ ⟨v, e, e2, h1, h2⟩ => by subst e2; exact e ▸ h v h1 h2
end
set_option maxHeartbeats 8000000 in
set_option maxRecDepth 100000 in
theorem rwake_any (w : World) (base : Nat) (M S : Nat → Prop) (g : Nat) (c : CallR) (hC : RefP w base M S g c) (_ : Fr w base M S) (hOk : c.Ok) :
  Calls Tryd.prog 34 #[.pointer (some ⟨g, 0, none⟩)] w fun e w' => ∃ v, e = .returned v ∧ Sl w' (fun k => w.heap.size ≤ k ∧ k < w'.heap.size) c.wake v ∧ Below w.heap.size w w' := by
 obtain ⟨hB6, hQ6, hr, _⟩ := hOk
 have HW : Hid (c.wake = letsOf c.self (c.B ++ c.Q)) := Lib.hid (letsOf_append c.self c.B c.Q).symm
 generalize c.wake = L at *
 obtain ⟨vb, vq, hg, hgb, hMg, hB, hBM, hQ, hQM⟩ := hC
 have hBs : Sl w (fun k => k < w.heap.size) c.B vb := (hB.sl (S' := fun _ => True) (fun _ _ _ => trivial) fun _ _ => trivial).old
 have hQs : Sl w (fun k => k < w.heap.size) c.Q vq := (hQ.sl (S' := fun _ => True) (fun _ _ _ => trivial) fun _ _ => trivial).old
 have hr' : ∀ x, x ∈ c.B ++ c.Q → nright x.note = true := fun x hx => hr x (List.mem_append.1 hx)
 have HR := Lib.hid hr'
 clear hgb hMg hB hBM hQ hQM hr hr'
 go_enter Tryd.func34, Tryd.ntmps34
 go_upto_region 3 with (fail)
 have hd := (Below.refl w.heap.size w).drew
 have hgl := hg.lt
 have hgd := hg.below hd hg.lt
 have hBs : Sl w.drew (fun k => k < w.drew.heap.size) c.B vb := hBs.below hd (Nat.le_refl _)
 have hQs : Sl w.drew (fun k => k < w.drew.heap.size) c.Q vq := hQs.below hd (Nat.le_refl _)
 have hsz : w.drew.heap.size = w.heap.size := rfl
 have hdw : Below w.heap.size w w.drew := hd
 clear hd hg
 refine wp_region_D (fun wq => Blk wq g 71 #[.int .i64 c.self, vb, vq]) 100 (fun _ => True) 13 rfl (by kernel_rfl) ?_
 generalize w.drew = wd at *
 refine tkZ 1 9 (.pointer (some ⟨g, 0, none⟩)) rfl rfl (.inl ⟨by rfl, fun _ _ => by kernel_rfl⟩) (hgd) (.inr trivial) ?_
 simp only [Act.put, zqA, zqB, zqC]
 refine tkZ 2 10 (.pointer (some ⟨g, 0, none⟩)) rfl rfl (.inl ⟨by rfl, fun _ _ => by go_simp⟩) (hgd) (.inr trivial) ?_
 simp only [Act.put, zqA, zqB, zqC]
 refine tkZ 3 11 (.pointer (some ⟨g, 1, none⟩)) rfl rfl (.inl ⟨by rfl, fun _ _ => by go_simp⟩) (hgd) (.inr trivial) ?_
 simp only [Act.put, zqA, zqB, zqC]
 refine tkZ 4 12 (vb) rfl rfl (blk_yields oneWs (by rfl) rfl rfl fun _ h => h) (hgd) (.inr trivial) ?_
 simp only [Act.put, zqA, zqB, zqC]
 refine tkZ 6 14 (.pointer (some ⟨g, 0, none⟩)) rfl rfl (.inl ⟨by rfl, fun _ _ => by kernel_rfl⟩) (hgd) (.inr trivial) ?_
 simp only [Act.put, zqA, zqB, zqC]
 refine tkZ 7 15 (.pointer (some ⟨g, 0, none⟩)) rfl rfl (.inl ⟨by rfl, fun _ _ => by go_simp⟩) (hgd) (.inr trivial) ?_
 simp only [Act.put, zqA, zqB, zqC]
 refine tkZ 8 16 (.pointer (some ⟨g, 2, none⟩)) rfl rfl (.inl ⟨by rfl, fun _ _ => by go_simp⟩) (hgd) (.inr trivial) ?_
 simp only [Act.put, zqA, zqB, zqC]
 refine tkZ 9 17 (vq) rfl rfl (blk_yields oneWs (by rfl) rfl rfl fun _ h => h) (hgd) (.inr trivial) ?_
 simp only [Act.put, zqA, zqB, zqC]
 refine tkZ 12 20 (.int .i64 0) rfl rfl (.inl ⟨by rfl, fun _ _ => by kernel_rfl⟩) (hgd) (.inr trivial) ?_
 simp only [Act.put, zqA, zqB, zqC]
 refine wpAnyD_step (i := 0) (by kernel_rfl) rfl fun K hK => ?_
 refine step_empty_W (S := fun k => k < wd.heap.size) fun v8 m1 m3 => ?_
 have hb8 : Below wd.heap.size wd (wd.alloc (.cells #[] 166)) := (Below.refl _ _).alloc (Nat.le_refl _) _
 have s8 : (wd.alloc (.cells #[] 166)).heap.size = wd.heap.size + 1 := size_alloc _ _
 have hgd := hgd.below hb8 hgd.lt
 have hBs := hBs.below hb8 (Nat.le_refl _)
 have hQs := hQs.below hb8 (Nat.le_refl _)
 generalize (wd.alloc (.cells #[] 166)) = w8 at *
 refine hK _ _ hgd trivial ?_
 clear hK K
 simp only [Act.put, zqA, zqB, zqC]
 have hglt := hgl
 refine wpAnyD_step (i := 5) (by kernel_rfl) rfl fun K hK => ?_
 refine step_append (α := WantR) (B := wd.heap.size) (S := fun k => k < wd.heap.size) (l := ([] : List WantR)) (m := c.B) rowWant rfl (by show 0 < 20; decide) m1 hBs (fun _ _ h => h) (fun b (hb : b < wd.heap.size) _ e => by have := (m1.ge b e).1; omega) (by simp only [maxLen, List.length_nil]; omega) (by simp only [List.length_nil]; omega) hb8.size fun v9 w9 g1 g2 g3 => ?_
 have g2 : w8.grownBy w9 v8.ownBlock := g2
 have hb9 := hb8.trans (below_of_grown g2 hb8.size (fun b e => (m1.ge b e).1))
 have hgd := hgd.grown g2 (fun e => by have := (m1.ge g e).1; omega)
 have hQs : Sl w9 _ c.Q vq := hQs.keep fun b (hb : b < wd.heap.size) hlt => ⟨g2.block b hlt fun e => by have := (m1.ge b e.symm).1; omega, hb⟩
 have h9 := g1
 clear m1 g1 g2 g3
 refine hK _ _ hgd trivial ?_
 clear hK K
 simp only [Act.put, zqA, zqB, zqC]
 have hb8 := hb9
 refine wpAnyD_step (i := 10) (by kernel_rfl) rfl fun K hK => ?_
 refine step_append (α := WantR) (B := wd.heap.size) (S := fun k => k < wd.heap.size) (l := ([] ++ c.B)) (m := c.Q) rowWant rfl (by show 0 < 20; decide) h9 hQs (fun _ _ h => h) (fun b (hb : b < wd.heap.size) _ e => by have := (h9.ge b e).1; omega) (by simp only [maxLen, List.nil_append]; omega) (by simp only [List.nil_append]; omega) hb9.size fun v10 w10 g1 g2 g3 => ?_
 have g2 : w9.grownBy w10 v9.ownBlock := g2
 have hb10 := hb9.trans (below_of_grown g2 hb9.size (fun b e => (h9.ge b e).1))
 have hgd := hgd.grown g2 (fun e => by have := (h9.ge g e).1; omega)
 have h10 := g1
 clear h9 g1 g2 g3
 refine hK _ _ hgd trivial ?_
 clear hK K
 simp only [Act.put, zqA, zqB, zqC]
 have h10 : Own w10 wd.heap.size 166 (fun k => k < wd.heap.size) (c.B ++ c.Q) v10 := h10
 obtain ⟨xa, xn, xc, rfl⟩ := Own.shape h10
 have hxn := sl_lenW (h10.sl (S' := fun _ => True) (fun _ _ _ => trivial) fun _ _ => trivial)
 subst hxn
 refine tkZ 11 19 (.int .i64 ((c.B ++ c.Q).length : Int)) rfl rfl (.inl ⟨by rfl, fun _ _ => by go_simp⟩) (hgd) (.inr trivial) ?_
 simp only [Act.put, zqA, zqB, zqC]
 refine wpAnyD_done (by kernel_rfl) ?_
 have hX := h10
 have hb0 : Below wd.heap.size w w10 := by rw [hsz]; exact hdw.trans (hsz ▸ hb10)
 have hXs : Sl w10 (fun k => k < w10.heap.size) (c.B ++ c.Q) (.slice xa (c.B ++ c.Q).length xc) := (hX.sl (S' := fun _ => True) (fun _ _ _ => trivial) fun _ _ => trivial).old
 have hLl : (c.B ++ c.Q).length ≤ 128 := by rw [List.length_append]; omega
 rw [hsz] at hb0
 have s10 := hb0.size
 clear hX h10 hb8 hb9 hb10 hdw hB6 hQ6
 generalize c.B ++ c.Q = LL at *
 go_wp2_with (first | ((with_reducible apply ugZ); rfl) | ((with_reducible (first | apply len_B | apply len_W | apply len_RL | apply len_L | apply len_Bat | apply len_Qst | apply len_H)); assumption) | ((with_reducible refine stop_ig kC ?_ ?_); rfl))
 go_loopg [3, 5, 20] (LL.length + 1) (fun k x3 x5 i wr => ∃ (j : Nat) (D : List LetR), k = LL.length - j + 1 ∧ j ≤ LL.length ∧ i = .int .i64 j ∧ D = letsOf c.self (LL.take j) ∧ D.length ≤ j ∧ OwnG wr w10.heap.size 167 D x3 ∧ Below w10.heap.size w10 wr)
 case atStart => exact ⟨0, [], by omega, by omega, rfl, rfl, Nat.le_refl _, OwnG.nil _ _ _, Below.refl _ _⟩
 case round =>
  obtain ⟨j, D, hk, hj, rfl, hD, hDl, ho, hbr⟩ := hrel
  have Hk := Lib.hid hk
  have HD := Lib.hid hD
  clear hk hD
  have hpr := hXs.below hbr (Nat.le_refl _)
  have swr := hbr.size
  by_cases hlt : j < LL.length
  ·go_wp2_with (first | ((with_reducible apply ugZ); rfl) | ((with_reducible (first | apply len_B | apply len_W | apply len_RL | apply len_L | apply len_Bat | apply len_Qst | apply len_H)); assumption) | ((with_reducible refine stop_ig kC ?_ ?_); rfl))
   refine Stop.go (idx_W hpr rfl (by omega) (by omega) fun b o z vp vo vv vh v hz hV hv hc => ?_)
   have hz : LL[j]? = some z := by simpa using hz
   have HZ := Lib.hid hz
   have hone := wantC_one z (by obtain ⟨_, _, _, _, e, h1, _⟩ := hV; cases e; exact Sl.slv h1) (by obtain ⟨_, _, _, _, e, _, h1, _⟩ := hV; cases e; exact Sl.slv h1) (by obtain ⟨_, _, _, _, e, _, _, h1, _⟩ := hV; cases e; exact Sl.slv h1) (by obtain ⟨_, _, _, _, e, _, _, _, h1, _⟩ := hV; cases e; exact Sl.slv h1) (Sl.slv hv)
   have hsn := letsOf_snoc c.self LL j z hz
   have HSN := Lib.hid hsn
   have hnr := HR.out z (List.mem_of_getElem? hz)
   have hgr := hgd.below hbr hgd.lt
   clear hz hv hpr hsn
   go_wp2_with (first | ((with_reducible apply ugZ); rfl) | ((with_reducible (first | apply len_B | apply len_W | apply len_RL | apply len_L | apply len_Bat | apply len_Qst | apply len_H)); assumption) | ((with_reducible refine stop_ig kC ?_ ?_); rfl))
   refine Stop.go (cells_loadW (.agg (wantC z vp vo vv vh v)) (wantC z vp vo vv vh v).toList Tryd.underlying166 rfl (by kernel_rfl) rfl hc rfl ?_)
   go_wp2_with (first | ((with_reducible apply ugZ); rfl) | ((with_reducible (first | apply len_B | apply len_W | apply len_RL | apply len_L | apply len_Bat | apply len_Qst | apply len_H)); assumption) | ((with_reducible refine stop_ig kC ?_ ?_); rfl))
   refine Stop.go (blk_alloc (z := .agg zeroWant) (cs := zeroWant) (zero_run (by kernel_rfl)) rfl fun bw w4 hw hwg hb4 => ?_)
   go_wp2_with (first | ((with_reducible apply ugZ); rfl) | ((with_reducible (first | apply len_B | apply len_W | apply len_RL | apply len_L | apply len_Bat | apply len_Qst | apply len_H)); assumption) | ((with_reducible refine stop_ig kC ?_ ?_); rfl))
   refine Stop.go (blk_store_all (cs' := wantC z vp vo vv vh v) hw rfl rfl (by kernel_rfl) rfl hone fun w5 hw5 o5 z5 => ?_)
   have hb5 : Below wr.heap.size wr w5 := hb4.trans (o5.below hb4.size (by rintro k rfl; exact hwg))
   have hbr5 := below_on hbr hb5 swr
   have ho5 := OwnG.below ho hb5 (Nat.le_refl _)
   have hV5 := hV.below hb5 (Nat.le_refl _)
   have hg5 := hgr.below hb5 hgr.lt
   clear hw hb4 o5 z5 hone hc hb5 hbr ho hV hgr
   go_wp2_with (first | ((with_reducible apply ugZ); rfl) | ((with_reducible (first | apply len_B | apply len_W | apply len_RL | apply len_L | apply len_Bat | apply len_Qst | apply len_H)); assumption) | ((with_reducible refine stop_ig kC ?_ ?_); rfl))
   refine Stop.go (blk_load (.bool z.over) oneBool hw5 rfl rfl ?_)
   cases hov : z.over
   ·rw [hov] at HSN
    simp only [Bool.false_eq_true, if_false] at HSN
    clear hov
    go_wp2_with (first | ((with_reducible apply ugZ); rfl) | ((with_reducible (first | apply len_B | apply len_W | apply len_RL | apply len_L | apply len_Bat | apply len_Qst | apply len_H)); assumption) | ((with_reducible refine stop_ig kC ?_ ?_); rfl))
    refine Stop.go (blk_load_subW (noteV z.note vp vo vv vh) (noteV z.note vp vo vv vh).cells.toList Tryd.underlying36 rfl (by kernel_rfl) hw5 rfl rfl rfl ?_)
    go_wp2_with (first | ((with_reducible apply ugZ); rfl) | ((with_reducible (first | apply len_B | apply len_W | apply len_RL | apply len_L | apply len_Bat | apply len_Qst | apply len_H)); assumption) | ((with_reducible refine stop_ig kC ?_ ?_); rfl))
    refine (rletter_any w5 _ z.note _ g c.self _ _ hV5 hg5 hnr).mono ?_
    rintro e w6 ⟨u8, rfl, hu8, hb6⟩
    have hbr6 := below_on hbr5 hb6 hbr5.size
    have ho6 := OwnG.below ho5 hb6 (Nat.le_refl _)
    have s6 := hb6.size
    have s5 := hbr5.size
    clear hV5 hg5 hw5
    go_wp2_with (first | ((with_reducible apply ugZ); rfl) | ((with_reducible (first | apply len_B | apply len_W | apply len_RL | apply len_L | apply len_Bat | apply len_Qst | apply len_H)); assumption) | ((with_reducible refine stop_ig kC ?_ ?_); rfl))
    refine Stop.go (wpList_lit1 (α := LetR) (S := fun k => w5.heap.size ≤ k) rowRL rfl (by show 0 < 3; decide) (by show 3 ≤ 1000; decide) (letOf c.self z.note) rfl ⟨u8, rfl, hu8.sl'⟩ fun v9 w7 m1 m2 m3 m4 => ?_)
    have hbr7 := hbr6.grown0 m2 hbr6.size
    have ho7 := ho6.grown0 m2
    have m1 : Sl w7 (fun k => w5.heap.size ≤ k) _ v9 := m1.sl (fun k h _ => h) fun k hk => by rw [m3] at hk; cases hk; exact s6
    have olt : ∀ k, u3.ownBlock = some k → w10.heap.size ≤ k ∧ k < w5.heap.size := fun k hk => ho5.ge k hk
    clear hu8 ho6 hbr6 m2 m3 m4 hb6
    go_wp2_with (first | ((with_reducible apply ugZ); rfl) | ((with_reducible (first | apply len_B | apply len_W | apply len_RL | apply len_L | apply len_Bat | apply len_Qst | apply len_H)); assumption) | ((with_reducible refine stop_ig kC ?_ ?_); rfl))
    refine Stop.go (wpList_appendG (α := LetR) (B := w10.heap.size) (l := D) (m := [letOf c.self z.note]) rowRL rfl (by show 0 < 3; decide) ho7 m1 (fun b hb _ => ⟨by omega, fun e => by have := (olt b e).2; omega⟩) (by simp only [maxLen, List.length_singleton]; omega) (by simp only [List.length_singleton]; omega) hbr7.size fun v10 w8 g1 g2 g3 => ?_)
    have g2 : w7.grownBy w8 u3.ownBlock := g2
    have hbr8 := hbr7.grown g2 hbr7.size (fun k hk => (olt k hk).1)
    clear ho7 m1 hbr7 g2 g3 olt
    go_wp2_with (fail)
    go_roundg (LL.length - (j + 1) + 1)
    case measure => have := Hk.out; omega
    case rel => exact ⟨j + 1, D ++ [letOf c.self z.note], by omega, by omega, by go_num, by rw [HSN.out, HD.out], by simp; omega, g1, hbr8⟩
   ·rw [hov] at HSN
    simp only [if_true] at HSN
    clear hov
    go_wp2_with (fail)
    go_roundg (LL.length - (j + 1) + 1)
    case measure => have := Hk.out; omega
    case rel => exact ⟨j + 1, D, by omega, by omega, by go_num, by rw [HSN.out, HD.out]; simp, by omega, ho5, hbr5⟩
  ·have HDB : Hid (D = L) := Lib.hid (by rw [HD.out, HW.out, List.take_of_length_le (by omega)])
   go_wp2_with (fail)
   go_ret
   have e := HDB.out
   subst e
   exact ⟨_, rfl, (OwnG.sl ho).wide (fun b hb _ => ⟨by omega, hb.2⟩), below_on hb0 hbr s10⟩
end Go.Proofs.YtjkffjngamagkaaDoor
