/- package caller: Idle, Hear. -/
import Derived.Test.YtjkffjngamagkaaDoorCal6
namespace Go.Arm
open Go.RowKit
theorem hearB_no (n : NoteR) (x : WantR) (h : (x.note.batch == n.batch) = false) : hearB n x = x := by
 unfold hearB; rw [if_neg]; rintro ⟨h1, _⟩; simp [h1] at h
theorem hearB_yes (n : NoteR) (x : WantR) (h : (x.note.batch == n.batch) = true) (h2 : x.over = false ∨ x.code ≠ 0) : hearB n x = { x with over := true, code := n.code, stamp := n.stamp } := by
 unfold hearB; rw [if_pos ⟨by simpa using h, h2⟩]
theorem hearB_over (n : NoteR) (x : WantR) (h : x.over = true) (h2 : x.code = 0) : hearB n x = x := by
 unfold hearB; rw [if_neg]; rintro ⟨_, h1⟩; simp [h, h2] at h1
theorem hearQ_no (n : NoteR) (x : WantR) (h : (x.note.query == n.query) = false) : hearQ n x = x := by
 unfold hearQ; rw [if_neg]; rintro ⟨h1, _⟩; simp [h1] at h
theorem hearQ_yes (n : NoteR) (x : WantR) (h : (x.note.query == n.query) = true) (h2 : x.over = false) : hearQ n x = { x with over := true, code := n.code, stamp := n.stamp, hits := n.hits } := by
 unfold hearQ; rw [if_pos ⟨by simpa using h, h2⟩]
theorem hearQ_over (n : NoteR) (x : WantR) (h : x.over = true) : hearQ n x = x := by
 unfold hearQ; rw [if_neg]; rintro ⟨_, h1⟩; simp [h] at h1
def parted (f : WantR → WantR) (l : List WantR) (j : Nat) : List WantR := (l.take j).map f ++ l.drop j
theorem parted_get (f : WantR → WantR) (l : List WantR) (j : Nat) (x : WantR) (h : l[j]? = some x) : (parted f l j)[j]? = some x := by
 obtain ⟨hlt, rfl⟩ := List.getElem?_eq_some_iff.1 h
 have hl : ((l.take j).map f).length = j := by simp; omega
 unfold parted
 rw [List.getElem?_append_right (by omega), hl, Nat.sub_self, List.getElem?_drop]
 simp
theorem parted_succ (f : WantR → WantR) (l : List WantR) (j : Nat) (x : WantR) (h : l[j]? = some x) : parted f l (j + 1) = (parted f l j).set j (f x) := by
 obtain ⟨hlt, rfl⟩ := List.getElem?_eq_some_iff.1 h
 have hl : ((l.take j).map f).length = j := by simp; omega
 unfold parted
 rw [List.set_append_right _ _ (by omega), hl, Nat.sub_self, List.drop_eq_getElem_cons hlt, List.set_cons_zero, List.take_succ_eq_append_getElem hlt, List.map_append, List.append_assoc]
 rfl
theorem parted_same (f : WantR → WantR) (l : List WantR) (j : Nat) (x : WantR) (h : l[j]? = some x) (hf : f x = x) : parted f l (j + 1) = parted f l j := by
 rw [parted_succ f l j x h, hf]
 have := parted_get f l j x h
 obtain ⟨hl, e⟩ := List.getElem?_eq_some_iff.1 this
 rw [← e]
 exact List.set_getElem_self hl
theorem parted_zero (f : WantR → WantR) (l : List WantR) : parted f l 0 = l := by simp [parted]
theorem parted_all (f : WantR → WantR) (l : List WantR) (j : Nat) (h : l.length ≤ j) : parted f l j = l.map f := by
 unfold parted; rw [List.take_of_length_le h, List.drop_of_length_le h, List.append_nil]
end Go.Arm
namespace Go.Proofs.YtjkffjngamagkaaDoor
open Go Go.RowKit Go.Arm
theorem idle_any (w : World) (base : Nat) (M S : Nat → Prop) (g : Nat) (c : CallR) (hC : CalP w base M S g c) (hF : Fr w base M S) (hOk : c.Ok) :
  Calls Tryd.prog 80 #[.pointer (some ⟨g, 0, none⟩)] w fun e w' => e = .returned (.bool (c.wake.length == 0)) ∧ Below w.heap.size w w' := by
 have hk := wake_any w base M S g c hC hF hOk
 generalize c.wake = L at *
 by_cases h0 : L.length = 0
 ·have hb0 : ((L.length : Int) == 0) = true := by simpa using h0
  have hn0 : (L.length == 0) = true := by simpa using h0
  rw [hn0]
  go_enter Tryd.func80, Tryd.ntmps80
  go_wp2_with (first | ((with_reducible apply ugZ); rfl) | ((with_reducible (first | apply len_B | apply len_PB | apply len_PQ | apply len_L | apply len_Bat | apply len_Qst | apply len_H)); assumption) | ((with_reducible refine stop_ig kC ?_ ?_); rfl))
  refine hk.mono ?_
  rintro e w1 ⟨v, rfl, hv, hb⟩
  clear hk
  go_wp2_with (first | ((with_reducible apply ugZ); rfl) | ((with_reducible (first | apply len_B | apply len_PB | apply len_PQ | apply len_L | apply len_Bat | apply len_Qst | apply len_H)); assumption) | ((with_reducible refine stop_ig kC ?_ ?_); rfl))
  go_ret
  exact ⟨rfl, hb⟩
 ·have hb0 : ((L.length : Int) == 0) = false := beq_eq_false_iff_ne.2 (by omega)
  have hn0 : (L.length == 0) = false := by simpa using h0
  rw [hn0]
  go_enter Tryd.func80, Tryd.ntmps80
  go_wp2_with (first | ((with_reducible apply ugZ); rfl) | ((with_reducible (first | apply len_B | apply len_PB | apply len_PQ | apply len_L | apply len_Bat | apply len_Qst | apply len_H)); assumption) | ((with_reducible refine stop_ig kC ?_ ?_); rfl))
  refine hk.mono ?_
  rintro e w1 ⟨v, rfl, hv, hb⟩
  clear hk
  go_wp2_with (first | ((with_reducible apply ugZ); rfl) | ((with_reducible (first | apply len_B | apply len_PB | apply len_PQ | apply len_L | apply len_Bat | apply len_Qst | apply len_H)); assumption) | ((with_reducible refine stop_ig kC ?_ ?_); rfl))
  go_ret
  exact ⟨rfl, hb⟩
set_option maxHeartbeats 16000000 in
set_option maxRecDepth 100000 in
theorem hear_any (w : World) (hN : Srt w) (hB : Nib w) (base : Nat) (M S S0 : Nat → Prop) (g : Nat) (c : CallR) (src : Int) (l : List UInt8) (p : Value) (hC : CalP w base M S g c) (hF : Fr w base M S) (_ : base ≤ w.heap.size) (hp : Sl w S0 l p) (hl : l.length ≤ 140737488355328) (hOk : c.Ok) :
  Calls Tryd.prog 36 #[.pointer (some ⟨g, 0, none⟩), .int .i64 src, p] w fun e w' => e = .returned (.tuple #[]) ∧
   CalP w' base M (Sx w S M) g (c.hear src (nunp plim l).1 (nunp plim l).2) ∧ Fr w' base M (Sx w S M) ∧ Only M w w' := by
 obtain ⟨hB6, hQ6, _, _⟩ := hOk
 have hun := nunpack_any w S0 l p hB hN hp hl
 generalize nunp plim l = R at *
 obtain ⟨n, er⟩ := R
 obtain ⟨S1, hS1⟩ : ∃ S1 : Nat → Prop, ∀ k, S1 k ↔ S k ∧ k < w.heap.size := ⟨_, fun _ => Iff.rfl⟩
 have hCs : CalP w base M S1 g c := hC.keep (fun k hk => ⟨rfl, hk⟩) fun k hk hlt => ⟨rfl, (hS1 k).2 ⟨hk, hlt⟩⟩
 have hMlt : ∀ k, M k → k < w.heap.size := fun k hk => (hF k hk).2.1
 have hSx : ∀ k, S1 k → Sx w S M k := fun k hk => ⟨fun e => (hF k e).2.2 ((hS1 k).1 hk).1, .inl ((hS1 k).1 hk).1⟩
 have hFs : Fr w base M S1 := fun k hk => ⟨(hF k hk).1, (hF k hk).2.1, fun e => (hF k hk).2.2 ((hS1 k).1 e).1⟩
 have HH : Hid (c.hear src n er = if er ≠ 0 ∨ src ≠ 0 then c else c.heard n) := Lib.hid rfl
 have HHd : Hid (c.heard n = if n.kind = 2 then { c with B := c.B.map (hearB n) } else if n.kind = 11 then { c with Q := c.Q.map (hearQ n) } else c) := Lib.hid rfl
 generalize c.hear src n er = c' at *
 generalize c.heard n = c2 at *
 clear hS1
 go_enter Tryd.func36, Tryd.ntmps36
 go_wp2_with (first | ((with_reducible apply ugZ); rfl) | ((with_reducible (first | apply len_B | apply len_PB | apply len_PQ | apply len_L | apply len_Bat | apply len_Qst | apply len_H)); assumption) | ((with_reducible refine stop_ig kC ?_ ?_); rfl))
 refine hun.mono ?_
 clear hun
 rintro e w1 ⟨V1, rfl, hV1, hb1⟩
 have hV1 : Nt w1 (fun b => w.heap.size ≤ b) n V1 := hV1
 have s1 := hb1.size
 obtain ⟨vp, vo, vv, vh, rfl, h1, h2, h3, hvh, _⟩ := hV1
 have one := noteV_one n (Sl.slv h1) (Sl.slv h2) (Sl.slv h3) (Sl.slv hvh)
 obtain ⟨ha, hn, hcp, rfl⟩ := Sl.shape hvh
 go_wp2_with (first | ((with_reducible apply ugZ); rfl) | ((with_reducible (first | apply len_B | apply len_PB | apply len_PQ | apply len_L | apply len_Bat | apply len_Qst | apply len_H)); assumption) | ((with_reducible refine stop_ig kC ?_ ?_); rfl))
 refine Stop.go (blk_alloc (z := .agg zeroCells) (cs := zeroCells) (zero_run (by kernel_rfl)) rfl fun bn w2 k2 hbn ha2 => ?_)
 go_wp2_with (first | ((with_reducible apply ugZ); rfl) | ((with_reducible (first | apply len_B | apply len_PB | apply len_PQ | apply len_L | apply len_Bat | apply len_Qst | apply len_H)); assumption) | ((with_reducible refine stop_ig kC ?_ ?_); rfl))
 refine Stop.go (blk_store_all (cs' := (noteV n vp vo vv (.slice ha hn hcp)).cells) k2 rfl rfl (by kernel_rfl) rfl one fun w3 k3 o3 z3 => ?_)
 have hbx : Box w3 bn n vp vo vv (.slice ha hn hcp) := k3
 have hb13 : Below w1.heap.size w1 w3 := ha2.trans (o3.below ha2.size (by rintro k rfl; exact hbn))
 have hb3 := below_on hb1 hb13 hb1.size
 have hvh3 := hvh.below hb13 (Nat.le_refl _)
 have s13 := hb13.size
 have hbnl := Blk.lt hbx
 clear h1 h2 h3 one hb1 hvh k2 ha2 k3 o3 z3 hb13
 by_cases her : er = 0
 case neg =>
  have hbe : (er != 0) = true := by simp [her]
  have e : c' = c := by rw [HH.out, if_pos (.inl her)]
  subst e
  clear HH HHd her
  go_wp2_with (fail)
  refine bodyPost_ret (results_none rfl _ _ _) rfl ?_
  exact ⟨rfl, hC.below' hF hb3 (Nat.le_refl _), hF.below' hb3, (Only.of_below hb3).mono fun k h1 h2 => by omega⟩
 subst her
 by_cases hsr : src = 0
 case neg =>
  have hbe : (src != 0) = true := by simp [hsr]
  have e : c' = c := by rw [HH.out, if_pos (.inr hsr)]
  subst e
  clear HH HHd hsr
  go_wp2_with (fail)
  refine bodyPost_ret (results_none rfl _ _ _) rfl ?_
  exact ⟨rfl, hC.below' hF hb3 (Nat.le_refl _), hF.below' hb3, (Only.of_below hb3).mono fun k h1 h2 => by omega⟩
 subst hsr
 have e : c' = c2 := by rw [HH.out, if_neg]; simp
 subst e
 clear HH
 go_wp2_with (first | ((with_reducible apply ugZ); rfl) | ((with_reducible (first | apply len_B | apply len_PB | apply len_PQ | apply len_L | apply len_Bat | apply len_Qst | apply len_H)); assumption) | ((with_reducible refine stop_ig kC ?_ ?_); rfl))
 refine Stop.go (blk_load (cs := (noteV n vp vo vv (.slice ha hn hcp)).cells) (.int .u8 (n.kind.toNat : Int)) oneU8 hbx rfl rfl ?_)
 have hC3 := hCs.below hFs hb3 (Nat.le_refl _)
 obtain ⟨vb, vq, bs, qs, hg, hgb, hMg, hvb, hMvb, hvq, hMvq, hEb, hEq⟩ := hC3
 by_cases hk2 : n.kind = 2
 ·have hkb : ((n.kind.toNat : Int) == 2) = true := by rw [hk2]; decide
  have hkc : ((n.kind.toNat : Int) == 11) = false := by rw [hk2]; decide
  have e : c' = { c with B := c.B.map (hearB n) } := by rw [HHd.out, if_pos hk2]
  subst e
  clear HHd hk2
  go_wp2_with (first | ((with_reducible apply ugZ); rfl) | ((with_reducible (first | apply len_B | apply len_PB | apply len_PQ | apply len_L | apply len_Bat | apply len_Qst | apply len_H)); assumption) | ((with_reducible refine stop_ig kC ?_ ?_); rfl))
  refine Stop.go (blk_load vb onePBs hg rfl rfl ?_)
  have hvs := hvb.sl'
  have HLB := Lib.hid hEb.1
  have hbl : bs.length ≤ 64 := by have := hEb.1; omega
  go_wp2_with (first | ((with_reducible apply ugZ); rfl) | ((with_reducible (first | apply len_B | apply len_PB | apply len_PQ | apply len_L | apply len_Bat | apply len_Qst | apply len_H)); assumption) | ((with_reducible refine stop_ig kC ?_ ?_); rfl))
  obtain ⟨S2, hS2e⟩ : ∃ S2 : Nat → Prop, ∀ k, S2 k ↔ Sx w S M k := ⟨_, fun _ => Iff.rfl⟩
  have hS2 : ∀ k, S2 k → ¬ M k := fun k hk => ((hS2e k).1 hk).1
  have hE0 : Each (BatB w3 S2) base M bs c.B := hEb.mono (fun _ _ h => h) fun b x _ hm h => h.keep rfl fun k hk _ => ⟨rfl, (hS2e k).2 (hSx k hk)⟩
  have HS2e := Lib.hid hS2e
  clear hS2e
  have hrow : ∀ k, vb.ownBlock = some k → k ∉ bs := fun k hk hb => by
   obtain ⟨x, hx⟩ := hE0.ex hb
   obtain ⟨_, h1, _⟩ := hx
   exact own_ne hvb h1 (by decide) hk
  have hgne : g ∉ bs := fun hb => by
   obtain ⟨x, hx⟩ := hE0.ex hb
   obtain ⟨_, h1, _⟩ := hx
   exact blk_ne hg h1 (by decide) rfl
  have hoth : ∀ k, vq.ownBlock = some k → k ∉ bs := fun k hk hb => by
   obtain ⟨x, hx⟩ := hE0.ex hb
   obtain ⟨_, h1, _⟩ := hx
   exact own_ne hvq h1 (by decide) hk
  have hids : ∀ k, k ∈ bs → M k := fun k hk => (hEb.2.2.1 k hk).2
  have sw3 := hb3.size
  obtain ⟨wo, rfl⟩ : ∃ wo : World, wo = w3 := ⟨_, rfl⟩
  go_loopg [9, 36] (bs.length + 1) (fun k x9 i wr => ∃ j : Nat, k = bs.length - j + 1 ∧ j ≤ bs.length ∧ i = .int .i64 j ∧ Each (BatB wr S2) base M bs (parted (hearB n) c.B j) ∧ Only (fun k => k ∈ bs) wo wr)
  case atStart => exact ⟨0, by omega, by omega, rfl, by rw [parted_zero]; exact hE0, Only.refl _ _⟩
  case round =>
   obtain ⟨j, hk, hj, rfl, hE, hor⟩ := hrel
   have Hk := Lib.hid hk
   clear hk
   have hpr := (hvb.only hor (fun b hb e => hrow b hb e)).sl'
   have hbxr := hbx.only hor (fun e => by have := hMlt bn (hids bn e); omega)
   have sor := hor.size
   by_cases hlt : j < bs.length
   ·go_wp2_with (first | ((with_reducible apply ugZ); rfl) | ((with_reducible (first | apply len_B | apply len_PB | apply len_PQ | apply len_L | apply len_Bat | apply len_Qst | apply len_H)); assumption) | ((with_reducible refine stop_ig kC ?_ ?_); rfl))
    refine Stop.go (idx_PB hpr rfl (by omega) (by omega) fun b o y hy hc => ?_)
    have hy : bs[j]? = some y := by simpa using hy
    obtain ⟨z, hz⟩ : ∃ z, c.B[j]? = some z := ⟨_, List.getElem?_eq_getElem (by have := HLB.out; omega)⟩
    have hyM := hE.2.2.1 y (List.mem_of_getElem? hy)
    have hyb := List.mem_of_getElem? hy
    have hylt := hMlt y hyM.2
    have hyn : ¬ bn = y := by omega
    obtain ⟨v, hbk, hbv⟩ := hE.2.2.2 j y z hy (parted_get (hearB n) c.B j z hz)
    have HZ := Lib.hid hz
    have HY := Lib.hid hy
    clear hy hz hpr
    go_wp2_with (first | ((with_reducible refine stop_ig kC ?_ ?_); rfl))
    refine Stop.go (cell_load onePB hc rfl ?_)
    clear hc
    go_upto_region 7 with (fail)
    have hd := (Below.refl wr.heap.size wr).drew
    have hEd : Each (BatB wr.drew S2) base M bs (parted (hearB n) c.B j) := hE.mono (fun _ _ h => h) fun b x _ hm h => h.keep rfl fun k hk _ => ⟨rfl, hk⟩
    have ord : Only (fun k => k ∈ bs) wo wr.drew := hor.trans (Only.of_below hd) (fun k hk h => by omega)
    have hbk := hbk.below hd hbk.lt
    have hbxr := hbxr.below hd (Blk.lt hbxr)
    have hbv := hbv.below hd (Nat.le_refl _)
    clear hE hor hd
    cases hnum : (z.note.batch == n.batch)
    ·have HNB : Hid (((z.note.batch.toNat : Int) == (n.batch.toNat : Int)) = false) := Lib.hid (by rw [u64_beq]; exact hnum)
     refine wp_region_D (fun wq => Blk wq y 155 #[.int .u64 (z.note.batch.toNat : Int), .bool z.over, .int .i64 z.code, .int .u64 (z.stamp.toNat : Int), v] ∧ Box wq bn n vp vo vv (.slice ha hn hcp)) 100 (fun _ => True) 24 rfl (by kernel_rfl) ?_
     generalize wr.drew = wd at *
     refine tkZ 0 40 (.pointer (some ⟨y, 0, none⟩)) rfl rfl (.inl ⟨by rfl, fun _ _ => by kernel_rfl⟩) (⟨hbk, hbxr⟩) (.inr trivial) ?_
     simp only [Act.put, zqA, zqB, zqC]
     refine tkZ 1 41 (.pointer (some ⟨y, 0, none⟩)) rfl rfl (.inl ⟨by rfl, fun _ _ => by kernel_rfl⟩) (⟨hbk, hbxr⟩) (.inr trivial) ?_
     simp only [Act.put, zqA, zqB, zqC]
     refine tkZ 2 42 (.pointer (some ⟨y, 0, none⟩)) rfl rfl (.inl ⟨by rfl, fun _ _ => by go_simp⟩) (⟨hbk, hbxr⟩) (.inr trivial) ?_
     simp only [Act.put, zqA, zqB, zqC]
     refine tkZ 3 43 (.pointer (some ⟨y, 0, none⟩)) rfl rfl (.inl ⟨by rfl, fun _ _ => by go_simp⟩) (⟨hbk, hbxr⟩) (.inr trivial) ?_
     simp only [Act.put, zqA, zqB, zqC]
     refine tkZ 4 44 (.int .u64 (z.note.batch.toNat : Int)) rfl rfl (blk_yields oneU64 (by rfl) rfl rfl fun _ h => h.1) (⟨hbk, hbxr⟩) (.inr trivial) ?_
     simp only [Act.put, zqA, zqB, zqC]
     refine tkZ 5 45 (.pointer (some ⟨bn, 2, none⟩)) rfl rfl (.inl ⟨by rfl, fun _ _ => by go_simp⟩) (⟨hbk, hbxr⟩) (.inr trivial) ?_
     simp only [Act.put, zqA, zqB, zqC]
     refine tkZ 6 46 (.int .u64 (n.batch.toNat : Int)) rfl rfl (blk_yields (cs := (noteV n vp vo vv (.slice ha hn hcp)).cells) oneU64 (by rfl) rfl rfl fun _ h => h.2) (⟨hbk, hbxr⟩) (.inr trivial) ?_
     simp only [Act.put, zqA, zqB, zqC]
     refine tkZ 7 47 (.bool false) rfl rfl (.inl ⟨by rfl, fun _ _ => by go_simp; first | exact HNB.out | exact beq_iff_eq.1 HNB.out | exact beq_eq_false_iff_ne.1 HNB.out⟩) (⟨hbk, hbxr⟩) (.inr trivial) ?_
     simp only [Act.put, zqA, zqB, zqC]
     refine tkZ 8 48 (.bool false) rfl rfl (.inl ⟨by rfl, fun _ _ => by kernel_rfl⟩) (⟨hbk, hbxr⟩) (.inr trivial) ?_
     simp only [Act.put, zqA, zqB, zqC]
     refine tkZ 9 49 (undef) rfl rfl (.inr ⟨by rfl, rfl⟩) (⟨hbk, hbxr⟩) (.inr trivial) ?_
     simp only [Act.put, zqA, zqB, zqC]
     refine tkZ 10 50 (undef) rfl rfl (.inr ⟨by rfl, rfl⟩) (⟨hbk, hbxr⟩) (.inr trivial) ?_
     simp only [Act.put, zqA, zqB, zqC]
     refine tkZ 11 51 (undef) rfl rfl (.inr ⟨by rfl, rfl⟩) (⟨hbk, hbxr⟩) (.inr trivial) ?_
     simp only [Act.put, zqA, zqB, zqC]
     refine tkZ 12 52 (undef) rfl rfl (.inr ⟨by rfl, rfl⟩) (⟨hbk, hbxr⟩) (.inr trivial) ?_
     simp only [Act.put, zqA, zqB, zqC]
     refine tkZ 13 53 (undef) rfl rfl (.inr ⟨by rfl, rfl⟩) (⟨hbk, hbxr⟩) (.inr trivial) ?_
     simp only [Act.put, zqA, zqB, zqC]
     refine tkZ 14 54 (undef) rfl rfl (.inr ⟨by rfl, rfl⟩) (⟨hbk, hbxr⟩) (.inr trivial) ?_
     simp only [Act.put, zqA, zqB, zqC]
     refine tkZ 15 55 (undef) rfl rfl (.inr ⟨by rfl, rfl⟩) (⟨hbk, hbxr⟩) (.inr trivial) ?_
     simp only [Act.put, zqA, zqB, zqC]
     refine tkZ 16 56 (undef) rfl rfl (.inr ⟨by rfl, rfl⟩) (⟨hbk, hbxr⟩) (.inr trivial) ?_
     simp only [Act.put, zqA, zqB, zqC]
     refine tkZ 17 57 (undef) rfl rfl (.inr ⟨by rfl, rfl⟩) (⟨hbk, hbxr⟩) (.inr trivial) ?_
     simp only [Act.put, zqA, zqB, zqC]
     refine tkZ 18 58 (undef) rfl rfl (.inr ⟨by rfl, rfl⟩) (⟨hbk, hbxr⟩) (.inr trivial) ?_
     simp only [Act.put, zqA, zqB, zqC]
     refine tkZ 19 59 (undef) rfl rfl (.inr ⟨by rfl, rfl⟩) (⟨hbk, hbxr⟩) (.inr trivial) ?_
     simp only [Act.put, zqA, zqB, zqC]
     refine tkZ 20 60 (undef) rfl rfl (.inr ⟨by rfl, rfl⟩) (⟨hbk, hbxr⟩) (.inr trivial) ?_
     simp only [Act.put, zqA, zqB, zqC]
     refine tkZ 21 61 (undef) rfl rfl (.inr ⟨by rfl, rfl⟩) (⟨hbk, hbxr⟩) (.inr trivial) ?_
     simp only [Act.put, zqA, zqB, zqC]
     refine tkZ 22 62 (undef) rfl rfl (.inr ⟨by rfl, rfl⟩) (⟨hbk, hbxr⟩) (.inr trivial) ?_
     simp only [Act.put, zqA, zqB, zqC]
     refine tkZ 23 63 (.bool false) rfl rfl (.inl ⟨by rfl, fun _ _ => by kernel_rfl⟩) (⟨hbk, hbxr⟩) (.inr trivial) ?_
     simp only [Act.put, zqA, zqB, zqC]
     refine wpAnyD_done (by kernel_rfl) ?_
     go_wp2_with (fail)
     go_roundg (bs.length - (j + 1) + 1)
     case measure => have := Hk.out; omega
     case rel => exact ⟨j + 1, by omega, by omega, by go_num, by rw [parted_same _ c.B j z HZ.out (hearB_no n z hnum)]; exact hEd, ord⟩
    ·have HNB : Hid (((z.note.batch.toNat : Int) == (n.batch.toNat : Int)) = true) := Lib.hid (by rw [u64_beq]; exact hnum)
     have HNM := Lib.hid hnum
     clear hnum
     cases hov : z.over
     ·rw [hov] at hbk
      have HOV := Lib.hid hov
      clear hov
      refine wp_region_D (fun wq => Blk wq y 155 #[.int .u64 (z.note.batch.toNat : Int), .bool false, .int .i64 z.code, .int .u64 (z.stamp.toNat : Int), v] ∧ Box wq bn n vp vo vv (.slice ha hn hcp)) 100 (fun _ => True) 24 rfl (by kernel_rfl) ?_
      generalize wr.drew = wd at *
      refine tkZ 0 40 (.pointer (some ⟨y, 0, none⟩)) rfl rfl (.inl ⟨by rfl, fun _ _ => by kernel_rfl⟩) (⟨hbk, hbxr⟩) (.inr trivial) ?_
      simp only [Act.put, zqA, zqB, zqC]
      refine tkZ 1 41 (.pointer (some ⟨y, 0, none⟩)) rfl rfl (.inl ⟨by rfl, fun _ _ => by kernel_rfl⟩) (⟨hbk, hbxr⟩) (.inr trivial) ?_
      simp only [Act.put, zqA, zqB, zqC]
      refine tkZ 2 42 (.pointer (some ⟨y, 0, none⟩)) rfl rfl (.inl ⟨by rfl, fun _ _ => by go_simp⟩) (⟨hbk, hbxr⟩) (.inr trivial) ?_
      simp only [Act.put, zqA, zqB, zqC]
      refine tkZ 3 43 (.pointer (some ⟨y, 0, none⟩)) rfl rfl (.inl ⟨by rfl, fun _ _ => by go_simp⟩) (⟨hbk, hbxr⟩) (.inr trivial) ?_
      simp only [Act.put, zqA, zqB, zqC]
      refine tkZ 4 44 (.int .u64 (z.note.batch.toNat : Int)) rfl rfl (blk_yields oneU64 (by rfl) rfl rfl fun _ h => h.1) (⟨hbk, hbxr⟩) (.inr trivial) ?_
      simp only [Act.put, zqA, zqB, zqC]
      refine tkZ 5 45 (.pointer (some ⟨bn, 2, none⟩)) rfl rfl (.inl ⟨by rfl, fun _ _ => by go_simp⟩) (⟨hbk, hbxr⟩) (.inr trivial) ?_
      simp only [Act.put, zqA, zqB, zqC]
      refine tkZ 6 46 (.int .u64 (n.batch.toNat : Int)) rfl rfl (blk_yields (cs := (noteV n vp vo vv (.slice ha hn hcp)).cells) oneU64 (by rfl) rfl rfl fun _ h => h.2) (⟨hbk, hbxr⟩) (.inr trivial) ?_
      simp only [Act.put, zqA, zqB, zqC]
      refine tkZ 7 47 (.bool true) rfl rfl (.inl ⟨by rfl, fun _ _ => by go_simp; first | exact HNB.out | exact beq_iff_eq.1 HNB.out | exact beq_eq_false_iff_ne.1 HNB.out⟩) (⟨hbk, hbxr⟩) (.inr trivial) ?_
      simp only [Act.put, zqA, zqB, zqC]
      refine tkZ 8 48 (.bool true) rfl rfl (.inl ⟨by rfl, fun _ _ => by kernel_rfl⟩) (⟨hbk, hbxr⟩) (.inr trivial) ?_
      simp only [Act.put, zqA, zqB, zqC]
      refine tkZ 9 49 (.pointer (some ⟨y, 0, none⟩)) rfl rfl (.inl ⟨by rfl, fun _ _ => by kernel_rfl⟩) (⟨hbk, hbxr⟩) (.inr trivial) ?_
      simp only [Act.put, zqA, zqB, zqC]
      refine tkZ 10 50 (.pointer (some ⟨y, 0, none⟩)) rfl rfl (.inl ⟨by rfl, fun _ _ => by kernel_rfl⟩) (⟨hbk, hbxr⟩) (.inr trivial) ?_
      simp only [Act.put, zqA, zqB, zqC]
      refine tkZ 11 51 (.pointer (some ⟨y, 0, none⟩)) rfl rfl (.inl ⟨by rfl, fun _ _ => by go_simp⟩) (⟨hbk, hbxr⟩) (.inr trivial) ?_
      simp only [Act.put, zqA, zqB, zqC]
      refine tkZ 12 52 (.pointer (some ⟨y, 1, none⟩)) rfl rfl (.inl ⟨by rfl, fun _ _ => by go_simp⟩) (⟨hbk, hbxr⟩) (.inr trivial) ?_
      simp only [Act.put, zqA, zqB, zqC]
      refine tkZ 13 53 (.bool false) rfl rfl (blk_yields oneBool (by rfl) rfl rfl fun _ h => h.1) (⟨hbk, hbxr⟩) (.inr trivial) ?_
      simp only [Act.put, zqA, zqB, zqC]
      refine tkZ 14 54 (.bool true) rfl rfl (.inl ⟨by rfl, fun _ _ => by kernel_rfl⟩) (⟨hbk, hbxr⟩) (.inr trivial) ?_
      simp only [Act.put, zqA, zqB, zqC]
      refine tkZ 15 55 (.bool true) rfl rfl (.inl ⟨by rfl, fun _ _ => by kernel_rfl⟩) (⟨hbk, hbxr⟩) (.inr trivial) ?_
      simp only [Act.put, zqA, zqB, zqC]
      refine tkZ 16 56 (undef) rfl rfl (.inr ⟨by rfl, rfl⟩) (⟨hbk, hbxr⟩) (.inr trivial) ?_
      simp only [Act.put, zqA, zqB, zqC]
      refine tkZ 17 57 (undef) rfl rfl (.inr ⟨by rfl, rfl⟩) (⟨hbk, hbxr⟩) (.inr trivial) ?_
      simp only [Act.put, zqA, zqB, zqC]
      refine tkZ 18 58 (undef) rfl rfl (.inr ⟨by rfl, rfl⟩) (⟨hbk, hbxr⟩) (.inr trivial) ?_
      simp only [Act.put, zqA, zqB, zqC]
      refine tkZ 19 59 (undef) rfl rfl (.inr ⟨by rfl, rfl⟩) (⟨hbk, hbxr⟩) (.inr trivial) ?_
      simp only [Act.put, zqA, zqB, zqC]
      refine tkZ 20 60 (undef) rfl rfl (.inr ⟨by rfl, rfl⟩) (⟨hbk, hbxr⟩) (.inr trivial) ?_
      simp only [Act.put, zqA, zqB, zqC]
      refine tkZ 21 61 (undef) rfl rfl (.inr ⟨by rfl, rfl⟩) (⟨hbk, hbxr⟩) (.inr trivial) ?_
      simp only [Act.put, zqA, zqB, zqC]
      refine tkZ 22 62 (.bool true) rfl rfl (.inl ⟨by rfl, fun _ _ => by kernel_rfl⟩) (⟨hbk, hbxr⟩) (.inr trivial) ?_
      simp only [Act.put, zqA, zqB, zqC]
      refine tkZ 23 63 (.bool true) rfl rfl (.inl ⟨by rfl, fun _ _ => by kernel_rfl⟩) (⟨hbk, hbxr⟩) (.inr trivial) ?_
      simp only [Act.put, zqA, zqB, zqC]
      refine wpAnyD_done (by kernel_rfl) ?_
      go_upto_region 8 with (fail)
      have hd2 := (Below.refl wd.heap.size wd).drew
      have hbk : Blk wd.drew y 155 #[.int .u64 (z.note.batch.toNat : Int), .bool false, .int .i64 z.code, .int .u64 (z.stamp.toNat : Int), v] := hbk.below hd2 hbk.lt
      have hbxr := hbxr.below hd2 (Blk.lt hbxr)
      have ode := Only.of_below hd2
      have hz2 : wd.drew.heap.size = wd.heap.size := rfl
      clear hd2
      refine wp_region_D (fun wq => Box wq bn n vp vo vv (.slice ha hn hcp)) 100 (fun _ => True) 19 rfl (by kernel_rfl) ?_
      generalize wd.drew = we at *
      refine tkZ 0 64 (.pointer (some ⟨y, 0, none⟩)) rfl rfl (.inl ⟨by rfl, fun _ _ => by kernel_rfl⟩) (hbxr) (.inr trivial) ?_
      simp only [Act.put, zqA, zqB, zqC]
      refine tkZ 1 65 (.pointer (some ⟨y, 0, none⟩)) rfl rfl (.inl ⟨by rfl, fun _ _ => by kernel_rfl⟩) (hbxr) (.inr trivial) ?_
      simp only [Act.put, zqA, zqB, zqC]
      refine tkZ 2 66 (.pointer (some ⟨y, 0, none⟩)) rfl rfl (.inl ⟨by rfl, fun _ _ => by kernel_rfl⟩) (hbxr) (.inr trivial) ?_
      simp only [Act.put, zqA, zqB, zqC]
      refine tkZ 3 67 (.pointer (some ⟨bn, 10, none⟩)) rfl rfl (.inl ⟨by rfl, fun _ _ => by go_simp⟩) (hbxr) (.inr trivial) ?_
      simp only [Act.put, zqA, zqB, zqC]
      refine tkZ 4 68 (.int .i64 n.code) rfl rfl (blk_yields (cs := (noteV n vp vo vv (.slice ha hn hcp)).cells) oneErr (by rfl) rfl rfl fun _ h => h) (hbxr) (.inr trivial) ?_
      simp only [Act.put, zqA, zqB, zqC]
      refine tkZ 5 69 (.pointer (some ⟨bn, 3, none⟩)) rfl rfl (.inl ⟨by rfl, fun _ _ => by go_simp⟩) (hbxr) (.inr trivial) ?_
      simp only [Act.put, zqA, zqB, zqC]
      refine tkZ 6 70 (.int .u64 (n.stamp.toNat : Int)) rfl rfl (blk_yields (cs := (noteV n vp vo vv (.slice ha hn hcp)).cells) oneU64 (by rfl) rfl rfl fun _ h => h) (hbxr) (.inr trivial) ?_
      simp only [Act.put, zqA, zqB, zqC]
      refine tkZ 7 71 (.pointer (some ⟨y, 0, none⟩)) rfl rfl (.inl ⟨by rfl, fun _ _ => by kernel_rfl⟩) (hbxr) (.inr trivial) ?_
      simp only [Act.put, zqA, zqB, zqC]
      refine tkZ 8 72 (.pointer (some ⟨y, 0, none⟩)) rfl rfl (.inl ⟨by rfl, fun _ _ => by go_simp⟩) (hbxr) (.inr trivial) ?_
      simp only [Act.put, zqA, zqB, zqC]
      refine tkZ 9 73 (.pointer (some ⟨y, 1, none⟩)) rfl rfl (.inl ⟨by rfl, fun _ _ => by go_simp⟩) (hbxr) (.inr trivial) ?_
      simp only [Act.put, zqA, zqB, zqC]
      refine wpAnyD_step (i := 10) (by kernel_rfl) rfl fun K hK => ?_
      refine step_blk_store (.bool true) oneBool hbk rfl rfl rfl rfl (by simp) fun wx hbk ox sx => ?_
      have hbk : Blk wx y 155 #[.int .u64 (z.note.batch.toNat : Int), .bool true, .int .i64 z.code, .int .u64 (z.stamp.toNat : Int), v] := hbk
      have hbxr := hbxr.only ox hyn
      have oy : Only (fun k => k = y) we wx := ox
      refine hK _ _ hbxr trivial ?_
      clear hK K ox sx
      simp only [Act.put]
      refine tkZ 11 74 (.pointer (some ⟨y, 0, none⟩)) rfl rfl (.inl ⟨by rfl, fun _ _ => by kernel_rfl⟩) (hbxr) (.inr trivial) ?_
      simp only [Act.put, zqA, zqB, zqC]
      refine tkZ 12 75 (.pointer (some ⟨y, 0, none⟩)) rfl rfl (.inl ⟨by rfl, fun _ _ => by go_simp⟩) (hbxr) (.inr trivial) ?_
      simp only [Act.put, zqA, zqB, zqC]
      refine tkZ 13 76 (.pointer (some ⟨y, 2, none⟩)) rfl rfl (.inl ⟨by rfl, fun _ _ => by go_simp⟩) (hbxr) (.inr trivial) ?_
      simp only [Act.put, zqA, zqB, zqC]
      refine wpAnyD_step (i := 14) (by kernel_rfl) rfl fun K hK => ?_
      refine step_blk_store (.int .i64 n.code) oneErr hbk rfl rfl rfl rfl (by simp) fun wx hbk ox sx => ?_
      have hbk : Blk wx y 155 #[.int .u64 (z.note.batch.toNat : Int), .bool true, .int .i64 n.code, .int .u64 (z.stamp.toNat : Int), v] := hbk
      have hbxr := hbxr.only ox hyn
      have oy := oy.trans ox (fun _ _ h => h)
      refine hK _ _ hbxr trivial ?_
      clear hK K ox sx
      simp only [Act.put]
      refine tkZ 15 77 (.pointer (some ⟨y, 0, none⟩)) rfl rfl (.inl ⟨by rfl, fun _ _ => by kernel_rfl⟩) (hbxr) (.inr trivial) ?_
      simp only [Act.put, zqA, zqB, zqC]
      refine tkZ 16 78 (.pointer (some ⟨y, 0, none⟩)) rfl rfl (.inl ⟨by rfl, fun _ _ => by go_simp⟩) (hbxr) (.inr trivial) ?_
      simp only [Act.put, zqA, zqB, zqC]
      refine tkZ 17 79 (.pointer (some ⟨y, 3, none⟩)) rfl rfl (.inl ⟨by rfl, fun _ _ => by go_simp⟩) (hbxr) (.inr trivial) ?_
      simp only [Act.put, zqA, zqB, zqC]
      refine wpAnyD_step (i := 18) (by kernel_rfl) rfl fun K hK => ?_
      refine step_blk_store (.int .u64 (n.stamp.toNat : Int)) oneU64 hbk rfl rfl rfl rfl (by simp) fun wx hbk ox sx => ?_
      have hbk : Blk wx y 155 #[.int .u64 (z.note.batch.toNat : Int), .bool true, .int .i64 n.code, .int .u64 (n.stamp.toNat : Int), v] := hbk
      have hbxr := hbxr.only ox hyn
      have oy := oy.trans ox (fun _ _ h => h)
      refine hK _ _ hbxr trivial ?_
      clear hK K ox sx
      simp only [Act.put]
      refine wpAnyD_done (by kernel_rfl) ?_
      have owx : Only (fun k => k = y) wd wx := (ode.mono (G := fun k => k = y) fun k hk h => by omega).trans oy (fun _ _ h => h)
      go_wp2_with (fail)
      go_roundg (bs.length - (j + 1) + 1)
      case measure => have := Hk.out; omega
      case rel =>
       refine ⟨j + 1, by omega, by omega, by go_num, ?_, ord.trans owx (fun k _ h => h ▸ hyb)⟩
       rw [parted_succ _ c.B j z HZ.out, hearB_yes n z HNM.out (.inl HOV.out)]
       refine hEd.set HY.out (fun b x hb hne h => ?_) ?_
       ·exact h.keep (owx.block b (by have := hEd.2.2.1 b hb; have := hMlt b this.2; have := ord.size; omega) hne) fun k hk hlt => ⟨owx.block k hlt (fun e => (hS2 k hk) (e ▸ hyM.2)), hk⟩
       ·exact ⟨v, hbk, hbv.keep fun k hk hlt => ⟨owx.block k hlt (fun e => (hS2 k hk) (e ▸ hyM.2)), hk⟩⟩
     ·rw [hov] at hbk
      have HOV := Lib.hid hov
      clear hov
      obtain ⟨cb, hcb⟩ : ∃ cb, cb = (z.code != 0) := ⟨_, rfl⟩
      have HCB := Lib.hid hcb
      clear hcb
      refine wp_region_D (fun wq => Blk wq y 155 #[.int .u64 (z.note.batch.toNat : Int), .bool true, .int .i64 z.code, .int .u64 (z.stamp.toNat : Int), v] ∧ Box wq bn n vp vo vv (.slice ha hn hcp)) 100 (fun _ => True) 24 rfl (by kernel_rfl) ?_
      generalize wr.drew = wd at *
      refine tkZ 0 40 (.pointer (some ⟨y, 0, none⟩)) rfl rfl (.inl ⟨by rfl, fun _ _ => by kernel_rfl⟩) (⟨hbk, hbxr⟩) (.inr trivial) ?_
      simp only [Act.put, zqA, zqB, zqC]
      refine tkZ 1 41 (.pointer (some ⟨y, 0, none⟩)) rfl rfl (.inl ⟨by rfl, fun _ _ => by kernel_rfl⟩) (⟨hbk, hbxr⟩) (.inr trivial) ?_
      simp only [Act.put, zqA, zqB, zqC]
      refine tkZ 2 42 (.pointer (some ⟨y, 0, none⟩)) rfl rfl (.inl ⟨by rfl, fun _ _ => by go_simp⟩) (⟨hbk, hbxr⟩) (.inr trivial) ?_
      simp only [Act.put, zqA, zqB, zqC]
      refine tkZ 3 43 (.pointer (some ⟨y, 0, none⟩)) rfl rfl (.inl ⟨by rfl, fun _ _ => by go_simp⟩) (⟨hbk, hbxr⟩) (.inr trivial) ?_
      simp only [Act.put, zqA, zqB, zqC]
      refine tkZ 4 44 (.int .u64 (z.note.batch.toNat : Int)) rfl rfl (blk_yields oneU64 (by rfl) rfl rfl fun _ h => h.1) (⟨hbk, hbxr⟩) (.inr trivial) ?_
      simp only [Act.put, zqA, zqB, zqC]
      refine tkZ 5 45 (.pointer (some ⟨bn, 2, none⟩)) rfl rfl (.inl ⟨by rfl, fun _ _ => by go_simp⟩) (⟨hbk, hbxr⟩) (.inr trivial) ?_
      simp only [Act.put, zqA, zqB, zqC]
      refine tkZ 6 46 (.int .u64 (n.batch.toNat : Int)) rfl rfl (blk_yields (cs := (noteV n vp vo vv (.slice ha hn hcp)).cells) oneU64 (by rfl) rfl rfl fun _ h => h.2) (⟨hbk, hbxr⟩) (.inr trivial) ?_
      simp only [Act.put, zqA, zqB, zqC]
      refine tkZ 7 47 (.bool true) rfl rfl (.inl ⟨by rfl, fun _ _ => by go_simp; first | exact HNB.out | exact beq_iff_eq.1 HNB.out | exact beq_eq_false_iff_ne.1 HNB.out⟩) (⟨hbk, hbxr⟩) (.inr trivial) ?_
      simp only [Act.put, zqA, zqB, zqC]
      refine tkZ 8 48 (.bool true) rfl rfl (.inl ⟨by rfl, fun _ _ => by kernel_rfl⟩) (⟨hbk, hbxr⟩) (.inr trivial) ?_
      simp only [Act.put, zqA, zqB, zqC]
      refine tkZ 9 49 (.pointer (some ⟨y, 0, none⟩)) rfl rfl (.inl ⟨by rfl, fun _ _ => by kernel_rfl⟩) (⟨hbk, hbxr⟩) (.inr trivial) ?_
      simp only [Act.put, zqA, zqB, zqC]
      refine tkZ 10 50 (.pointer (some ⟨y, 0, none⟩)) rfl rfl (.inl ⟨by rfl, fun _ _ => by kernel_rfl⟩) (⟨hbk, hbxr⟩) (.inr trivial) ?_
      simp only [Act.put, zqA, zqB, zqC]
      refine tkZ 11 51 (.pointer (some ⟨y, 0, none⟩)) rfl rfl (.inl ⟨by rfl, fun _ _ => by go_simp⟩) (⟨hbk, hbxr⟩) (.inr trivial) ?_
      simp only [Act.put, zqA, zqB, zqC]
      refine tkZ 12 52 (.pointer (some ⟨y, 1, none⟩)) rfl rfl (.inl ⟨by rfl, fun _ _ => by go_simp⟩) (⟨hbk, hbxr⟩) (.inr trivial) ?_
      simp only [Act.put, zqA, zqB, zqC]
      refine tkZ 13 53 (.bool true) rfl rfl (blk_yields oneBool (by rfl) rfl rfl fun _ h => h.1) (⟨hbk, hbxr⟩) (.inr trivial) ?_
      simp only [Act.put, zqA, zqB, zqC]
      refine tkZ 14 54 (.bool false) rfl rfl (.inl ⟨by rfl, fun _ _ => by kernel_rfl⟩) (⟨hbk, hbxr⟩) (.inr trivial) ?_
      simp only [Act.put, zqA, zqB, zqC]
      refine tkZ 15 55 (.bool false) rfl rfl (.inl ⟨by rfl, fun _ _ => by kernel_rfl⟩) (⟨hbk, hbxr⟩) (.inr trivial) ?_
      simp only [Act.put, zqA, zqB, zqC]
      refine tkZ 16 56 (.pointer (some ⟨y, 0, none⟩)) rfl rfl (.inl ⟨by rfl, fun _ _ => by kernel_rfl⟩) (⟨hbk, hbxr⟩) (.inr trivial) ?_
      simp only [Act.put, zqA, zqB, zqC]
      refine tkZ 17 57 (.pointer (some ⟨y, 0, none⟩)) rfl rfl (.inl ⟨by rfl, fun _ _ => by kernel_rfl⟩) (⟨hbk, hbxr⟩) (.inr trivial) ?_
      simp only [Act.put, zqA, zqB, zqC]
      refine tkZ 18 58 (.pointer (some ⟨y, 0, none⟩)) rfl rfl (.inl ⟨by rfl, fun _ _ => by go_simp⟩) (⟨hbk, hbxr⟩) (.inr trivial) ?_
      simp only [Act.put, zqA, zqB, zqC]
      refine tkZ 19 59 (.pointer (some ⟨y, 2, none⟩)) rfl rfl (.inl ⟨by rfl, fun _ _ => by go_simp⟩) (⟨hbk, hbxr⟩) (.inr trivial) ?_
      simp only [Act.put, zqA, zqB, zqC]
      refine tkZ 20 60 (.int .i64 z.code) rfl rfl (blk_yields oneErr (by rfl) rfl rfl fun _ h => h.1) (⟨hbk, hbxr⟩) (.inr trivial) ?_
      simp only [Act.put, zqA, zqB, zqC]
      refine tkZ 21 61 (.bool cb) rfl rfl (.inl ⟨by rfl, fun _ _ => by go_simp; exact HCB.out.symm⟩) (⟨hbk, hbxr⟩) (.inr trivial) ?_
      simp only [Act.put, zqA, zqB, zqC]
      refine tkZ 22 62 (.bool cb) rfl rfl (.inl ⟨by rfl, fun _ _ => by kernel_rfl⟩) (⟨hbk, hbxr⟩) (.inr trivial) ?_
      simp only [Act.put, zqA, zqB, zqC]
      refine tkZ 23 63 (.bool cb) rfl rfl (.inl ⟨by rfl, fun _ _ => by kernel_rfl⟩) (⟨hbk, hbxr⟩) (.inr trivial) ?_
      simp only [Act.put, zqA, zqB, zqC]
      refine wpAnyD_done (by kernel_rfl) ?_
      cases cb
      ·go_wp2_with (fail)
       go_roundg (bs.length - (j + 1) + 1)
       case measure => have := Hk.out; omega
       case rel => exact ⟨j + 1, by omega, by omega, by go_num, by rw [parted_same _ c.B j z HZ.out (hearB_over n z HOV.out (by have := HCB.out; simpa using this.symm))]; exact hEd, ord⟩
      ·go_upto_region 8 with (fail)
       have hd2 := (Below.refl wd.heap.size wd).drew
       have hbk : Blk wd.drew y 155 #[.int .u64 (z.note.batch.toNat : Int), .bool true, .int .i64 z.code, .int .u64 (z.stamp.toNat : Int), v] := hbk.below hd2 hbk.lt
       have hbxr := hbxr.below hd2 (Blk.lt hbxr)
       have ode := Only.of_below hd2
       have hz2 : wd.drew.heap.size = wd.heap.size := rfl
       clear hd2
       refine wp_region_D (fun wq => Box wq bn n vp vo vv (.slice ha hn hcp)) 100 (fun _ => True) 19 rfl (by kernel_rfl) ?_
       generalize wd.drew = we at *
       refine tkZ 0 64 (.pointer (some ⟨y, 0, none⟩)) rfl rfl (.inl ⟨by rfl, fun _ _ => by kernel_rfl⟩) (hbxr) (.inr trivial) ?_
       simp only [Act.put, zqA, zqB, zqC]
       refine tkZ 1 65 (.pointer (some ⟨y, 0, none⟩)) rfl rfl (.inl ⟨by rfl, fun _ _ => by kernel_rfl⟩) (hbxr) (.inr trivial) ?_
       simp only [Act.put, zqA, zqB, zqC]
       refine tkZ 2 66 (.pointer (some ⟨y, 0, none⟩)) rfl rfl (.inl ⟨by rfl, fun _ _ => by kernel_rfl⟩) (hbxr) (.inr trivial) ?_
       simp only [Act.put, zqA, zqB, zqC]
       refine tkZ 3 67 (.pointer (some ⟨bn, 10, none⟩)) rfl rfl (.inl ⟨by rfl, fun _ _ => by go_simp⟩) (hbxr) (.inr trivial) ?_
       simp only [Act.put, zqA, zqB, zqC]
       refine tkZ 4 68 (.int .i64 n.code) rfl rfl (blk_yields (cs := (noteV n vp vo vv (.slice ha hn hcp)).cells) oneErr (by rfl) rfl rfl fun _ h => h) (hbxr) (.inr trivial) ?_
       simp only [Act.put, zqA, zqB, zqC]
       refine tkZ 5 69 (.pointer (some ⟨bn, 3, none⟩)) rfl rfl (.inl ⟨by rfl, fun _ _ => by go_simp⟩) (hbxr) (.inr trivial) ?_
       simp only [Act.put, zqA, zqB, zqC]
       refine tkZ 6 70 (.int .u64 (n.stamp.toNat : Int)) rfl rfl (blk_yields (cs := (noteV n vp vo vv (.slice ha hn hcp)).cells) oneU64 (by rfl) rfl rfl fun _ h => h) (hbxr) (.inr trivial) ?_
       simp only [Act.put, zqA, zqB, zqC]
       refine tkZ 7 71 (.pointer (some ⟨y, 0, none⟩)) rfl rfl (.inl ⟨by rfl, fun _ _ => by kernel_rfl⟩) (hbxr) (.inr trivial) ?_
       simp only [Act.put, zqA, zqB, zqC]
       refine tkZ 8 72 (.pointer (some ⟨y, 0, none⟩)) rfl rfl (.inl ⟨by rfl, fun _ _ => by go_simp⟩) (hbxr) (.inr trivial) ?_
       simp only [Act.put, zqA, zqB, zqC]
       refine tkZ 9 73 (.pointer (some ⟨y, 1, none⟩)) rfl rfl (.inl ⟨by rfl, fun _ _ => by go_simp⟩) (hbxr) (.inr trivial) ?_
       simp only [Act.put, zqA, zqB, zqC]
       refine wpAnyD_step (i := 10) (by kernel_rfl) rfl fun K hK => ?_
       refine step_blk_store (.bool true) oneBool hbk rfl rfl rfl rfl (by simp) fun wx hbk ox sx => ?_
       have hbk : Blk wx y 155 #[.int .u64 (z.note.batch.toNat : Int), .bool true, .int .i64 z.code, .int .u64 (z.stamp.toNat : Int), v] := hbk
       have hbxr := hbxr.only ox hyn
       have oy : Only (fun k => k = y) we wx := ox
       refine hK _ _ hbxr trivial ?_
       clear hK K ox sx
       simp only [Act.put]
       refine tkZ 11 74 (.pointer (some ⟨y, 0, none⟩)) rfl rfl (.inl ⟨by rfl, fun _ _ => by kernel_rfl⟩) (hbxr) (.inr trivial) ?_
       simp only [Act.put, zqA, zqB, zqC]
       refine tkZ 12 75 (.pointer (some ⟨y, 0, none⟩)) rfl rfl (.inl ⟨by rfl, fun _ _ => by go_simp⟩) (hbxr) (.inr trivial) ?_
       simp only [Act.put, zqA, zqB, zqC]
       refine tkZ 13 76 (.pointer (some ⟨y, 2, none⟩)) rfl rfl (.inl ⟨by rfl, fun _ _ => by go_simp⟩) (hbxr) (.inr trivial) ?_
       simp only [Act.put, zqA, zqB, zqC]
       refine wpAnyD_step (i := 14) (by kernel_rfl) rfl fun K hK => ?_
       refine step_blk_store (.int .i64 n.code) oneErr hbk rfl rfl rfl rfl (by simp) fun wx hbk ox sx => ?_
       have hbk : Blk wx y 155 #[.int .u64 (z.note.batch.toNat : Int), .bool true, .int .i64 n.code, .int .u64 (z.stamp.toNat : Int), v] := hbk
       have hbxr := hbxr.only ox hyn
       have oy := oy.trans ox (fun _ _ h => h)
       refine hK _ _ hbxr trivial ?_
       clear hK K ox sx
       simp only [Act.put]
       refine tkZ 15 77 (.pointer (some ⟨y, 0, none⟩)) rfl rfl (.inl ⟨by rfl, fun _ _ => by kernel_rfl⟩) (hbxr) (.inr trivial) ?_
       simp only [Act.put, zqA, zqB, zqC]
       refine tkZ 16 78 (.pointer (some ⟨y, 0, none⟩)) rfl rfl (.inl ⟨by rfl, fun _ _ => by go_simp⟩) (hbxr) (.inr trivial) ?_
       simp only [Act.put, zqA, zqB, zqC]
       refine tkZ 17 79 (.pointer (some ⟨y, 3, none⟩)) rfl rfl (.inl ⟨by rfl, fun _ _ => by go_simp⟩) (hbxr) (.inr trivial) ?_
       simp only [Act.put, zqA, zqB, zqC]
       refine wpAnyD_step (i := 18) (by kernel_rfl) rfl fun K hK => ?_
       refine step_blk_store (.int .u64 (n.stamp.toNat : Int)) oneU64 hbk rfl rfl rfl rfl (by simp) fun wx hbk ox sx => ?_
       have hbk : Blk wx y 155 #[.int .u64 (z.note.batch.toNat : Int), .bool true, .int .i64 n.code, .int .u64 (n.stamp.toNat : Int), v] := hbk
       have hbxr := hbxr.only ox hyn
       have oy := oy.trans ox (fun _ _ h => h)
       refine hK _ _ hbxr trivial ?_
       clear hK K ox sx
       simp only [Act.put]
       refine wpAnyD_done (by kernel_rfl) ?_
       have owx : Only (fun k => k = y) wd wx := (ode.mono (G := fun k => k = y) fun k hk h => by omega).trans oy (fun _ _ h => h)
       go_wp2_with (fail)
       go_roundg (bs.length - (j + 1) + 1)
       case measure => have := Hk.out; omega
       case rel =>
        refine ⟨j + 1, by omega, by omega, by go_num, ?_, ord.trans owx (fun k _ h => h ▸ hyb)⟩
        rw [parted_succ _ c.B j z HZ.out, hearB_yes n z HNM.out (.inr (by have := HCB.out; simpa using this.symm))]
        refine hEd.set HY.out (fun b x hb hne h => ?_) ?_
        ·exact h.keep (owx.block b (by have := hEd.2.2.1 b hb; have := hMlt b this.2; have := ord.size; omega) hne) fun k hk hlt => ⟨owx.block k hlt (fun e => (hS2 k hk) (e ▸ hyM.2)), hk⟩
        ·exact ⟨v, hbk, hbv.keep fun k hk hlt => ⟨owx.block k hlt (fun e => (hS2 k hk) (e ▸ hyM.2)), hk⟩⟩
   ·have hEj := hE
    rw [parted_all _ _ _ (by have := HLB.out; omega)] at hEj
    go_wp2_with (fail)
    go_end0
    have kS : ∀ k, S1 k → k < wo.heap.size → wr.heap[k]? = wo.heap[k]? ∧ Sx w S M k := fun k hk hlt => ⟨hor.block k hlt (fun e => (hFs k (hids k e)).2.2 hk), hSx k hk⟩
    have hEm := hEj.mono (T' := BatB wr (Sx w S M)) (M' := M) (fun _ _ h => h) fun b x _ hm h => h.keep rfl fun k hk _ => ⟨rfl, (HS2e.out k).1 hk⟩
    refine ⟨rfl, ⟨vb, vq, bs, qs, hg.only hor hgne, hgb, hMg, hvb.only hor (fun k hk e => hrow k hk e), hMvb, hvq.only hor (fun k hk e => hoth k hk e), hMvq, hEm, ?_⟩, ?_, ?_⟩
    ·refine hEq.mono (fun _ _ h => h) fun b x _ hm h => ?_
     obtain ⟨_, _, h1, _⟩ := id h
     refine h.keep (hor.block b h1.lt fun e => ?_) kS
     obtain ⟨x2, hx2⟩ := hE0.ex e
     obtain ⟨_, h2, _⟩ := hx2
     exact blk_ne h1 h2 (by decide) rfl
    ·exact fun k hk => ⟨(hF k hk).1, by have := (hF k hk).2.1; omega, fun e => e.1 hk⟩
    ·exact ((Only.of_below hb3).mono (G := M) fun k h1 h2 => by omega).trans hor (fun k _ h => hids k h)
 by_cases hk11 : n.kind = 11
 ·have hk2' : ((n.kind.toNat : Int) == 2) = false := by rw [hk11]; decide
  have hkb : ((n.kind.toNat : Int) == 11) = true := by rw [hk11]; decide
  have e : c' = { c with Q := c.Q.map (hearQ n) } := by rw [HHd.out, if_neg hk2, if_pos hk11]
  subst e
  clear HHd hk2 hk11
  go_wp2_with (first | ((with_reducible apply ugZ); rfl) | ((with_reducible (first | apply len_B | apply len_PB | apply len_PQ | apply len_L | apply len_Bat | apply len_Qst | apply len_H)); assumption) | ((with_reducible refine stop_ig kC ?_ ?_); rfl))
  refine Stop.go (blk_load vq onePQs hg rfl rfl ?_)
  have hvs := hvq.sl'
  have HLB := Lib.hid hEq.1
  have hbl : qs.length ≤ 64 := by have := hEq.1; omega
  go_wp2_with (first | ((with_reducible apply ugZ); rfl) | ((with_reducible (first | apply len_B | apply len_PB | apply len_PQ | apply len_L | apply len_Bat | apply len_Qst | apply len_H)); assumption) | ((with_reducible refine stop_ig kC ?_ ?_); rfl))
  obtain ⟨S2, hS2e⟩ : ∃ S2 : Nat → Prop, ∀ k, S2 k ↔ Sx w S M k := ⟨_, fun _ => Iff.rfl⟩
  have hS2 : ∀ k, S2 k → ¬ M k := fun k hk => ((hS2e k).1 hk).1
  have hE0 : Each (QstB w3 S2) base M qs c.Q := hEq.mono (fun _ _ h => h) fun b x _ hm h => h.keep rfl fun k hk _ => ⟨rfl, (hS2e k).2 (hSx k hk)⟩
  have hvh2 : Sl w3 S2 n.hits (.slice ha hn hcp) := hvh3.wide fun b hb _ => (hS2e b).2 ⟨fun e => by have := hMlt b e; omega, .inr hb⟩
  have HS2e := Lib.hid hS2e
  clear hS2e
  have hrow : ∀ k, vq.ownBlock = some k → k ∉ qs := fun k hk hb => by
   obtain ⟨x, hx⟩ := hE0.ex hb
   obtain ⟨_, _, h1, _⟩ := hx
   exact own_ne hvq h1 (by decide) hk
  have hgne : g ∉ qs := fun hb => by
   obtain ⟨x, hx⟩ := hE0.ex hb
   obtain ⟨_, _, h1, _⟩ := hx
   exact blk_ne hg h1 (by decide) rfl
  have hoth : ∀ k, vb.ownBlock = some k → k ∉ qs := fun k hk hb => by
   obtain ⟨x, hx⟩ := hE0.ex hb
   obtain ⟨_, _, h1, _⟩ := hx
   exact own_ne hvb h1 (by decide) hk
  have hids : ∀ k, k ∈ qs → M k := fun k hk => (hEq.2.2.1 k hk).2
  have sw3 := hb3.size
  obtain ⟨wo, rfl⟩ : ∃ wo : World, wo = w3 := ⟨_, rfl⟩
  go_loopg [11, 88] (qs.length + 1) (fun k x9 i wr => ∃ j : Nat, k = qs.length - j + 1 ∧ j ≤ qs.length ∧ i = .int .i64 j ∧ Each (QstB wr S2) base M qs (parted (hearQ n) c.Q j) ∧ Only (fun k => k ∈ qs) wo wr)
  case atStart => exact ⟨0, by omega, by omega, rfl, by rw [parted_zero]; exact hE0, Only.refl _ _⟩
  case round =>
   obtain ⟨j, hk, hj, rfl, hE, hor⟩ := hrel
   have Hk := Lib.hid hk
   clear hk
   have hpr := (hvq.only hor (fun b hb e => hrow b hb e)).sl'
   have hbxr := hbx.only hor (fun e => by have := hMlt bn (hids bn e); omega)
   have sor := hor.size
   by_cases hlt : j < qs.length
   ·go_wp2_with (first | ((with_reducible apply ugZ); rfl) | ((with_reducible (first | apply len_B | apply len_PB | apply len_PQ | apply len_L | apply len_Bat | apply len_Qst | apply len_H)); assumption) | ((with_reducible refine stop_ig kC ?_ ?_); rfl))
    refine Stop.go (idx_PQ hpr rfl (by omega) (by omega) fun b o y hy hc => ?_)
    have hy : qs[j]? = some y := by simpa using hy
    obtain ⟨z, hz⟩ : ∃ z, c.Q[j]? = some z := ⟨_, List.getElem?_eq_getElem (by have := HLB.out; omega)⟩
    have hyM := hE.2.2.1 y (List.mem_of_getElem? hy)
    have hyb := List.mem_of_getElem? hy
    have hylt := hMlt y hyM.2
    have hyn : ¬ bn = y := by omega
    obtain ⟨vz, v, hbk, _, hbv⟩ := hE.2.2.2 j y z hy (parted_get (hearQ n) c.Q j z hz)
    have HZ := Lib.hid hz
    have HY := Lib.hid hy
    clear hy hz hpr
    go_wp2_with (first | ((with_reducible refine stop_ig kC ?_ ?_); rfl))
    refine Stop.go (cell_load onePQ hc rfl ?_)
    clear hc
    go_upto_region 14 with (fail)
    have hd := (Below.refl wr.heap.size wr).drew
    have hEd : Each (QstB wr.drew S2) base M qs (parted (hearQ n) c.Q j) := hE.mono (fun _ _ h => h) fun b x _ hm h => h.keep rfl fun k hk _ => ⟨rfl, hk⟩
    have ord : Only (fun k => k ∈ qs) wo wr.drew := hor.trans (Only.of_below hd) (fun k hk h => by omega)
    have hbk := hbk.below hd hbk.lt
    have hbxr := hbxr.below hd (Blk.lt hbxr)
    have hbv := hbv.below hd (Nat.le_refl _)
    have hvhd := hvh2.only ord (fun k hk _ e => hS2 k hk (hids k e))
    clear hE hor hd
    cases hnum : (z.note.query == n.query)
    ·have HNB : Hid (((z.note.query.toNat : Int) == (n.query.toNat : Int)) = false) := Lib.hid (by rw [u64_beq]; exact hnum)
     refine wp_region_D (fun wq => Blk wq y 163 #[.int .u64 (z.note.query.toNat : Int), .bool z.over, .int .i64 z.code, .int .u64 (z.stamp.toNat : Int), vz, v] ∧ Box wq bn n vp vo vv (.slice ha hn hcp)) 100 (fun _ => True) 16 rfl (by kernel_rfl) ?_
     generalize wr.drew = wd at *
     refine tkZ 0 92 (.pointer (some ⟨y, 0, none⟩)) rfl rfl (.inl ⟨by rfl, fun _ _ => by kernel_rfl⟩) (⟨hbk, hbxr⟩) (.inr trivial) ?_
     simp only [Act.put, zqA, zqB, zqC]
     refine tkZ 1 93 (.pointer (some ⟨y, 0, none⟩)) rfl rfl (.inl ⟨by rfl, fun _ _ => by kernel_rfl⟩) (⟨hbk, hbxr⟩) (.inr trivial) ?_
     simp only [Act.put, zqA, zqB, zqC]
     refine tkZ 2 94 (.pointer (some ⟨y, 0, none⟩)) rfl rfl (.inl ⟨by rfl, fun _ _ => by go_simp⟩) (⟨hbk, hbxr⟩) (.inr trivial) ?_
     simp only [Act.put, zqA, zqB, zqC]
     refine tkZ 3 95 (.pointer (some ⟨y, 0, none⟩)) rfl rfl (.inl ⟨by rfl, fun _ _ => by go_simp⟩) (⟨hbk, hbxr⟩) (.inr trivial) ?_
     simp only [Act.put, zqA, zqB, zqC]
     refine tkZ 4 96 (.int .u64 (z.note.query.toNat : Int)) rfl rfl (blk_yields oneU64 (by rfl) rfl rfl fun _ h => h.1) (⟨hbk, hbxr⟩) (.inr trivial) ?_
     simp only [Act.put, zqA, zqB, zqC]
     refine tkZ 5 97 (.pointer (some ⟨bn, 6, none⟩)) rfl rfl (.inl ⟨by rfl, fun _ _ => by go_simp⟩) (⟨hbk, hbxr⟩) (.inr trivial) ?_
     simp only [Act.put, zqA, zqB, zqC]
     refine tkZ 6 98 (.int .u64 (n.query.toNat : Int)) rfl rfl (blk_yields (cs := (noteV n vp vo vv (.slice ha hn hcp)).cells) oneU64 (by rfl) rfl rfl fun _ h => h.2) (⟨hbk, hbxr⟩) (.inr trivial) ?_
     simp only [Act.put, zqA, zqB, zqC]
     refine tkZ 7 99 (.bool false) rfl rfl (.inl ⟨by rfl, fun _ _ => by go_simp; first | exact HNB.out | exact beq_iff_eq.1 HNB.out | exact beq_eq_false_iff_ne.1 HNB.out⟩) (⟨hbk, hbxr⟩) (.inr trivial) ?_
     simp only [Act.put, zqA, zqB, zqC]
     refine tkZ 8 100 (.bool false) rfl rfl (.inl ⟨by rfl, fun _ _ => by kernel_rfl⟩) (⟨hbk, hbxr⟩) (.inr trivial) ?_
     simp only [Act.put, zqA, zqB, zqC]
     refine tkZ 9 101 (undef) rfl rfl (.inr ⟨by rfl, rfl⟩) (⟨hbk, hbxr⟩) (.inr trivial) ?_
     simp only [Act.put, zqA, zqB, zqC]
     refine tkZ 10 102 (undef) rfl rfl (.inr ⟨by rfl, rfl⟩) (⟨hbk, hbxr⟩) (.inr trivial) ?_
     simp only [Act.put, zqA, zqB, zqC]
     refine tkZ 11 103 (undef) rfl rfl (.inr ⟨by rfl, rfl⟩) (⟨hbk, hbxr⟩) (.inr trivial) ?_
     simp only [Act.put, zqA, zqB, zqC]
     refine tkZ 12 104 (undef) rfl rfl (.inr ⟨by rfl, rfl⟩) (⟨hbk, hbxr⟩) (.inr trivial) ?_
     simp only [Act.put, zqA, zqB, zqC]
     refine tkZ 13 105 (undef) rfl rfl (.inr ⟨by rfl, rfl⟩) (⟨hbk, hbxr⟩) (.inr trivial) ?_
     simp only [Act.put, zqA, zqB, zqC]
     refine tkZ 14 106 (undef) rfl rfl (.inr ⟨by rfl, rfl⟩) (⟨hbk, hbxr⟩) (.inr trivial) ?_
     simp only [Act.put, zqA, zqB, zqC]
     refine tkZ 15 107 (.bool false) rfl rfl (.inl ⟨by rfl, fun _ _ => by kernel_rfl⟩) (⟨hbk, hbxr⟩) (.inr trivial) ?_
     simp only [Act.put, zqA, zqB, zqC]
     refine wpAnyD_done (by kernel_rfl) ?_
     go_wp2_with (fail)
     go_roundg (qs.length - (j + 1) + 1)
     case measure => have := Hk.out; omega
     case rel => exact ⟨j + 1, by omega, by omega, by go_num, by rw [parted_same _ c.Q j z HZ.out (hearQ_no n z hnum)]; exact hEd, ord⟩
    ·have HNB : Hid (((z.note.query.toNat : Int) == (n.query.toNat : Int)) = true) := Lib.hid (by rw [u64_beq]; exact hnum)
     have HNM := Lib.hid hnum
     clear hnum
     cases hov : z.over
     ·rw [hov] at hbk
      have HOV := Lib.hid hov
      clear hov
      refine wp_region_D (fun wq => Blk wq y 163 #[.int .u64 (z.note.query.toNat : Int), .bool false, .int .i64 z.code, .int .u64 (z.stamp.toNat : Int), vz, v] ∧ Box wq bn n vp vo vv (.slice ha hn hcp)) 100 (fun _ => True) 16 rfl (by kernel_rfl) ?_
      generalize wr.drew = wd at *
      refine tkZ 0 92 (.pointer (some ⟨y, 0, none⟩)) rfl rfl (.inl ⟨by rfl, fun _ _ => by kernel_rfl⟩) (⟨hbk, hbxr⟩) (.inr trivial) ?_
      simp only [Act.put, zqA, zqB, zqC]
      refine tkZ 1 93 (.pointer (some ⟨y, 0, none⟩)) rfl rfl (.inl ⟨by rfl, fun _ _ => by kernel_rfl⟩) (⟨hbk, hbxr⟩) (.inr trivial) ?_
      simp only [Act.put, zqA, zqB, zqC]
      refine tkZ 2 94 (.pointer (some ⟨y, 0, none⟩)) rfl rfl (.inl ⟨by rfl, fun _ _ => by go_simp⟩) (⟨hbk, hbxr⟩) (.inr trivial) ?_
      simp only [Act.put, zqA, zqB, zqC]
      refine tkZ 3 95 (.pointer (some ⟨y, 0, none⟩)) rfl rfl (.inl ⟨by rfl, fun _ _ => by go_simp⟩) (⟨hbk, hbxr⟩) (.inr trivial) ?_
      simp only [Act.put, zqA, zqB, zqC]
      refine tkZ 4 96 (.int .u64 (z.note.query.toNat : Int)) rfl rfl (blk_yields oneU64 (by rfl) rfl rfl fun _ h => h.1) (⟨hbk, hbxr⟩) (.inr trivial) ?_
      simp only [Act.put, zqA, zqB, zqC]
      refine tkZ 5 97 (.pointer (some ⟨bn, 6, none⟩)) rfl rfl (.inl ⟨by rfl, fun _ _ => by go_simp⟩) (⟨hbk, hbxr⟩) (.inr trivial) ?_
      simp only [Act.put, zqA, zqB, zqC]
      refine tkZ 6 98 (.int .u64 (n.query.toNat : Int)) rfl rfl (blk_yields (cs := (noteV n vp vo vv (.slice ha hn hcp)).cells) oneU64 (by rfl) rfl rfl fun _ h => h.2) (⟨hbk, hbxr⟩) (.inr trivial) ?_
      simp only [Act.put, zqA, zqB, zqC]
      refine tkZ 7 99 (.bool true) rfl rfl (.inl ⟨by rfl, fun _ _ => by go_simp; first | exact HNB.out | exact beq_iff_eq.1 HNB.out | exact beq_eq_false_iff_ne.1 HNB.out⟩) (⟨hbk, hbxr⟩) (.inr trivial) ?_
      simp only [Act.put, zqA, zqB, zqC]
      refine tkZ 8 100 (.bool true) rfl rfl (.inl ⟨by rfl, fun _ _ => by kernel_rfl⟩) (⟨hbk, hbxr⟩) (.inr trivial) ?_
      simp only [Act.put, zqA, zqB, zqC]
      refine tkZ 9 101 (.pointer (some ⟨y, 0, none⟩)) rfl rfl (.inl ⟨by rfl, fun _ _ => by kernel_rfl⟩) (⟨hbk, hbxr⟩) (.inr trivial) ?_
      simp only [Act.put, zqA, zqB, zqC]
      refine tkZ 10 102 (.pointer (some ⟨y, 0, none⟩)) rfl rfl (.inl ⟨by rfl, fun _ _ => by kernel_rfl⟩) (⟨hbk, hbxr⟩) (.inr trivial) ?_
      simp only [Act.put, zqA, zqB, zqC]
      refine tkZ 11 103 (.pointer (some ⟨y, 0, none⟩)) rfl rfl (.inl ⟨by rfl, fun _ _ => by go_simp⟩) (⟨hbk, hbxr⟩) (.inr trivial) ?_
      simp only [Act.put, zqA, zqB, zqC]
      refine tkZ 12 104 (.pointer (some ⟨y, 1, none⟩)) rfl rfl (.inl ⟨by rfl, fun _ _ => by go_simp⟩) (⟨hbk, hbxr⟩) (.inr trivial) ?_
      simp only [Act.put, zqA, zqB, zqC]
      refine tkZ 13 105 (.bool false) rfl rfl (blk_yields oneBool (by rfl) rfl rfl fun _ h => h.1) (⟨hbk, hbxr⟩) (.inr trivial) ?_
      simp only [Act.put, zqA, zqB, zqC]
      refine tkZ 14 106 (.bool true) rfl rfl (.inl ⟨by rfl, fun _ _ => by kernel_rfl⟩) (⟨hbk, hbxr⟩) (.inr trivial) ?_
      simp only [Act.put, zqA, zqB, zqC]
      refine tkZ 15 107 (.bool true) rfl rfl (.inl ⟨by rfl, fun _ _ => by kernel_rfl⟩) (⟨hbk, hbxr⟩) (.inr trivial) ?_
      simp only [Act.put, zqA, zqB, zqC]
      refine wpAnyD_done (by kernel_rfl) ?_
      go_upto_region 15 with (fail)
      have hd2 := (Below.refl wd.heap.size wd).drew
      have hbk : Blk wd.drew y 163 #[.int .u64 (z.note.query.toNat : Int), .bool false, .int .i64 z.code, .int .u64 (z.stamp.toNat : Int), vz, v] := hbk.below hd2 hbk.lt
      have hbxr := hbxr.below hd2 (Blk.lt hbxr)
      have ode := Only.of_below hd2
      have hz2 : wd.drew.heap.size = wd.heap.size := rfl
      clear hd2
      refine wp_region_D (fun wq => Box wq bn n vp vo vv (.slice ha hn hcp)) 100 (fun _ => True) 26 rfl (by kernel_rfl) ?_
      generalize wd.drew = we at *
      refine tkZ 0 108 (.pointer (some ⟨y, 0, none⟩)) rfl rfl (.inl ⟨by rfl, fun _ _ => by kernel_rfl⟩) (hbxr) (.inr trivial) ?_
      simp only [Act.put, zqA, zqB, zqC]
      refine tkZ 1 109 (.pointer (some ⟨y, 0, none⟩)) rfl rfl (.inl ⟨by rfl, fun _ _ => by kernel_rfl⟩) (hbxr) (.inr trivial) ?_
      simp only [Act.put, zqA, zqB, zqC]
      refine tkZ 2 110 (.pointer (some ⟨y, 0, none⟩)) rfl rfl (.inl ⟨by rfl, fun _ _ => by kernel_rfl⟩) (hbxr) (.inr trivial) ?_
      simp only [Act.put, zqA, zqB, zqC]
      refine tkZ 3 111 (.pointer (some ⟨y, 0, none⟩)) rfl rfl (.inl ⟨by rfl, fun _ _ => by kernel_rfl⟩) (hbxr) (.inr trivial) ?_
      simp only [Act.put, zqA, zqB, zqC]
      refine tkZ 4 112 (.pointer (some ⟨bn, 10, none⟩)) rfl rfl (.inl ⟨by rfl, fun _ _ => by go_simp⟩) (hbxr) (.inr trivial) ?_
      simp only [Act.put, zqA, zqB, zqC]
      refine tkZ 5 113 (.int .i64 n.code) rfl rfl (blk_yields (cs := (noteV n vp vo vv (.slice ha hn hcp)).cells) oneErr (by rfl) rfl rfl fun _ h => h) (hbxr) (.inr trivial) ?_
      simp only [Act.put, zqA, zqB, zqC]
      refine tkZ 6 114 (.pointer (some ⟨bn, 3, none⟩)) rfl rfl (.inl ⟨by rfl, fun _ _ => by go_simp⟩) (hbxr) (.inr trivial) ?_
      simp only [Act.put, zqA, zqB, zqC]
      refine tkZ 7 115 (.int .u64 (n.stamp.toNat : Int)) rfl rfl (blk_yields (cs := (noteV n vp vo vv (.slice ha hn hcp)).cells) oneU64 (by rfl) rfl rfl fun _ h => h) (hbxr) (.inr trivial) ?_
      simp only [Act.put, zqA, zqB, zqC]
      refine tkZ 8 116 (.pointer (some ⟨bn, 15, none⟩)) rfl rfl (.inl ⟨by rfl, fun _ _ => by go_simp⟩) (hbxr) (.inr trivial) ?_
      simp only [Act.put, zqA, zqB, zqC]
      refine tkZ 9 117 (.slice ha hn hcp) rfl rfl (blk_yields (cs := (noteV n vp vo vv (.slice ha hn hcp)).cells) oneH (by rfl) rfl rfl fun _ h => h) (hbxr) (.inr trivial) ?_
      simp only [Act.put, zqA, zqB, zqC]
      refine tkZ 10 118 (.pointer (some ⟨y, 0, none⟩)) rfl rfl (.inl ⟨by rfl, fun _ _ => by kernel_rfl⟩) (hbxr) (.inr trivial) ?_
      simp only [Act.put, zqA, zqB, zqC]
      refine tkZ 11 119 (.pointer (some ⟨y, 0, none⟩)) rfl rfl (.inl ⟨by rfl, fun _ _ => by go_simp⟩) (hbxr) (.inr trivial) ?_
      simp only [Act.put, zqA, zqB, zqC]
      refine tkZ 12 120 (.pointer (some ⟨y, 1, none⟩)) rfl rfl (.inl ⟨by rfl, fun _ _ => by go_simp⟩) (hbxr) (.inr trivial) ?_
      simp only [Act.put, zqA, zqB, zqC]
      refine wpAnyD_step (i := 13) (by kernel_rfl) rfl fun K hK => ?_
      refine step_blk_store (.bool true) oneBool hbk rfl rfl rfl rfl (by simp) fun wx hbk ox sx => ?_
      have hbk : Blk wx y 163 #[.int .u64 (z.note.query.toNat : Int), .bool true, .int .i64 z.code, .int .u64 (z.stamp.toNat : Int), vz, v] := hbk
      have hbxr := hbxr.only ox hyn
      have oy : Only (fun k => k = y) we wx := ox
      refine hK _ _ hbxr trivial ?_
      clear hK K ox sx
      simp only [Act.put]
      refine tkZ 14 121 (.pointer (some ⟨y, 0, none⟩)) rfl rfl (.inl ⟨by rfl, fun _ _ => by kernel_rfl⟩) (hbxr) (.inr trivial) ?_
      simp only [Act.put, zqA, zqB, zqC]
      refine tkZ 15 122 (.pointer (some ⟨y, 0, none⟩)) rfl rfl (.inl ⟨by rfl, fun _ _ => by go_simp⟩) (hbxr) (.inr trivial) ?_
      simp only [Act.put, zqA, zqB, zqC]
      refine tkZ 16 123 (.pointer (some ⟨y, 2, none⟩)) rfl rfl (.inl ⟨by rfl, fun _ _ => by go_simp⟩) (hbxr) (.inr trivial) ?_
      simp only [Act.put, zqA, zqB, zqC]
      refine wpAnyD_step (i := 17) (by kernel_rfl) rfl fun K hK => ?_
      refine step_blk_store (.int .i64 n.code) oneErr hbk rfl rfl rfl rfl (by simp) fun wx hbk ox sx => ?_
      have hbk : Blk wx y 163 #[.int .u64 (z.note.query.toNat : Int), .bool true, .int .i64 n.code, .int .u64 (z.stamp.toNat : Int), vz, v] := hbk
      have hbxr := hbxr.only ox hyn
      have oy := oy.trans ox (fun _ _ h => h)
      refine hK _ _ hbxr trivial ?_
      clear hK K ox sx
      simp only [Act.put]
      refine tkZ 18 124 (.pointer (some ⟨y, 0, none⟩)) rfl rfl (.inl ⟨by rfl, fun _ _ => by kernel_rfl⟩) (hbxr) (.inr trivial) ?_
      simp only [Act.put, zqA, zqB, zqC]
      refine tkZ 19 125 (.pointer (some ⟨y, 0, none⟩)) rfl rfl (.inl ⟨by rfl, fun _ _ => by go_simp⟩) (hbxr) (.inr trivial) ?_
      simp only [Act.put, zqA, zqB, zqC]
      refine tkZ 20 126 (.pointer (some ⟨y, 3, none⟩)) rfl rfl (.inl ⟨by rfl, fun _ _ => by go_simp⟩) (hbxr) (.inr trivial) ?_
      simp only [Act.put, zqA, zqB, zqC]
      refine wpAnyD_step (i := 21) (by kernel_rfl) rfl fun K hK => ?_
      refine step_blk_store (.int .u64 (n.stamp.toNat : Int)) oneU64 hbk rfl rfl rfl rfl (by simp) fun wx hbk ox sx => ?_
      have hbk : Blk wx y 163 #[.int .u64 (z.note.query.toNat : Int), .bool true, .int .i64 n.code, .int .u64 (n.stamp.toNat : Int), vz, v] := hbk
      have hbxr := hbxr.only ox hyn
      have oy := oy.trans ox (fun _ _ h => h)
      refine hK _ _ hbxr trivial ?_
      clear hK K ox sx
      simp only [Act.put]
      refine tkZ 22 127 (.pointer (some ⟨y, 0, none⟩)) rfl rfl (.inl ⟨by rfl, fun _ _ => by kernel_rfl⟩) (hbxr) (.inr trivial) ?_
      simp only [Act.put, zqA, zqB, zqC]
      refine tkZ 23 128 (.pointer (some ⟨y, 0, none⟩)) rfl rfl (.inl ⟨by rfl, fun _ _ => by go_simp⟩) (hbxr) (.inr trivial) ?_
      simp only [Act.put, zqA, zqB, zqC]
      refine tkZ 24 129 (.pointer (some ⟨y, 4, none⟩)) rfl rfl (.inl ⟨by rfl, fun _ _ => by go_simp⟩) (hbxr) (.inr trivial) ?_
      simp only [Act.put, zqA, zqB, zqC]
      refine wpAnyD_step (i := 25) (by kernel_rfl) rfl fun K hK => ?_
      refine step_blk_store (.slice ha hn hcp) oneH hbk rfl rfl rfl rfl (by simp) fun wx hbk ox sx => ?_
      have hbk : Blk wx y 163 #[.int .u64 (z.note.query.toNat : Int), .bool true, .int .i64 n.code, .int .u64 (n.stamp.toNat : Int), (.slice ha hn hcp), v] := hbk
      have hbxr := hbxr.only ox hyn
      have oy := oy.trans ox (fun _ _ h => h)
      refine hK _ _ hbxr trivial ?_
      clear hK K ox sx
      simp only [Act.put]
      refine wpAnyD_done (by kernel_rfl) ?_
      have owx : Only (fun k => k = y) wd wx := (ode.mono (G := fun k => k = y) fun k hk h => by omega).trans oy (fun _ _ h => h)
      go_wp2_with (fail)
      go_roundg (qs.length - (j + 1) + 1)
      case measure => have := Hk.out; omega
      case rel =>
       refine ⟨j + 1, by omega, by omega, by go_num, ?_, ord.trans owx (fun k _ h => h ▸ hyb)⟩
       rw [parted_succ _ c.Q j z HZ.out, hearQ_yes n z HNM.out HOV.out]
       refine hEd.set HY.out (fun b x hb hne h => ?_) ?_
       ·exact h.keep (owx.block b (by have := hEd.2.2.1 b hb; have := hMlt b this.2; have := ord.size; omega) hne) fun k hk hlt => ⟨owx.block k hlt (fun e => (hS2 k hk) (e ▸ hyM.2)), hk⟩
       ·exact ⟨.slice ha hn hcp, v, hbk, hvhd.keep fun k hk hlt => ⟨owx.block k hlt (fun e => (hS2 k hk) (e ▸ hyM.2)), hk⟩, hbv.keep fun k hk hlt => ⟨owx.block k hlt (fun e => (hS2 k hk) (e ▸ hyM.2)), hk⟩⟩
     ·rw [hov] at hbk
      have HOV := Lib.hid hov
      clear hov
      refine wp_region_D (fun wq => Blk wq y 163 #[.int .u64 (z.note.query.toNat : Int), .bool true, .int .i64 z.code, .int .u64 (z.stamp.toNat : Int), vz, v] ∧ Box wq bn n vp vo vv (.slice ha hn hcp)) 100 (fun _ => True) 16 rfl (by kernel_rfl) ?_
      generalize wr.drew = wd at *
      refine tkZ 0 92 (.pointer (some ⟨y, 0, none⟩)) rfl rfl (.inl ⟨by rfl, fun _ _ => by kernel_rfl⟩) (⟨hbk, hbxr⟩) (.inr trivial) ?_
      simp only [Act.put, zqA, zqB, zqC]
      refine tkZ 1 93 (.pointer (some ⟨y, 0, none⟩)) rfl rfl (.inl ⟨by rfl, fun _ _ => by kernel_rfl⟩) (⟨hbk, hbxr⟩) (.inr trivial) ?_
      simp only [Act.put, zqA, zqB, zqC]
      refine tkZ 2 94 (.pointer (some ⟨y, 0, none⟩)) rfl rfl (.inl ⟨by rfl, fun _ _ => by go_simp⟩) (⟨hbk, hbxr⟩) (.inr trivial) ?_
      simp only [Act.put, zqA, zqB, zqC]
      refine tkZ 3 95 (.pointer (some ⟨y, 0, none⟩)) rfl rfl (.inl ⟨by rfl, fun _ _ => by go_simp⟩) (⟨hbk, hbxr⟩) (.inr trivial) ?_
      simp only [Act.put, zqA, zqB, zqC]
      refine tkZ 4 96 (.int .u64 (z.note.query.toNat : Int)) rfl rfl (blk_yields oneU64 (by rfl) rfl rfl fun _ h => h.1) (⟨hbk, hbxr⟩) (.inr trivial) ?_
      simp only [Act.put, zqA, zqB, zqC]
      refine tkZ 5 97 (.pointer (some ⟨bn, 6, none⟩)) rfl rfl (.inl ⟨by rfl, fun _ _ => by go_simp⟩) (⟨hbk, hbxr⟩) (.inr trivial) ?_
      simp only [Act.put, zqA, zqB, zqC]
      refine tkZ 6 98 (.int .u64 (n.query.toNat : Int)) rfl rfl (blk_yields (cs := (noteV n vp vo vv (.slice ha hn hcp)).cells) oneU64 (by rfl) rfl rfl fun _ h => h.2) (⟨hbk, hbxr⟩) (.inr trivial) ?_
      simp only [Act.put, zqA, zqB, zqC]
      refine tkZ 7 99 (.bool true) rfl rfl (.inl ⟨by rfl, fun _ _ => by go_simp; first | exact HNB.out | exact beq_iff_eq.1 HNB.out | exact beq_eq_false_iff_ne.1 HNB.out⟩) (⟨hbk, hbxr⟩) (.inr trivial) ?_
      simp only [Act.put, zqA, zqB, zqC]
      refine tkZ 8 100 (.bool true) rfl rfl (.inl ⟨by rfl, fun _ _ => by kernel_rfl⟩) (⟨hbk, hbxr⟩) (.inr trivial) ?_
      simp only [Act.put, zqA, zqB, zqC]
      refine tkZ 9 101 (.pointer (some ⟨y, 0, none⟩)) rfl rfl (.inl ⟨by rfl, fun _ _ => by kernel_rfl⟩) (⟨hbk, hbxr⟩) (.inr trivial) ?_
      simp only [Act.put, zqA, zqB, zqC]
      refine tkZ 10 102 (.pointer (some ⟨y, 0, none⟩)) rfl rfl (.inl ⟨by rfl, fun _ _ => by kernel_rfl⟩) (⟨hbk, hbxr⟩) (.inr trivial) ?_
      simp only [Act.put, zqA, zqB, zqC]
      refine tkZ 11 103 (.pointer (some ⟨y, 0, none⟩)) rfl rfl (.inl ⟨by rfl, fun _ _ => by go_simp⟩) (⟨hbk, hbxr⟩) (.inr trivial) ?_
      simp only [Act.put, zqA, zqB, zqC]
      refine tkZ 12 104 (.pointer (some ⟨y, 1, none⟩)) rfl rfl (.inl ⟨by rfl, fun _ _ => by go_simp⟩) (⟨hbk, hbxr⟩) (.inr trivial) ?_
      simp only [Act.put, zqA, zqB, zqC]
      refine tkZ 13 105 (.bool true) rfl rfl (blk_yields oneBool (by rfl) rfl rfl fun _ h => h.1) (⟨hbk, hbxr⟩) (.inr trivial) ?_
      simp only [Act.put, zqA, zqB, zqC]
      refine tkZ 14 106 (.bool false) rfl rfl (.inl ⟨by rfl, fun _ _ => by kernel_rfl⟩) (⟨hbk, hbxr⟩) (.inr trivial) ?_
      simp only [Act.put, zqA, zqB, zqC]
      refine tkZ 15 107 (.bool false) rfl rfl (.inl ⟨by rfl, fun _ _ => by kernel_rfl⟩) (⟨hbk, hbxr⟩) (.inr trivial) ?_
      simp only [Act.put, zqA, zqB, zqC]
      refine wpAnyD_done (by kernel_rfl) ?_
      go_wp2_with (fail)
      go_roundg (qs.length - (j + 1) + 1)
      case measure => have := Hk.out; omega
      case rel => exact ⟨j + 1, by omega, by omega, by go_num, by rw [parted_same _ c.Q j z HZ.out (hearQ_over n z HOV.out)]; exact hEd, ord⟩
   ·have hEj := hE
    rw [parted_all _ _ _ (by have := HLB.out; omega)] at hEj
    go_wp2_with (fail)
    go_end0
    have kS : ∀ k, S1 k → k < wo.heap.size → wr.heap[k]? = wo.heap[k]? ∧ Sx w S M k := fun k hk hlt => ⟨hor.block k hlt (fun e => (hFs k (hids k e)).2.2 hk), hSx k hk⟩
    have hEm := hEj.mono (T' := QstB wr (Sx w S M)) (M' := M) (fun _ _ h => h) fun b x _ hm h => h.keep rfl fun k hk _ => ⟨rfl, (HS2e.out k).1 hk⟩
    refine ⟨rfl, ⟨vb, vq, bs, qs, hg.only hor hgne, hgb, hMg, hvb.only hor (fun k hk e => hoth k hk e), hMvb, hvq.only hor (fun k hk e => hrow k hk e), hMvq, ?_, hEm⟩, ?_, ?_⟩
    ·refine hEb.mono (fun _ _ h => h) fun b x _ hm h => ?_
     obtain ⟨_, h1, _⟩ := id h
     refine h.keep (hor.block b h1.lt fun e => ?_) kS
     obtain ⟨x2, hx2⟩ := hE0.ex e
     obtain ⟨_, _, h2, _⟩ := hx2
     exact blk_ne h1 h2 (by decide) rfl
    ·exact fun k hk => ⟨(hF k hk).1, by have := (hF k hk).2.1; omega, fun e => e.1 hk⟩
    ·exact ((Only.of_below hb3).mono (G := M) fun k h1 h2 => by omega).trans hor (fun k _ h => hids k h)
 have hk2' : ((n.kind.toNat : Int) == 2) = false := beq_eq_false_iff_ne.2 fun e => hk2 (UInt8.toNat_inj.1 (by show n.kind.toNat = 2; omega))
 have hkb : ((n.kind.toNat : Int) == 11) = false := beq_eq_false_iff_ne.2 fun e => hk11 (UInt8.toNat_inj.1 (by show n.kind.toNat = 11; omega))
 have e : c' = c := by rw [HHd.out, if_neg hk2, if_neg hk11]
 subst e
 clear HHd hk2 hk11
 go_wp2_with (fail)
 go_end0
 exact ⟨rfl, hC.below' hF hb3 (Nat.le_refl _), hF.below' hb3, (Only.of_below hb3).mono fun k h1 h2 => by omega⟩
end Go.Proofs.YtjkffjngamagkaaDoor
