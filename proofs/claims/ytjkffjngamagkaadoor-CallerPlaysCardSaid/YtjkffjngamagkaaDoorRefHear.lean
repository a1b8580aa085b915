/- armillaryref19: Hear. -/
import Derived.Test.YtjkffjngamagkaaDoorRefRow
import Derived.Test.YtjkffjngamagkaaDoorRefPut
import Derived.Test.YtjkffjngamagkaaDoorRefUnp
namespace Go.Arm
open Go.RowKit
def hB1 (n : NoteR) (x : WantR) : WantR := if n.kind = 2 then hearB n x else x
def hQ1 (n : NoteR) (x : WantR) : WantR := if n.kind = 11 then hearQ n x else x
theorem heard_both (c : CallR) (n : NoteR) : c.heard n = { c with B := c.B.map (hB1 n), Q := c.Q.map (hQ1 n) } := by
 unfold CallR.heard
 split
 ·rename_i h
  have e1 : c.B.map (hB1 n) = c.B.map (hearB n) := List.map_congr_left fun x _ => by unfold hB1; rw [if_pos h]
  have e2 : c.Q.map (hQ1 n) = c.Q := by
   have : c.Q.map (hQ1 n) = c.Q.map id := List.map_congr_left fun x _ => by unfold hQ1; rw [if_neg (by rw [h]; decide)]; rfl
   rw [this, List.map_id]
  rw [e1, e2]
 ·rename_i h
  have e1 : c.B.map (hB1 n) = c.B := by
   have : c.B.map (hB1 n) = c.B.map id := List.map_congr_left fun x _ => by unfold hB1; rw [if_neg h]; rfl
   rw [this, List.map_id]
  split
  ·rename_i h2
   have e2 : c.Q.map (hQ1 n) = c.Q.map (hearQ n) := List.map_congr_left fun x _ => by unfold hQ1; rw [if_pos h2]
   rw [e1, e2]
  ·rename_i h2
   have e2 : c.Q.map (hQ1 n) = c.Q := by
    have : c.Q.map (hQ1 n) = c.Q.map id := List.map_congr_left fun x _ => by unfold hQ1; rw [if_neg h2]; rfl
    rw [this, List.map_id]
   rw [e1, e2]
theorem hB1_no (n : NoteR) (x : WantR) (h : n.kind ≠ 2) : hB1 n x = x := by unfold hB1; rw [if_neg h]
theorem hB1_yes (n : NoteR) (x : WantR) (h : n.kind = 2) : hB1 n x = hearB n x := by unfold hB1; rw [if_pos h]
theorem hQ1_no (n : NoteR) (x : WantR) (h : n.kind ≠ 11) : hQ1 n x = x := by unfold hQ1; rw [if_neg h]
theorem hQ1_yes (n : NoteR) (x : WantR) (h : n.kind = 11) : hQ1 n x = hearQ n x := by unfold hQ1; rw [if_pos h]
theorem u8_lit (k : UInt8) (m : Nat) (hm : m < 256) (h : k ≠ UInt8.ofNat m) : ((k.toNat : Int) == (m : Int)) = false :=
 beq_eq_false_iff_ne.2 fun e => h (UInt8.toNat_inj.1 (by rw [UInt8.toNat_ofNat']; omega))
section
variable {P : Program} {ops : Array Oper} {Q : Exit → Act → World → Prop} {a : Act} {w : World} {rest : List Oper}
variable {dst : Option Tmp} {ty : TypeId} {pos : String} {after : Array Edge}
theorem wpList_idx {t : TypeId} {x i : Operand} {vx vi p : Value} (hx : a.eval x = vx) (hi : a.eval i = vi) (hrun : (Instr.indexAt t vx vi).run P w = .ok p w) (h : wpList P ops Q rest (a.put dst p) w) :
  wpList P ops Q (⟨dst, .indexAddr t x i, ty, pos, after, none⟩ :: rest) a w := by
 refine wpList_plain rfl fun K hK => ?_
 unfold Oper.wp
 simp only [execOp, hx, hi, Sem.run_bind, hrun, Result.andThen_ok, Sem.run_pure]
 exact hK _ _ h
theorem idx_yields {S : World → Prop} {t : TypeId} {x i : Operand} {vx vi p : Value} {gd : Option (Nat × Bool)} (hw : Region.wanted ⟨dst, .indexAddr t x i, ty, pos, after, gd⟩ (yielded ops a.tmps) = true) (hx : a.eval x = vx) (hi : a.eval i = vi) (hrun : ∀ w, (Instr.indexAt t vx vi).run P w = .ok p w) :
  YieldsIf P ops S ⟨dst, .indexAddr t x i, ty, pos, after, gd⟩ p a := by
 refine .inl ⟨hw, fun w _ => ?_⟩
 simp only [execOp, hx, hi, Sem.run_bind, hrun w, Result.andThen_ok, Sem.run_pure]
end
end Go.Arm
namespace Go.Proofs.YtjkffjngamagkaaDoor
open Go Go.RowKit Go.Arm
theorem set3_out (cur : Array Value) (o : Nat) (p q r : Value) (k : Nat) (hk : k < o ∨ o + 20 ≤ k) : (((cur.setIfInBounds (o + 16) p).setIfInBounds (o + 17) q).setIfInBounds (o + 18) r)[k]? = cur[k]? := by
 simp only [Array.getElem?_setIfInBounds, if_neg (show o + 18 ≠ k by omega), if_neg (show o + 17 ≠ k by omega), if_neg (show o + 16 ≠ k by omega)]
theorem set3_in (cur : Array Value) (o : Nat) (c : List Value) (p q r : Value) (ho : o + 20 ≤ cur.size) (hc : c.length = 20) (h : ∀ j, j < 20 → cur[o + j]? = c[j]?) (j : Nat) (hj : j < 20) : (((cur.setIfInBounds (o + 16) p).setIfInBounds (o + 17) q).setIfInBounds (o + 18) r)[o + j]? = (((c.set 16 p).set 17 q).set 18 r)[j]? := by
 simp only [Array.getElem?_setIfInBounds, List.getElem?_set, Array.size_setIfInBounds, List.length_set, Nat.add_left_cancel_iff, hc, h j hj, if_pos (show o + 18 < cur.size by omega), if_pos (show o + 17 < cur.size by omega), if_pos (show o + 16 < cur.size by omega)]
 simp
theorem set4_out (cur : Array Value) (o : Nat) (p q r s : Value) (k : Nat) (hk : k < o ∨ o + 20 ≤ k) : ((((cur.setIfInBounds (o + 16) p).setIfInBounds (o + 17) q).setIfInBounds (o + 18) r).setIfInBounds (o + 19) s)[k]? = cur[k]? := by
 rw [Array.getElem?_setIfInBounds, if_neg (show o + 19 ≠ k by omega), set3_out cur o p q r k hk]
theorem set4_in (cur : Array Value) (o : Nat) (c : List Value) (p q r s : Value) (ho : o + 20 ≤ cur.size) (hc : c.length = 20) (h : ∀ j, j < 20 → cur[o + j]? = c[j]?) (j : Nat) (hj : j < 20) : ((((cur.setIfInBounds (o + 16) p).setIfInBounds (o + 17) q).setIfInBounds (o + 18) r).setIfInBounds (o + 19) s)[o + j]? = ((((c.set 16 p).set 17 q).set 18 r).set 19 s)[j]? := by
 have h3 := set3_in cur o c p q r ho hc h j hj
 rw [Array.getElem?_setIfInBounds, h3]
 simp only [List.getElem?_set, Array.size_setIfInBounds, List.length_set, Nat.add_left_cancel_iff, hc, if_pos (show o + 19 < cur.size by omega)]
 simp
structure RHs (w0 : World) (M S2 : Nat → Prop) (vb vq : Value) (bn : Nat) : Prop where
 B : ∀ k, vb.ownBlock = some k → M k ∧ vq.ownBlock ≠ some k
 Q : ∀ k, vq.ownBlock = some k → M k
 lt : ∀ k, M k → k < w0.heap.size
 no : ∀ k, S2 k → ¬ M k
 bn : w0.heap.size ≤ bn
structure RHear (w0 wq : World) (base : Nat) (M S2 : Nat → Prop) (g : Nat) (sf : Int) (vb vq : Value) (LB LQ : List WantR) (bn : Nat) (n : NoteR) (vp vo vv vh : Value) : Prop where
 hg : Blk wq g 71 #[.int .i64 sf, vb, vq]
 hB : Own wq base 166 S2 LB vb
 hQ : Own wq base 166 S2 LQ vq
 bx : RBox wq bn n vp vo vv vh
 hh : Sl wq S2 n.hits vh
 ol : Only M w0 wq
section
variable {w0 wq w' : World} {base : Nat} {M S2 : Nat → Prop} {g : Nat} {sf : Int} {vb vq : Value} {LB LQ LB' LQ' : List WantR} {bn : Nat} {n : NoteR} {vp vo vv vh : Value}
theorem RHear.below (h : RHear w0 wq base M S2 g sf vb vq LB LQ bn n vp vo vv vh) (hb : Below wq.heap.size wq w') : RHear w0 w' base M S2 g sf vb vq LB LQ bn n vp vo vv vh :=
 ⟨h.hg.below hb h.hg.lt, h.hB.below hb (Nat.le_refl _), h.hQ.below hb (Nat.le_refl _), h.bx.below hb (RBox.lt h.bx), h.hh.below hb (Nat.le_refl _), h.ol.trans ((Only.of_below hb).mono (G := M) fun k hk e => absurd hk (by omega)) fun _ _ e => e⟩
theorem RHear.setB (h : RHear w0 wq base M S2 g sf vb vq LB LQ bn n vp vo vv vh) (hs : RHs w0 M S2 vb vq bn) {k : Nat} (hk : vb.ownBlock = some k) (ho : Only (fun x => x = k) wq w') (hB : Own w' base 166 S2 LB' vb) : RHear w0 w' base M S2 g sf vb vq LB' LQ bn n vp vo vv vh := by
 have hkM := (hs.B k hk).1
 have hS : ∀ b, S2 b → ¬ b = k := fun b hb e => hs.no b hb (e ▸ hkM)
 refine ⟨h.hg.only ho fun e => own_ne h.hB h.hg (by decide) (e ▸ hk), hB, h.hQ.keep (fun b hb hlt => ⟨ho.block b hlt (hS b hb), hb⟩) fun b hb => ho.block b (by have := h.hQ.ge b hb; omega) fun e => (hs.B k hk).2 (e ▸ hb), RBox.only h.bx ho fun e => by have := hs.lt k hkM; have := hs.bn; omega, h.hh.keep fun b hb hlt => ⟨ho.block b hlt (hS b hb), hb⟩, h.ol.trans (ho.mono (G := M) fun b _ e => e ▸ hkM) fun _ _ e => e⟩
theorem RHear.setQ (h : RHear w0 wq base M S2 g sf vb vq LB LQ bn n vp vo vv vh) (hs : RHs w0 M S2 vb vq bn) {k : Nat} (hk : vq.ownBlock = some k) (ho : Only (fun x => x = k) wq w') (hQ : Own w' base 166 S2 LQ' vq) : RHear w0 w' base M S2 g sf vb vq LB LQ' bn n vp vo vv vh := by
 have hkM := hs.Q k hk
 have hS : ∀ b, S2 b → ¬ b = k := fun b hb e => hs.no b hb (e ▸ hkM)
 refine ⟨h.hg.only ho fun e => own_ne h.hQ h.hg (by decide) (e ▸ hk), h.hB.keep (fun b hb hlt => ⟨ho.block b hlt (hS b hb), hb⟩) fun b hb => ho.block b (by have := h.hB.ge b hb; omega) fun e => (hs.B b hb).2 (e ▸ hk), hQ, RBox.only h.bx ho fun e => by have := hs.lt k hkM; have := hs.bn; omega, h.hh.keep fun b hb hlt => ⟨ho.block b hlt (hS b hb), hb⟩, h.ol.trans (ho.mono (G := M) fun b _ e => e ▸ hkM) fun _ _ e => e⟩
end
set_option maxHeartbeats 16000000 in
set_option maxRecDepth 100000 in
theorem rhear_any (w : World) (base : Nat) (M S S0 : Nat → Prop) (g : Nat) (c : CallR) (src : Int) (l : List UInt8) (p : Value) (hC : RefP w base M S g c) (hF : Fr w base M S) (hp : Sl w S0 l p) (hl : l.length ≤ 140737488355328) (hB6 : c.B.length ≤ 64) (hQ6 : c.Q.length ≤ 64) :
  Calls Tryd.prog 37 #[.pointer (some ⟨g, 0, none⟩), .int .i64 src, p] w fun e w' => e = .returned (.tuple #[]) ∧
   RefP w' base M (Sx w S M) g (c.hear src (nunp rlim l).1 (nunp rlim l).2) ∧ Fr w' base M (Sx w S M) ∧ Only M w w' := by
 have hun := runpack_any w S0 l p hp hl
 generalize nunp rlim l = R at *
 obtain ⟨n, er⟩ := R
 have HH : Hid (c.hear src n er = if er ≠ 0 ∨ src ≠ 0 then c else c.heard n) := Lib.hid rfl
 have HHd : Hid (c.heard n = { c with B := c.B.map (hB1 n), Q := c.Q.map (hQ1 n) }) := Lib.hid (heard_both c n)
 have hrest : ∀ w', Below w.heap.size w w' → RefP w' base M (Sx w S M) g c ∧ Fr w' base M (Sx w S M) ∧ Only M w w' := fun w' hb =>
  ⟨hC.keep (fun k hk => ⟨hb.block k (hF k hk).2.1, hk⟩) fun k hk hlt => ⟨hb.block k hlt, fun e => (hF k e).2.2 hk, .inl hk⟩, fun k hk => ⟨(hF k hk).1, Nat.lt_of_lt_of_le (hF k hk).2.1 hb.size, fun e => e.1 hk⟩, (Only.of_below hb).mono fun _ hlt h => absurd h (Nat.not_le.2 hlt)⟩
 have HRest := Lib.hid hrest
 clear hrest
 generalize c.hear src n er = c' at *
 generalize c.heard n = c2 at *
 obtain ⟨S2, hS2e⟩ : ∃ S2 : Nat → Prop, ∀ k, S2 k ↔ Sx w S M k := ⟨_, fun _ => Iff.rfl⟩
 have HS2e := Lib.hid hS2e
 clear hS2e
 have HC := Lib.hid hC
 have HF := Lib.hid hF
 clear hC hF hp
 go_enter Tryd.func37, Tryd.ntmps37
 go_wp2_with (first | ((with_reducible apply ugZ); rfl) | ((with_reducible (first | apply len_B | apply len_W | apply len_RL | apply len_L | apply len_Bat | apply len_Qst | apply len_H)); assumption) | ((with_reducible refine stop_ig kC ?_ ?_); rfl))
 refine hun.mono ?_
 clear hun
 rintro e w1 ⟨V1, rfl, hV1, hb1⟩
 have hV1 : Nt w1 (fun b => w.heap.size ≤ b) n V1 := hV1
 have s1 := hb1.size
 obtain ⟨vp, vo, vv, vh, rfl, h1, h2, h3, hvh, _⟩ := hV1
 have one := noteV_one n (Sl.slv h1) (Sl.slv h2) (Sl.slv h3) (Sl.slv hvh)
 obtain ⟨ha, hn, hcp, rfl⟩ := Sl.shape hvh
 go_wp2_with (first | ((with_reducible apply ugZ); rfl) | ((with_reducible (first | apply len_B | apply len_W | apply len_RL | apply len_L | apply len_Bat | apply len_Qst | apply len_H)); assumption) | ((with_reducible refine stop_ig kC ?_ ?_); rfl))
 refine Stop.go (blk_alloc (z := .agg zeroCells) (cs := zeroCells) (zero_run (by kernel_rfl)) rfl fun bn w2 k2 hbn ha2 => ?_)
 go_wp2_with (first | ((with_reducible apply ugZ); rfl) | ((with_reducible (first | apply len_B | apply len_W | apply len_RL | apply len_L | apply len_Bat | apply len_Qst | apply len_H)); assumption) | ((with_reducible refine stop_ig kC ?_ ?_); rfl))
 refine Stop.go (blk_store_all (cs' := (noteV n vp vo vv (.slice ha hn hcp)).cells) k2 rfl rfl (by kernel_rfl) rfl one fun w3 k3 o3 z3 => ?_)
 have hbx : RBox w3 bn n vp vo vv (.slice ha hn hcp) := k3
 have hb13 : Below w1.heap.size w1 w3 := ha2.trans (o3.below ha2.size (by rintro k rfl; exact hbn))
 have hb3 := below_on hb1 hb13 hb1.size
 have hvh3 := hvh.below hb13 (Nat.le_refl _)
 have s13 := hb13.size
 clear h1 h2 h3 one hb1 hvh k2 ha2 k3 o3 z3 hb13
 by_cases her : er = 0
 case neg =>
  have hbe : (er != 0) = true := by simp [her]
  have e : c' = c := by rw [HH.out, if_pos (.inl her)]
  subst e
  have hr := HRest.out _ hb3
  clear HH HHd her HRest HC HF HS2e
  go_wp2_with (fail)
  refine bodyPost_ret (results_none rfl _ _ _) rfl ?_
  exact ⟨rfl, hr⟩
 subst her
 by_cases hsr : src = 0
 case neg =>
  have hbe : (src != 0) = true := by simp [hsr]
  have e : c' = c := by rw [HH.out, if_pos (.inr hsr)]
  subst e
  have hr := HRest.out _ hb3
  clear HH HHd hsr HRest HC HF HS2e
  go_wp2_with (fail)
  refine bodyPost_ret (results_none rfl _ _ _) rfl ?_
  exact ⟨rfl, hr⟩
 subst hsr
 have e : c' = c2 := by rw [HH.out, if_neg]; simp
 subst e
 clear HH
 obtain ⟨vb, vq, hg, hgb, hMg, hB, hBM, hQ, hQM⟩ := id HC.out
 have hs : RHs w M S2 vb vq bn := ⟨hBM, hQM, fun k hk => (HF.out k hk).2.1, fun k hk => ((HS2e.out k).1 hk).1, by omega⟩
 have hkp : ∀ b, S b → b < w.heap.size → w3.heap[b]? = w.heap[b]? ∧ S2 b := fun b hb hlt => ⟨hb3.block b hlt, (HS2e.out b).2 ⟨fun e => (HF.out b e).2.2 hb, .inl hb⟩⟩
 have hh0 : RHear w w3 base M S2 g c.self vb vq c.B c.Q bn n vp vo vv (.slice ha hn hcp) :=
  ⟨hg.below hb3 hg.lt, hB.keep hkp fun b hb => hb3.block b (by have := hB.ge b hb; omega), hQ.keep hkp fun b hb => hb3.block b (by have := hQ.ge b hb; omega), hbx, hvh3.wide fun b hb _ => (HS2e.out b).2 ⟨fun e => by have := (HF.out b e).2.1; omega, .inr hb⟩, (Only.of_below hb3).mono fun _ hlt h => absurd h (Nat.not_le.2 hlt)⟩
 have hcB : c.B = parted (hB1 n) c.B 0 := (parted_zero _ _).symm
 have hfin : ∀ w', RHear w w' base M S2 g c.self vb vq (c.B.map (hB1 n)) (c.Q.map (hQ1 n)) bn n vp vo vv (.slice ha hn hcp) → RefP w' base M (Sx w S M) g c' ∧ Fr w' base M (Sx w S M) ∧ Only M w w' := fun w' h => by
  rw [HHd.out]
  have hk : ∀ b, S2 b → b < w'.heap.size → w'.heap[b]? = w'.heap[b]? ∧ Sx w S M b := fun b hb _ => ⟨rfl, (HS2e.out b).1 hb⟩
  exact ⟨⟨vb, vq, h.hg, hgb, hMg, h.hB.keep hk fun _ _ => rfl, hBM, h.hQ.keep hk fun _ _ => rfl, hQM⟩, fun k hk => ⟨(HF.out k hk).1, Nat.lt_of_lt_of_le (HF.out k hk).2.1 h.ol.size, fun e => e.1 hk⟩, h.ol⟩
 have HFin := Lib.hid hfin
 have HS := Lib.hid hs
 clear hfin hg hgb hMg hB hBM hQ hQM hkp hbx hvh3 hs hcB HS2e HHd HC HF HRest hb3 s1 s13 hbn
 go_wp2_with (first | ((with_reducible apply ugZ); rfl) | ((with_reducible (first | apply len_B | apply len_W | apply len_RL | apply len_L | apply len_Bat | apply len_Qst | apply len_H)); assumption) | ((with_reducible refine stop_ig kC ?_ ?_); rfl))
 have hg0 := hh0.hg
 refine Stop.go (blk_load (cs := #[.int .i64 c.self, vb, vq]) vb oneWs hg0 rfl rfl ?_)
 have hBs := hh0.hB.sl (S' := fun _ => True) (fun _ _ _ => trivial) fun _ _ => trivial
 clear hg0
 go_wp2_with (first | ((with_reducible apply ugZ); rfl) | ((with_reducible (first | apply len_B | apply len_W | apply len_RL | apply len_L | apply len_Bat | apply len_Qst | apply len_H)); assumption) | ((with_reducible refine stop_ig kC ?_ ?_); rfl))
 clear hBs
 go_loopg [8, 9, 32] (c.B.length + 1) (fun k x8 x9 i wr => ∃ j : Nat, k = c.B.length - j + 1 ∧ j ≤ c.B.length ∧ i = .int .i64 j ∧ RHear w wr base M S2 g c.self vb vq (parted (hB1 n) c.B j) c.Q bn n vp vo vv (.slice ha hn hcp))
 case atStart => exact ⟨0, by omega, by omega, rfl, by rw [parted_zero]; exact hh0⟩
 case round =>
  obtain ⟨j, hk, hj, rfl, hst⟩ := hrel
  have Hk := Lib.hid hk
  clear hk hh0
  by_cases hlt : j < c.B.length
  ·obtain ⟨z, hz⟩ : ∃ z, c.B[j]? = some z := ⟨_, List.getElem?_eq_getElem hlt⟩
   obtain ⟨gB, o, cur, cc, hgB, hbk, hrd, hos, hin, hrun, hset⟩ := hst.hB.elem rowWant j z (parted_get _ _ j z hz)
   have hos : o + 20 ≤ cur.size := hos
   have hin : ∀ j, j < 20 → cur[o + j]? = cc[j]? := hin
   obtain ⟨V, xhs, hV, hvs, rfl⟩ := hrd
   have hV' := hV
   obtain ⟨xp, xo, xv, xh, rfl, y1, y2, y3, y4, _⟩ := hV'
   have hone := wantC_one z (Sl.slv y1) (Sl.slv y2) (Sl.slv y3) (Sl.slv y4) (Sl.slv hvs)
   clear y1 y2 y3 y4
   have hin : ∀ j, j < 20 → cur[o + j]? = (wantC z xp xo xv xh xhs).toList[j]? := hin
   have hgBM : M gB := (HS.out.B gB hgB).1
   have hgg : ¬ g = gB := fun e => own_ne hst.hB hst.hg (by decide) (e ▸ hgB)
   have hgn : ¬ bn = gB := fun e => by have := HS.out.lt gB hgBM; have := HS.out.bn; omega
   have hcell : ∀ j v, (wantC z xp xo xv xh xhs).toList[j]? = some v → wr.cell? ⟨gB, o + j, none⟩ = some v := fun j v h => by
    have hj := (List.getElem?_eq_some_iff.1 h).1
    rw [hbk.cell, hin j (by simpa [wantC] using hj), h]
   have HIN := Lib.hid hin
   have HZ := Lib.hid hz
   have HV := Lib.hid hV
   have HVS := Lib.hid hvs
   have HSET := Lib.hid hset
   clear hin hz hV hvs hset
   go_wp2_with (first | ((with_reducible apply ugZ); rfl) | ((with_reducible (first | apply len_B | apply len_W | apply len_RL | apply len_L | apply len_Bat | apply len_Qst | apply len_H)); assumption) | ((with_reducible refine stop_ig kC ?_ ?_); rfl))
   refine Stop.go (wpList_idx (p := .pointer (some ⟨gB, o, none⟩)) rfl rfl (hrun .i64 _) ?_)
   go_wp2_with (first | ((with_reducible apply ugZ); rfl) | ((with_reducible (first | apply len_B | apply len_W | apply len_RL | apply len_L | apply len_Bat | apply len_Qst | apply len_H)); assumption) | ((with_reducible refine stop_ig kC ?_ ?_); rfl))
   refine Stop.go (cells_loadW (.agg (wantC z xp xo xv xh xhs)) (wantC z xp xo xv xh xhs).toList Tryd.underlying166 rfl (by kernel_rfl) rfl hcell rfl ?_)
   clear hcell
   go_wp2_with (first | ((with_reducible apply ugZ); rfl) | ((with_reducible (first | apply len_B | apply len_W | apply len_RL | apply len_L | apply len_Bat | apply len_Qst | apply len_H)); assumption) | ((with_reducible refine stop_ig kC ?_ ?_); rfl))
   refine Stop.go (blk_alloc (z := .agg zeroWant) (cs := zeroWant) (zero_run (by kernel_rfl)) rfl fun bw w4 hw hwg hb4 => ?_)
   go_wp2_with (first | ((with_reducible apply ugZ); rfl) | ((with_reducible (first | apply len_B | apply len_W | apply len_RL | apply len_L | apply len_Bat | apply len_Qst | apply len_H)); assumption) | ((with_reducible refine stop_ig kC ?_ ?_); rfl))
   refine Stop.go (blk_store_all (cs' := wantC z xp xo xv xh xhs) hw rfl rfl (by kernel_rfl) rfl hone fun w5 hw5 o5 z5 => ?_)
   have hb5 : Below wr.heap.size wr w5 := hb4.trans (o5.below hb4.size (by rintro k rfl; exact hwg))
   have h5 := hst.below hb5
   have hbk5 := hbk.below hb5 hbk.lt
   have HBK := Lib.hid hbk5
   have HKP : Hid (∀ w', Only (fun x => x = gB) w5 w' → ∀ b, S2 b → b < wr.heap.size → w'.heap[b]? = wr.heap[b]? ∧ S2 b) := Lib.hid fun w' ho b hb hlt => ⟨(ho.block b (Nat.lt_of_lt_of_le hlt hb5.size) fun e => HS.out.no b hb (e ▸ hgBM)).trans (hb5.block b hlt), hb⟩
   have hbx := h5.bx
   clear hw hb4 o5 z5 hone hbk hbk5 hb5 hst hwg
   go_wp2_with (first | ((with_reducible apply ugZ); rfl) | ((with_reducible (first | apply len_B | apply len_W | apply len_RL | apply len_L | apply len_Bat | apply len_Qst | apply len_H)); assumption) | ((with_reducible refine stop_ig kC ?_ ?_); rfl))
   refine Stop.go (blk_load (cs := (noteV n vp vo vv (.slice ha hn hcp)).cells) (.int .u8 (n.kind.toNat : Int)) oneU8 hbx rfl rfl ?_)
   by_cases hk2 : n.kind = 2
   case neg =>
    have hkb : ((n.kind.toNat : Int) == 2) = false := u8_lit n.kind 2 (by decide) hk2
    have HNO := Lib.hid (hB1_no n z hk2)
    clear hk2 HIN HSET HV HVS HBK HKP hbx hgB hgBM hgg hgn hos hrun
    go_wp2_with (fail)
    go_roundg (c.B.length - (j + 1) + 1)
    case measure => have := Hk.out; omega
    case rel => exact ⟨j + 1, by omega, by omega, by go_num, by rw [parted_same _ c.B j z HZ.out (HNO.out)]; exact h5⟩
   have hkb : ((n.kind.toNat : Int) == 2) = true := by rw [hk2]; decide
   have HYES := Lib.hid (hB1_yes n z hk2)
   clear hk2
   go_wp2_with (first | ((with_reducible apply ugZ); rfl) | ((with_reducible (first | apply len_B | apply len_W | apply len_RL | apply len_L | apply len_Bat | apply len_Qst | apply len_H)); assumption) | ((with_reducible refine stop_ig kC ?_ ?_); rfl))
   refine Stop.go (blk_load (.int .u64 (z.note.batch.toNat : Int)) oneU64 hw5 rfl rfl ?_)
   go_wp2_with (first | ((with_reducible apply ugZ); rfl) | ((with_reducible (first | apply len_B | apply len_W | apply len_RL | apply len_L | apply len_Bat | apply len_Qst | apply len_H)); assumption) | ((with_reducible refine stop_ig kC ?_ ?_); rfl))
   refine Stop.go (blk_load (cs := (noteV n vp vo vv (.slice ha hn hcp)).cells) (.int .u64 (n.batch.toNat : Int)) oneU64 hbx rfl rfl ?_)
   cases hnum : (z.note.batch == n.batch)
   ·have hnb : ((z.note.batch.toNat : Int) == (n.batch.toNat : Int)) = false := by rw [u64_beq]; exact hnum
    have HNO := Lib.hid (HYES.out.trans (hearB_no n z hnum))
    clear hnum HIN HSET HV HVS HBK HKP hbx hgB hgBM hgg hgn hos hrun HYES
    go_wp2_with (fail)
    go_roundg (c.B.length - (j + 1) + 1)
    case measure => have := Hk.out; omega
    case rel => exact ⟨j + 1, by omega, by omega, by go_num, by rw [parted_same _ c.B j z HZ.out (HNO.out)]; exact h5⟩
   have hnb : ((z.note.batch.toNat : Int) == (n.batch.toNat : Int)) = true := by rw [u64_beq]; exact hnum
   have HNM := Lib.hid hnum
   clear hnum
   go_wp2_with (first | ((with_reducible apply ugZ); rfl) | ((with_reducible (first | apply len_B | apply len_W | apply len_RL | apply len_L | apply len_Bat | apply len_Qst | apply len_H)); assumption) | ((with_reducible refine stop_ig kC ?_ ?_); rfl))
   refine Stop.go (blk_load (.bool z.over) oneBool hw5 rfl rfl ?_)
   cases hov : z.over
   ·have HYS := Lib.hid (HYES.out.trans (hearB_yes n z HNM.out (.inl hov)))
    clear hov HNM HYES
    go_upto_region 6 with (fail)
    have hd := (Below.refl w5.heap.size w5).drew
    have h6 := h5.below hd
    have hgd := h6.hg
    have hbd := h6.bx
    have hbk : Blk w5.drew gB 166 cur := HBK.out.below hd (Blk.lt HBK.out)
    have owd := (Only.of_below hd).mono (G := fun x => x = gB) fun _ hk h => absurd hk (Nat.not_lt.2 h)
    clear hd h5
    refine wp_region_D (fun wq => Blk wq g 71 #[.int .i64 c.self, vb, vq] ∧ RBox wq bn n vp vo vv (.slice ha hn hcp)) 100 (fun _ => True) 28 rfl (by kernel_rfl) ?_
    generalize w5.drew = wd at *
    refine tkZ 0 58 (.pointer (some ⟨g, 0, none⟩)) rfl rfl (.inl ⟨by rfl, fun _ _ => by kernel_rfl⟩) (⟨hgd, hbd⟩) (.inr trivial) ?_
    simp only [Act.put, zqA, zqB, zqC]
    refine tkZ 1 59 (.pointer (some ⟨g, 0, none⟩)) rfl rfl (.inl ⟨by rfl, fun _ _ => by go_simp⟩) (⟨hgd, hbd⟩) (.inr trivial) ?_
    simp only [Act.put, zqA, zqB, zqC]
    refine tkZ 2 60 (.pointer (some ⟨g, 1, none⟩)) rfl rfl (.inl ⟨by rfl, fun _ _ => by go_simp⟩) (⟨hgd, hbd⟩) (.inr trivial) ?_
    simp only [Act.put, zqA, zqB, zqC]
    refine tkZ 3 61 (vb) rfl rfl (blk_yields (cs := #[.int .i64 c.self, vb, vq]) oneWs (by rfl) rfl rfl fun _ h => h.1) (⟨hgd, hbd⟩) (.inr trivial) ?_
    simp only [Act.put, zqA, zqB, zqC]
    refine tkZ 4 62 (.int .i64 (j : Int)) rfl rfl (.inl ⟨by rfl, fun _ _ => by kernel_rfl⟩) (⟨hgd, hbd⟩) (.inr trivial) ?_
    simp only [Act.put, zqA, zqB, zqC]
    refine tkZ 5 63 (.pointer (some ⟨g, 0, none⟩)) rfl rfl (.inl ⟨by rfl, fun _ _ => by kernel_rfl⟩) (⟨hgd, hbd⟩) (.inr trivial) ?_
    simp only [Act.put, zqA, zqB, zqC]
    refine tkZ 6 64 (.pointer (some ⟨g, 0, none⟩)) rfl rfl (.inl ⟨by rfl, fun _ _ => by go_simp⟩) (⟨hgd, hbd⟩) (.inr trivial) ?_
    simp only [Act.put, zqA, zqB, zqC]
    refine tkZ 7 65 (.pointer (some ⟨g, 1, none⟩)) rfl rfl (.inl ⟨by rfl, fun _ _ => by go_simp⟩) (⟨hgd, hbd⟩) (.inr trivial) ?_
    simp only [Act.put, zqA, zqB, zqC]
    refine tkZ 8 66 (vb) rfl rfl (blk_yields (cs := #[.int .i64 c.self, vb, vq]) oneWs (by rfl) rfl rfl fun _ h => h.1) (⟨hgd, hbd⟩) (.inr trivial) ?_
    simp only [Act.put, zqA, zqB, zqC]
    refine tkZ 9 67 (.int .i64 (j : Int)) rfl rfl (.inl ⟨by rfl, fun _ _ => by kernel_rfl⟩) (⟨hgd, hbd⟩) (.inr trivial) ?_
    simp only [Act.put, zqA, zqB, zqC]
    refine tkZ 10 68 (.pointer (some ⟨g, 0, none⟩)) rfl rfl (.inl ⟨by rfl, fun _ _ => by kernel_rfl⟩) (⟨hgd, hbd⟩) (.inr trivial) ?_
    simp only [Act.put, zqA, zqB, zqC]
    refine tkZ 11 69 (.pointer (some ⟨g, 0, none⟩)) rfl rfl (.inl ⟨by rfl, fun _ _ => by go_simp⟩) (⟨hgd, hbd⟩) (.inr trivial) ?_
    simp only [Act.put, zqA, zqB, zqC]
    refine tkZ 12 70 (.pointer (some ⟨g, 1, none⟩)) rfl rfl (.inl ⟨by rfl, fun _ _ => by go_simp⟩) (⟨hgd, hbd⟩) (.inr trivial) ?_
    simp only [Act.put, zqA, zqB, zqC]
    refine tkZ 13 71 (vb) rfl rfl (blk_yields (cs := #[.int .i64 c.self, vb, vq]) oneWs (by rfl) rfl rfl fun _ h => h.1) (⟨hgd, hbd⟩) (.inr trivial) ?_
    simp only [Act.put, zqA, zqB, zqC]
    refine tkZ 14 72 (.int .i64 (j : Int)) rfl rfl (.inl ⟨by rfl, fun _ _ => by kernel_rfl⟩) (⟨hgd, hbd⟩) (.inr trivial) ?_
    simp only [Act.put, zqA, zqB, zqC]
    refine tkZ 15 73 (.pointer (some ⟨bn, 10, none⟩)) rfl rfl (.inl ⟨by rfl, fun _ _ => by go_simp⟩) (⟨hgd, hbd⟩) (.inr trivial) ?_
    simp only [Act.put, zqA, zqB, zqC]
    refine tkZ 16 74 (.int .i64 n.code) rfl rfl (blk_yields (cs := (noteV n vp vo vv (.slice ha hn hcp)).cells) oneErr (by rfl) rfl rfl fun _ h => h.2) (⟨hgd, hbd⟩) (.inr trivial) ?_
    simp only [Act.put, zqA, zqB, zqC]
    refine tkZ 17 75 (.pointer (some ⟨bn, 3, none⟩)) rfl rfl (.inl ⟨by rfl, fun _ _ => by go_simp⟩) (⟨hgd, hbd⟩) (.inr trivial) ?_
    simp only [Act.put, zqA, zqB, zqC]
    refine tkZ 18 76 (.int .u64 (n.stamp.toNat : Int)) rfl rfl (blk_yields (cs := (noteV n vp vo vv (.slice ha hn hcp)).cells) oneU64 (by rfl) rfl rfl fun _ h => h.2) (⟨hgd, hbd⟩) (.inr trivial) ?_
    simp only [Act.put, zqA, zqB, zqC]
    refine tkZ 19 77 (.pointer (some ⟨gB, o, none⟩)) rfl rfl (idx_yields (by rfl) rfl rfl fun w => hrun .i64 w) (⟨hgd, hbd⟩) (.inr trivial) ?_
    simp only [Act.put, zqA, zqB, zqC]
    refine tkZ 20 78 (.pointer (some ⟨gB, o + 16, none⟩)) rfl rfl (.inl ⟨by rfl, fun _ _ => by go_simp⟩) (⟨hgd, hbd⟩) (.inr trivial) ?_
    simp only [Act.put, zqA, zqB, zqC]
    refine wpAnyD_step (i := 21) (by kernel_rfl) rfl fun K hK => ?_
    refine step_blk_store (.bool true) oneBool hbk rfl rfl rfl rfl (by (try simp only [Array.size_setIfInBounds]); omega) fun wx hbk ox sx => ?_
    have hgd := hgd.only ox hgg
    have hbd := hbd.only ox hgn
    have oy : Only (fun k => k = gB) wd wx := ox
    refine hK _ _ ⟨hgd, hbd⟩ trivial ?_
    clear hK K ox sx
    simp only [Act.put]
    refine tkZ 22 79 (.pointer (some ⟨gB, o, none⟩)) rfl rfl (idx_yields (by rfl) rfl rfl fun w => hrun .i64 w) (⟨hgd, hbd⟩) (.inr trivial) ?_
    simp only [Act.put, zqA, zqB, zqC]
    refine tkZ 23 80 (.pointer (some ⟨gB, o + 17, none⟩)) rfl rfl (.inl ⟨by rfl, fun _ _ => by go_simp⟩) (⟨hgd, hbd⟩) (.inr trivial) ?_
    simp only [Act.put, zqA, zqB, zqC]
    refine wpAnyD_step (i := 24) (by kernel_rfl) rfl fun K hK => ?_
    refine step_blk_store (.int .i64 n.code) oneErr hbk rfl rfl rfl rfl (by (try simp only [Array.size_setIfInBounds]); omega) fun wx hbk ox sx => ?_
    have hgd := hgd.only ox hgg
    have hbd := hbd.only ox hgn
    have oy := oy.trans ox (fun _ _ h => h)
    refine hK _ _ ⟨hgd, hbd⟩ trivial ?_
    clear hK K ox sx
    simp only [Act.put]
    refine tkZ 25 81 (.pointer (some ⟨gB, o, none⟩)) rfl rfl (idx_yields (by rfl) rfl rfl fun w => hrun .i64 w) (⟨hgd, hbd⟩) (.inr trivial) ?_
    simp only [Act.put, zqA, zqB, zqC]
    refine tkZ 26 82 (.pointer (some ⟨gB, o + 18, none⟩)) rfl rfl (.inl ⟨by rfl, fun _ _ => by go_simp⟩) (⟨hgd, hbd⟩) (.inr trivial) ?_
    simp only [Act.put, zqA, zqB, zqC]
    refine wpAnyD_step (i := 27) (by kernel_rfl) rfl fun K hK => ?_
    refine step_blk_store (.int .u64 (n.stamp.toNat : Int)) oneU64 hbk rfl rfl rfl rfl (by (try simp only [Array.size_setIfInBounds]); omega) fun wx hbk ox sx => ?_
    have hgd := hgd.only ox hgg
    have hbd := hbd.only ox hgn
    have oy := oy.trans ox (fun _ _ h => h)
    refine hK _ _ ⟨hgd, hbd⟩ trivial ?_
    clear hK K ox sx
    simp only [Act.put]
    refine wpAnyD_done (by kernel_rfl) ?_
    go_wp2_with (fail)
    go_roundg (c.B.length - (j + 1) + 1)
    case measure => have := Hk.out; omega
    case rel =>
     refine ⟨j + 1, by omega, by omega, by go_num, ?_⟩
     have oyw := owd.trans oy (fun _ _ h => h)
     have hset' := HSET.out wx S2 { z with over := true, code := n.code, stamp := n.stamp } _ ((((wantC z xp xo xv xh xhs).toList.set 16 (.bool true)).set 17 (.int .i64 n.code)).set 18 (.int .u64 (n.stamp.toNat : Int))) (HKP.out wx oyw) hbk (by simp) (set3_out cur o _ _ _) (set3_in cur o _ _ _ _ hos rfl HIN.out) ?_
     ·rw [← HYS.out, ← parted_succ _ c.B j z HZ.out] at hset'
      exact h6.setB HS.out hgB oy hset'
     ·have hk := HKP.out wx oyw
      exact ⟨_, _, HV.out.keep hk, HVS.out.keep hk, rfl⟩
   have HOV := Lib.hid hov
   clear hov
   go_wp2_with (first | ((with_reducible apply ugZ); rfl) | ((with_reducible (first | apply len_B | apply len_W | apply len_RL | apply len_L | apply len_Bat | apply len_Qst | apply len_H)); assumption) | ((with_reducible refine stop_ig kC ?_ ?_); rfl))
   refine Stop.go (blk_load (.int .i64 z.code) oneErr hw5 rfl rfl ?_)
   by_cases hz0 : z.code = 0
   ·have hzb : (z.code == 0) = true := by simp [hz0]
    have HNO := Lib.hid (HYES.out.trans (hearB_over n z HOV.out hz0))
    clear HOV HNM HYES HIN HSET HV HVS HBK HKP hbx hgB hgBM hgg hgn hos hrun
    go_wp2_with (fail)
    go_roundg (c.B.length - (j + 1) + 1)
    case measure => have := Hk.out; omega
    case rel => exact ⟨j + 1, by omega, by omega, by go_num, by rw [parted_same _ c.B j z HZ.out (HNO.out)]; exact h5⟩
   ·have hzb : (z.code == 0) = false := by simp [hz0]
    have HYS := Lib.hid (HYES.out.trans (hearB_yes n z HNM.out (.inr hz0)))
    clear hz0 HOV HNM HYES
    go_upto_region 6 with (fail)
    have hd := (Below.refl w5.heap.size w5).drew
    have h6 := h5.below hd
    have hgd := h6.hg
    have hbd := h6.bx
    have hbk : Blk w5.drew gB 166 cur := HBK.out.below hd (Blk.lt HBK.out)
    have owd := (Only.of_below hd).mono (G := fun x => x = gB) fun _ hk h => absurd hk (Nat.not_lt.2 h)
    clear hd h5
    refine wp_region_D (fun wq => Blk wq g 71 #[.int .i64 c.self, vb, vq] ∧ RBox wq bn n vp vo vv (.slice ha hn hcp)) 100 (fun _ => True) 28 rfl (by kernel_rfl) ?_
    generalize w5.drew = wd at *
    refine tkZ 0 58 (.pointer (some ⟨g, 0, none⟩)) rfl rfl (.inl ⟨by rfl, fun _ _ => by kernel_rfl⟩) (⟨hgd, hbd⟩) (.inr trivial) ?_
    simp only [Act.put, zqA, zqB, zqC]
    refine tkZ 1 59 (.pointer (some ⟨g, 0, none⟩)) rfl rfl (.inl ⟨by rfl, fun _ _ => by go_simp⟩) (⟨hgd, hbd⟩) (.inr trivial) ?_
    simp only [Act.put, zqA, zqB, zqC]
    refine tkZ 2 60 (.pointer (some ⟨g, 1, none⟩)) rfl rfl (.inl ⟨by rfl, fun _ _ => by go_simp⟩) (⟨hgd, hbd⟩) (.inr trivial) ?_
    simp only [Act.put, zqA, zqB, zqC]
    refine tkZ 3 61 (vb) rfl rfl (blk_yields (cs := #[.int .i64 c.self, vb, vq]) oneWs (by rfl) rfl rfl fun _ h => h.1) (⟨hgd, hbd⟩) (.inr trivial) ?_
    simp only [Act.put, zqA, zqB, zqC]
    refine tkZ 4 62 (.int .i64 (j : Int)) rfl rfl (.inl ⟨by rfl, fun _ _ => by kernel_rfl⟩) (⟨hgd, hbd⟩) (.inr trivial) ?_
    simp only [Act.put, zqA, zqB, zqC]
    refine tkZ 5 63 (.pointer (some ⟨g, 0, none⟩)) rfl rfl (.inl ⟨by rfl, fun _ _ => by kernel_rfl⟩) (⟨hgd, hbd⟩) (.inr trivial) ?_
    simp only [Act.put, zqA, zqB, zqC]
    refine tkZ 6 64 (.pointer (some ⟨g, 0, none⟩)) rfl rfl (.inl ⟨by rfl, fun _ _ => by go_simp⟩) (⟨hgd, hbd⟩) (.inr trivial) ?_
    simp only [Act.put, zqA, zqB, zqC]
    refine tkZ 7 65 (.pointer (some ⟨g, 1, none⟩)) rfl rfl (.inl ⟨by rfl, fun _ _ => by go_simp⟩) (⟨hgd, hbd⟩) (.inr trivial) ?_
    simp only [Act.put, zqA, zqB, zqC]
    refine tkZ 8 66 (vb) rfl rfl (blk_yields (cs := #[.int .i64 c.self, vb, vq]) oneWs (by rfl) rfl rfl fun _ h => h.1) (⟨hgd, hbd⟩) (.inr trivial) ?_
    simp only [Act.put, zqA, zqB, zqC]
    refine tkZ 9 67 (.int .i64 (j : Int)) rfl rfl (.inl ⟨by rfl, fun _ _ => by kernel_rfl⟩) (⟨hgd, hbd⟩) (.inr trivial) ?_
    simp only [Act.put, zqA, zqB, zqC]
    refine tkZ 10 68 (.pointer (some ⟨g, 0, none⟩)) rfl rfl (.inl ⟨by rfl, fun _ _ => by kernel_rfl⟩) (⟨hgd, hbd⟩) (.inr trivial) ?_
    simp only [Act.put, zqA, zqB, zqC]
    refine tkZ 11 69 (.pointer (some ⟨g, 0, none⟩)) rfl rfl (.inl ⟨by rfl, fun _ _ => by go_simp⟩) (⟨hgd, hbd⟩) (.inr trivial) ?_
    simp only [Act.put, zqA, zqB, zqC]
    refine tkZ 12 70 (.pointer (some ⟨g, 1, none⟩)) rfl rfl (.inl ⟨by rfl, fun _ _ => by go_simp⟩) (⟨hgd, hbd⟩) (.inr trivial) ?_
    simp only [Act.put, zqA, zqB, zqC]
    refine tkZ 13 71 (vb) rfl rfl (blk_yields (cs := #[.int .i64 c.self, vb, vq]) oneWs (by rfl) rfl rfl fun _ h => h.1) (⟨hgd, hbd⟩) (.inr trivial) ?_
    simp only [Act.put, zqA, zqB, zqC]
    refine tkZ 14 72 (.int .i64 (j : Int)) rfl rfl (.inl ⟨by rfl, fun _ _ => by kernel_rfl⟩) (⟨hgd, hbd⟩) (.inr trivial) ?_
    simp only [Act.put, zqA, zqB, zqC]
    refine tkZ 15 73 (.pointer (some ⟨bn, 10, none⟩)) rfl rfl (.inl ⟨by rfl, fun _ _ => by go_simp⟩) (⟨hgd, hbd⟩) (.inr trivial) ?_
    simp only [Act.put, zqA, zqB, zqC]
    refine tkZ 16 74 (.int .i64 n.code) rfl rfl (blk_yields (cs := (noteV n vp vo vv (.slice ha hn hcp)).cells) oneErr (by rfl) rfl rfl fun _ h => h.2) (⟨hgd, hbd⟩) (.inr trivial) ?_
    simp only [Act.put, zqA, zqB, zqC]
    refine tkZ 17 75 (.pointer (some ⟨bn, 3, none⟩)) rfl rfl (.inl ⟨by rfl, fun _ _ => by go_simp⟩) (⟨hgd, hbd⟩) (.inr trivial) ?_
    simp only [Act.put, zqA, zqB, zqC]
    refine tkZ 18 76 (.int .u64 (n.stamp.toNat : Int)) rfl rfl (blk_yields (cs := (noteV n vp vo vv (.slice ha hn hcp)).cells) oneU64 (by rfl) rfl rfl fun _ h => h.2) (⟨hgd, hbd⟩) (.inr trivial) ?_
    simp only [Act.put, zqA, zqB, zqC]
    refine tkZ 19 77 (.pointer (some ⟨gB, o, none⟩)) rfl rfl (idx_yields (by rfl) rfl rfl fun w => hrun .i64 w) (⟨hgd, hbd⟩) (.inr trivial) ?_
    simp only [Act.put, zqA, zqB, zqC]
    refine tkZ 20 78 (.pointer (some ⟨gB, o + 16, none⟩)) rfl rfl (.inl ⟨by rfl, fun _ _ => by go_simp⟩) (⟨hgd, hbd⟩) (.inr trivial) ?_
    simp only [Act.put, zqA, zqB, zqC]
    refine wpAnyD_step (i := 21) (by kernel_rfl) rfl fun K hK => ?_
    refine step_blk_store (.bool true) oneBool hbk rfl rfl rfl rfl (by (try simp only [Array.size_setIfInBounds]); omega) fun wx hbk ox sx => ?_
    have hgd := hgd.only ox hgg
    have hbd := hbd.only ox hgn
    have oy : Only (fun k => k = gB) wd wx := ox
    refine hK _ _ ⟨hgd, hbd⟩ trivial ?_
    clear hK K ox sx
    simp only [Act.put]
    refine tkZ 22 79 (.pointer (some ⟨gB, o, none⟩)) rfl rfl (idx_yields (by rfl) rfl rfl fun w => hrun .i64 w) (⟨hgd, hbd⟩) (.inr trivial) ?_
    simp only [Act.put, zqA, zqB, zqC]
    refine tkZ 23 80 (.pointer (some ⟨gB, o + 17, none⟩)) rfl rfl (.inl ⟨by rfl, fun _ _ => by go_simp⟩) (⟨hgd, hbd⟩) (.inr trivial) ?_
    simp only [Act.put, zqA, zqB, zqC]
    refine wpAnyD_step (i := 24) (by kernel_rfl) rfl fun K hK => ?_
    refine step_blk_store (.int .i64 n.code) oneErr hbk rfl rfl rfl rfl (by (try simp only [Array.size_setIfInBounds]); omega) fun wx hbk ox sx => ?_
    have hgd := hgd.only ox hgg
    have hbd := hbd.only ox hgn
    have oy := oy.trans ox (fun _ _ h => h)
    refine hK _ _ ⟨hgd, hbd⟩ trivial ?_
    clear hK K ox sx
    simp only [Act.put]
    refine tkZ 25 81 (.pointer (some ⟨gB, o, none⟩)) rfl rfl (idx_yields (by rfl) rfl rfl fun w => hrun .i64 w) (⟨hgd, hbd⟩) (.inr trivial) ?_
    simp only [Act.put, zqA, zqB, zqC]
    refine tkZ 26 82 (.pointer (some ⟨gB, o + 18, none⟩)) rfl rfl (.inl ⟨by rfl, fun _ _ => by go_simp⟩) (⟨hgd, hbd⟩) (.inr trivial) ?_
    simp only [Act.put, zqA, zqB, zqC]
    refine wpAnyD_step (i := 27) (by kernel_rfl) rfl fun K hK => ?_
    refine step_blk_store (.int .u64 (n.stamp.toNat : Int)) oneU64 hbk rfl rfl rfl rfl (by (try simp only [Array.size_setIfInBounds]); omega) fun wx hbk ox sx => ?_
    have hgd := hgd.only ox hgg
    have hbd := hbd.only ox hgn
    have oy := oy.trans ox (fun _ _ h => h)
    refine hK _ _ ⟨hgd, hbd⟩ trivial ?_
    clear hK K ox sx
    simp only [Act.put]
    refine wpAnyD_done (by kernel_rfl) ?_
    go_wp2_with (fail)
    go_roundg (c.B.length - (j + 1) + 1)
    case measure => have := Hk.out; omega
    case rel =>
     refine ⟨j + 1, by omega, by omega, by go_num, ?_⟩
     have oyw := owd.trans oy (fun _ _ h => h)
     have hset' := HSET.out wx S2 { z with over := true, code := n.code, stamp := n.stamp } _ ((((wantC z xp xo xv xh xhs).toList.set 16 (.bool true)).set 17 (.int .i64 n.code)).set 18 (.int .u64 (n.stamp.toNat : Int))) (HKP.out wx oyw) hbk (by simp) (set3_out cur o _ _ _) (set3_in cur o _ _ _ _ hos rfl HIN.out) ?_
     ·rw [← HYS.out, ← parted_succ _ c.B j z HZ.out] at hset'
      exact h6.setB HS.out hgB oy hset'
     ·have hk := HKP.out wx oyw
      exact ⟨_, _, HV.out.keep hk, HVS.out.keep hk, rfl⟩
  ·obtain rfl : j = c.B.length := by omega
   rw [parted_all _ _ _ (Nat.le_refl _)] at hst
   go_wp2_with (first | ((with_reducible apply ugZ); rfl) | ((with_reducible (first | apply len_B | apply len_W | apply len_RL | apply len_L | apply len_Bat | apply len_Qst | apply len_H)); assumption) | ((with_reducible refine stop_ig kC ?_ ?_); rfl))
   have hg1 := hst.hg
   refine Stop.go (blk_load (cs := #[.int .i64 c.self, vb, vq]) vq oneWs hg1 rfl rfl ?_)
   have hQs := hst.hQ.sl (S' := fun _ => True) (fun _ _ _ => trivial) fun _ _ => trivial
   have hh1 := hst
   clear hg1 hst
   go_wp2_with (first | ((with_reducible apply ugZ); rfl) | ((with_reducible (first | apply len_B | apply len_W | apply len_RL | apply len_L | apply len_Bat | apply len_Qst | apply len_H)); assumption) | ((with_reducible refine stop_ig kC ?_ ?_); rfl))
   clear hQs
   go_loopg [10, 11, 89] (c.Q.length + 1) (fun k x8 x9 i wr => ∃ j : Nat, k = c.Q.length - j + 1 ∧ j ≤ c.Q.length ∧ i = .int .i64 j ∧ RHear w wr base M S2 g c.self vb vq (c.B.map (hB1 n)) (parted (hQ1 n) c.Q j) bn n vp vo vv (.slice ha hn hcp))
   case atStart => exact ⟨0, by omega, by omega, rfl, by rw [parted_zero]; exact hh1⟩
   case round =>
    obtain ⟨j, hk, hj, rfl, hst⟩ := hrel
    have Hk := Lib.hid hk
    clear hk hh1
    by_cases hlt : j < c.Q.length
    ·obtain ⟨z, hz⟩ : ∃ z, c.Q[j]? = some z := ⟨_, List.getElem?_eq_getElem hlt⟩
     obtain ⟨gB, o, cur, cc, hgB, hbk, hrd, hos, hin, hrun, hset⟩ := hst.hQ.elem rowWant j z (parted_get _ _ j z hz)
     have hos : o + 20 ≤ cur.size := hos
     have hin : ∀ j, j < 20 → cur[o + j]? = cc[j]? := hin
     obtain ⟨V, xhs, hV, hvs, rfl⟩ := hrd
     have hV' := hV
     obtain ⟨xp, xo, xv, xh, rfl, y1, y2, y3, y4, _⟩ := hV'
     have hone := wantC_one z (Sl.slv y1) (Sl.slv y2) (Sl.slv y3) (Sl.slv y4) (Sl.slv hvs)
     clear y1 y2 y3 y4
     have hin : ∀ j, j < 20 → cur[o + j]? = (wantC z xp xo xv xh xhs).toList[j]? := hin
     have hgBM : M gB := HS.out.Q gB hgB
     have hgg : ¬ g = gB := fun e => own_ne hst.hQ hst.hg (by decide) (e ▸ hgB)
     have hgn : ¬ bn = gB := fun e => by have := HS.out.lt gB hgBM; have := HS.out.bn; omega
     have hcell : ∀ j v, (wantC z xp xo xv xh xhs).toList[j]? = some v → wr.cell? ⟨gB, o + j, none⟩ = some v := fun j v h => by
      have hj := (List.getElem?_eq_some_iff.1 h).1
      rw [hbk.cell, hin j (by simpa [wantC] using hj), h]
     have HIN := Lib.hid hin
     have HZ := Lib.hid hz
     have HV := Lib.hid hV
     have HVS := Lib.hid hvs
     have HSET := Lib.hid hset
     clear hin hz hV hvs hset
     go_wp2_with (first | ((with_reducible apply ugZ); rfl) | ((with_reducible (first | apply len_B | apply len_W | apply len_RL | apply len_L | apply len_Bat | apply len_Qst | apply len_H)); assumption) | ((with_reducible refine stop_ig kC ?_ ?_); rfl))
     refine Stop.go (wpList_idx (p := .pointer (some ⟨gB, o, none⟩)) rfl rfl (hrun .i64 _) ?_)
     go_wp2_with (first | ((with_reducible apply ugZ); rfl) | ((with_reducible (first | apply len_B | apply len_W | apply len_RL | apply len_L | apply len_Bat | apply len_Qst | apply len_H)); assumption) | ((with_reducible refine stop_ig kC ?_ ?_); rfl))
     refine Stop.go (cells_loadW (.agg (wantC z xp xo xv xh xhs)) (wantC z xp xo xv xh xhs).toList Tryd.underlying166 rfl (by kernel_rfl) rfl hcell rfl ?_)
     clear hcell
     go_wp2_with (first | ((with_reducible apply ugZ); rfl) | ((with_reducible (first | apply len_B | apply len_W | apply len_RL | apply len_L | apply len_Bat | apply len_Qst | apply len_H)); assumption) | ((with_reducible refine stop_ig kC ?_ ?_); rfl))
     refine Stop.go (blk_alloc (z := .agg zeroWant) (cs := zeroWant) (zero_run (by kernel_rfl)) rfl fun bw w4 hw hwg hb4 => ?_)
     go_wp2_with (first | ((with_reducible apply ugZ); rfl) | ((with_reducible (first | apply len_B | apply len_W | apply len_RL | apply len_L | apply len_Bat | apply len_Qst | apply len_H)); assumption) | ((with_reducible refine stop_ig kC ?_ ?_); rfl))
     refine Stop.go (blk_store_all (cs' := wantC z xp xo xv xh xhs) hw rfl rfl (by kernel_rfl) rfl hone fun w5 hw5 o5 z5 => ?_)
     have hb5 : Below wr.heap.size wr w5 := hb4.trans (o5.below hb4.size (by rintro k rfl; exact hwg))
     have h5 := hst.below hb5
     have hbk5 := hbk.below hb5 hbk.lt
     have HBK := Lib.hid hbk5
     have HKP : Hid (∀ w', Only (fun x => x = gB) w5 w' → ∀ b, S2 b → b < wr.heap.size → w'.heap[b]? = wr.heap[b]? ∧ S2 b) := Lib.hid fun w' ho b hb hlt => ⟨(ho.block b (Nat.lt_of_lt_of_le hlt hb5.size) fun e => HS.out.no b hb (e ▸ hgBM)).trans (hb5.block b hlt), hb⟩
     have hbx := h5.bx
     clear hw hb4 o5 z5 hone hbk hbk5 hb5 hst hwg
     go_wp2_with (first | ((with_reducible apply ugZ); rfl) | ((with_reducible (first | apply len_B | apply len_W | apply len_RL | apply len_L | apply len_Bat | apply len_Qst | apply len_H)); assumption) | ((with_reducible refine stop_ig kC ?_ ?_); rfl))
     refine Stop.go (blk_load (cs := (noteV n vp vo vv (.slice ha hn hcp)).cells) (.int .u8 (n.kind.toNat : Int)) oneU8 hbx rfl rfl ?_)
     by_cases hk2 : n.kind = 11
     case neg =>
      have hkb : ((n.kind.toNat : Int) == 11) = false := u8_lit n.kind 11 (by decide) hk2
      have HNO := Lib.hid (hQ1_no n z hk2)
      clear hk2 HIN HSET HV HVS HBK HKP hbx hgB hgBM hgg hgn hos hrun
      go_wp2_with (fail)
      go_roundg (c.Q.length - (j + 1) + 1)
      case measure => have := Hk.out; omega
      case rel => exact ⟨j + 1, by omega, by omega, by go_num, by rw [parted_same _ c.Q j z HZ.out (HNO.out)]; exact h5⟩
     have hkb : ((n.kind.toNat : Int) == 11) = true := by rw [hk2]; decide
     have HYES := Lib.hid (hQ1_yes n z hk2)
     clear hk2
     go_wp2_with (first | ((with_reducible apply ugZ); rfl) | ((with_reducible (first | apply len_B | apply len_W | apply len_RL | apply len_L | apply len_Bat | apply len_Qst | apply len_H)); assumption) | ((with_reducible refine stop_ig kC ?_ ?_); rfl))
     refine Stop.go (blk_load (.int .u64 (z.note.query.toNat : Int)) oneU64 hw5 rfl rfl ?_)
     go_wp2_with (first | ((with_reducible apply ugZ); rfl) | ((with_reducible (first | apply len_B | apply len_W | apply len_RL | apply len_L | apply len_Bat | apply len_Qst | apply len_H)); assumption) | ((with_reducible refine stop_ig kC ?_ ?_); rfl))
     refine Stop.go (blk_load (cs := (noteV n vp vo vv (.slice ha hn hcp)).cells) (.int .u64 (n.query.toNat : Int)) oneU64 hbx rfl rfl ?_)
     cases hnum : (z.note.query == n.query)
     ·have hnb : ((z.note.query.toNat : Int) == (n.query.toNat : Int)) = false := by rw [u64_beq]; exact hnum
      have HNO := Lib.hid (HYES.out.trans (hearQ_no n z hnum))
      clear hnum HIN HSET HV HVS HBK HKP hbx hgB hgBM hgg hgn hos hrun HYES
      go_wp2_with (fail)
      go_roundg (c.Q.length - (j + 1) + 1)
      case measure => have := Hk.out; omega
      case rel => exact ⟨j + 1, by omega, by omega, by go_num, by rw [parted_same _ c.Q j z HZ.out (HNO.out)]; exact h5⟩
     have hnb : ((z.note.query.toNat : Int) == (n.query.toNat : Int)) = true := by rw [u64_beq]; exact hnum
     have HNM := Lib.hid hnum
     clear hnum
     go_wp2_with (first | ((with_reducible apply ugZ); rfl) | ((with_reducible (first | apply len_B | apply len_W | apply len_RL | apply len_L | apply len_Bat | apply len_Qst | apply len_H)); assumption) | ((with_reducible refine stop_ig kC ?_ ?_); rfl))
     refine Stop.go (blk_load (.bool z.over) oneBool hw5 rfl rfl ?_)
     cases hov : z.over
     ·have HYS := Lib.hid (HYES.out.trans (hearQ_yes n z HNM.out hov))
      clear hov HNM HYES
      go_upto_region 12 with (fail)
      have hd := (Below.refl w5.heap.size w5).drew
      have h6 := h5.below hd
      have hgd := h6.hg
      have hbd := h6.bx
      have hbk : Blk w5.drew gB 166 cur := HBK.out.below hd (Blk.lt HBK.out)
      have owd := (Only.of_below hd).mono (G := fun x => x = gB) fun _ hk h => absurd hk (Nat.not_lt.2 h)
      clear hd h5
      refine wp_region_D (fun wq => Blk wq g 71 #[.int .i64 c.self, vb, vq] ∧ RBox wq bn n vp vo vv (.slice ha hn hcp)) 100 (fun _ => True) 38 rfl (by kernel_rfl) ?_
      generalize w5.drew = wd at *
      refine tkZ 0 110 (.pointer (some ⟨g, 0, none⟩)) rfl rfl (.inl ⟨by rfl, fun _ _ => by kernel_rfl⟩) (⟨hgd, hbd⟩) (.inr trivial) ?_
      simp only [Act.put, zqA, zqB, zqC]
      refine tkZ 1 111 (.pointer (some ⟨g, 0, none⟩)) rfl rfl (.inl ⟨by rfl, fun _ _ => by go_simp⟩) (⟨hgd, hbd⟩) (.inr trivial) ?_
      simp only [Act.put, zqA, zqB, zqC]
      refine tkZ 2 112 (.pointer (some ⟨g, 2, none⟩)) rfl rfl (.inl ⟨by rfl, fun _ _ => by go_simp⟩) (⟨hgd, hbd⟩) (.inr trivial) ?_
      simp only [Act.put, zqA, zqB, zqC]
      refine tkZ 3 113 (vq) rfl rfl (blk_yields (cs := #[.int .i64 c.self, vb, vq]) oneWs (by rfl) rfl rfl fun _ h => h.1) (⟨hgd, hbd⟩) (.inr trivial) ?_
      simp only [Act.put, zqA, zqB, zqC]
      refine tkZ 4 114 (.int .i64 (j : Int)) rfl rfl (.inl ⟨by rfl, fun _ _ => by kernel_rfl⟩) (⟨hgd, hbd⟩) (.inr trivial) ?_
      simp only [Act.put, zqA, zqB, zqC]
      refine tkZ 5 115 (.pointer (some ⟨g, 0, none⟩)) rfl rfl (.inl ⟨by rfl, fun _ _ => by kernel_rfl⟩) (⟨hgd, hbd⟩) (.inr trivial) ?_
      simp only [Act.put, zqA, zqB, zqC]
      refine tkZ 6 116 (.pointer (some ⟨g, 0, none⟩)) rfl rfl (.inl ⟨by rfl, fun _ _ => by go_simp⟩) (⟨hgd, hbd⟩) (.inr trivial) ?_
      simp only [Act.put, zqA, zqB, zqC]
      refine tkZ 7 117 (.pointer (some ⟨g, 2, none⟩)) rfl rfl (.inl ⟨by rfl, fun _ _ => by go_simp⟩) (⟨hgd, hbd⟩) (.inr trivial) ?_
      simp only [Act.put, zqA, zqB, zqC]
      refine tkZ 8 118 (vq) rfl rfl (blk_yields (cs := #[.int .i64 c.self, vb, vq]) oneWs (by rfl) rfl rfl fun _ h => h.1) (⟨hgd, hbd⟩) (.inr trivial) ?_
      simp only [Act.put, zqA, zqB, zqC]
      refine tkZ 9 119 (.int .i64 (j : Int)) rfl rfl (.inl ⟨by rfl, fun _ _ => by kernel_rfl⟩) (⟨hgd, hbd⟩) (.inr trivial) ?_
      simp only [Act.put, zqA, zqB, zqC]
      refine tkZ 10 120 (.pointer (some ⟨g, 0, none⟩)) rfl rfl (.inl ⟨by rfl, fun _ _ => by kernel_rfl⟩) (⟨hgd, hbd⟩) (.inr trivial) ?_
      simp only [Act.put, zqA, zqB, zqC]
      refine tkZ 11 121 (.pointer (some ⟨g, 0, none⟩)) rfl rfl (.inl ⟨by rfl, fun _ _ => by go_simp⟩) (⟨hgd, hbd⟩) (.inr trivial) ?_
      simp only [Act.put, zqA, zqB, zqC]
      refine tkZ 12 122 (.pointer (some ⟨g, 2, none⟩)) rfl rfl (.inl ⟨by rfl, fun _ _ => by go_simp⟩) (⟨hgd, hbd⟩) (.inr trivial) ?_
      simp only [Act.put, zqA, zqB, zqC]
      refine tkZ 13 123 (vq) rfl rfl (blk_yields (cs := #[.int .i64 c.self, vb, vq]) oneWs (by rfl) rfl rfl fun _ h => h.1) (⟨hgd, hbd⟩) (.inr trivial) ?_
      simp only [Act.put, zqA, zqB, zqC]
      refine tkZ 14 124 (.int .i64 (j : Int)) rfl rfl (.inl ⟨by rfl, fun _ _ => by kernel_rfl⟩) (⟨hgd, hbd⟩) (.inr trivial) ?_
      simp only [Act.put, zqA, zqB, zqC]
      refine tkZ 15 125 (.pointer (some ⟨g, 0, none⟩)) rfl rfl (.inl ⟨by rfl, fun _ _ => by kernel_rfl⟩) (⟨hgd, hbd⟩) (.inr trivial) ?_
      simp only [Act.put, zqA, zqB, zqC]
      refine tkZ 16 126 (.pointer (some ⟨g, 0, none⟩)) rfl rfl (.inl ⟨by rfl, fun _ _ => by go_simp⟩) (⟨hgd, hbd⟩) (.inr trivial) ?_
      simp only [Act.put, zqA, zqB, zqC]
      refine tkZ 17 127 (.pointer (some ⟨g, 2, none⟩)) rfl rfl (.inl ⟨by rfl, fun _ _ => by go_simp⟩) (⟨hgd, hbd⟩) (.inr trivial) ?_
      simp only [Act.put, zqA, zqB, zqC]
      refine tkZ 18 128 (vq) rfl rfl (blk_yields (cs := #[.int .i64 c.self, vb, vq]) oneWs (by rfl) rfl rfl fun _ h => h.1) (⟨hgd, hbd⟩) (.inr trivial) ?_
      simp only [Act.put, zqA, zqB, zqC]
      refine tkZ 19 129 (.int .i64 (j : Int)) rfl rfl (.inl ⟨by rfl, fun _ _ => by kernel_rfl⟩) (⟨hgd, hbd⟩) (.inr trivial) ?_
      simp only [Act.put, zqA, zqB, zqC]
      refine tkZ 20 130 (.pointer (some ⟨bn, 10, none⟩)) rfl rfl (.inl ⟨by rfl, fun _ _ => by go_simp⟩) (⟨hgd, hbd⟩) (.inr trivial) ?_
      simp only [Act.put, zqA, zqB, zqC]
      refine tkZ 21 131 (.int .i64 n.code) rfl rfl (blk_yields (cs := (noteV n vp vo vv (.slice ha hn hcp)).cells) oneErr (by rfl) rfl rfl fun _ h => h.2) (⟨hgd, hbd⟩) (.inr trivial) ?_
      simp only [Act.put, zqA, zqB, zqC]
      refine tkZ 22 132 (.pointer (some ⟨bn, 3, none⟩)) rfl rfl (.inl ⟨by rfl, fun _ _ => by go_simp⟩) (⟨hgd, hbd⟩) (.inr trivial) ?_
      simp only [Act.put, zqA, zqB, zqC]
      refine tkZ 23 133 (.int .u64 (n.stamp.toNat : Int)) rfl rfl (blk_yields (cs := (noteV n vp vo vv (.slice ha hn hcp)).cells) oneU64 (by rfl) rfl rfl fun _ h => h.2) (⟨hgd, hbd⟩) (.inr trivial) ?_
      simp only [Act.put, zqA, zqB, zqC]
      refine tkZ 24 134 (.pointer (some ⟨bn, 15, none⟩)) rfl rfl (.inl ⟨by rfl, fun _ _ => by go_simp⟩) (⟨hgd, hbd⟩) (.inr trivial) ?_
      simp only [Act.put, zqA, zqB, zqC]
      refine tkZ 25 135 (.slice ha hn hcp) rfl rfl (blk_yields (cs := (noteV n vp vo vv (.slice ha hn hcp)).cells) oneH (by rfl) rfl rfl fun _ h => h.2) (⟨hgd, hbd⟩) (.inr trivial) ?_
      simp only [Act.put, zqA, zqB, zqC]
      refine tkZ 26 136 (.pointer (some ⟨gB, o, none⟩)) rfl rfl (idx_yields (by rfl) rfl rfl fun w => hrun .i64 w) (⟨hgd, hbd⟩) (.inr trivial) ?_
      simp only [Act.put, zqA, zqB, zqC]
      refine tkZ 27 137 (.pointer (some ⟨gB, o + 16, none⟩)) rfl rfl (.inl ⟨by rfl, fun _ _ => by go_simp⟩) (⟨hgd, hbd⟩) (.inr trivial) ?_
      simp only [Act.put, zqA, zqB, zqC]
      refine wpAnyD_step (i := 28) (by kernel_rfl) rfl fun K hK => ?_
      refine step_blk_store (.bool true) oneBool hbk rfl rfl rfl rfl (by (try simp only [Array.size_setIfInBounds]); omega) fun wx hbk ox sx => ?_
      have hgd := hgd.only ox hgg
      have hbd := hbd.only ox hgn
      have oy : Only (fun k => k = gB) wd wx := ox
      refine hK _ _ ⟨hgd, hbd⟩ trivial ?_
      clear hK K ox sx
      simp only [Act.put]
      refine tkZ 29 138 (.pointer (some ⟨gB, o, none⟩)) rfl rfl (idx_yields (by rfl) rfl rfl fun w => hrun .i64 w) (⟨hgd, hbd⟩) (.inr trivial) ?_
      simp only [Act.put, zqA, zqB, zqC]
      refine tkZ 30 139 (.pointer (some ⟨gB, o + 17, none⟩)) rfl rfl (.inl ⟨by rfl, fun _ _ => by go_simp⟩) (⟨hgd, hbd⟩) (.inr trivial) ?_
      simp only [Act.put, zqA, zqB, zqC]
      refine wpAnyD_step (i := 31) (by kernel_rfl) rfl fun K hK => ?_
      refine step_blk_store (.int .i64 n.code) oneErr hbk rfl rfl rfl rfl (by (try simp only [Array.size_setIfInBounds]); omega) fun wx hbk ox sx => ?_
      have hgd := hgd.only ox hgg
      have hbd := hbd.only ox hgn
      have oy := oy.trans ox (fun _ _ h => h)
      refine hK _ _ ⟨hgd, hbd⟩ trivial ?_
      clear hK K ox sx
      simp only [Act.put]
      refine tkZ 32 140 (.pointer (some ⟨gB, o, none⟩)) rfl rfl (idx_yields (by rfl) rfl rfl fun w => hrun .i64 w) (⟨hgd, hbd⟩) (.inr trivial) ?_
      simp only [Act.put, zqA, zqB, zqC]
      refine tkZ 33 141 (.pointer (some ⟨gB, o + 18, none⟩)) rfl rfl (.inl ⟨by rfl, fun _ _ => by go_simp⟩) (⟨hgd, hbd⟩) (.inr trivial) ?_
      simp only [Act.put, zqA, zqB, zqC]
      refine wpAnyD_step (i := 34) (by kernel_rfl) rfl fun K hK => ?_
      refine step_blk_store (.int .u64 (n.stamp.toNat : Int)) oneU64 hbk rfl rfl rfl rfl (by (try simp only [Array.size_setIfInBounds]); omega) fun wx hbk ox sx => ?_
      have hgd := hgd.only ox hgg
      have hbd := hbd.only ox hgn
      have oy := oy.trans ox (fun _ _ h => h)
      refine hK _ _ ⟨hgd, hbd⟩ trivial ?_
      clear hK K ox sx
      simp only [Act.put]
      refine tkZ 35 142 (.pointer (some ⟨gB, o, none⟩)) rfl rfl (idx_yields (by rfl) rfl rfl fun w => hrun .i64 w) (⟨hgd, hbd⟩) (.inr trivial) ?_
      simp only [Act.put, zqA, zqB, zqC]
      refine tkZ 36 143 (.pointer (some ⟨gB, o + 19, none⟩)) rfl rfl (.inl ⟨by rfl, fun _ _ => by go_simp⟩) (⟨hgd, hbd⟩) (.inr trivial) ?_
      simp only [Act.put, zqA, zqB, zqC]
      refine wpAnyD_step (i := 37) (by kernel_rfl) rfl fun K hK => ?_
      refine step_blk_store (.slice ha hn hcp) oneH hbk rfl rfl rfl rfl (by (try simp only [Array.size_setIfInBounds]); omega) fun wx hbk ox sx => ?_
      have hgd := hgd.only ox hgg
      have hbd := hbd.only ox hgn
      have oy := oy.trans ox (fun _ _ h => h)
      refine hK _ _ ⟨hgd, hbd⟩ trivial ?_
      clear hK K ox sx
      simp only [Act.put]
      refine wpAnyD_done (by kernel_rfl) ?_
      go_wp2_with (fail)
      go_roundg (c.Q.length - (j + 1) + 1)
      case measure => have := Hk.out; omega
      case rel =>
       refine ⟨j + 1, by omega, by omega, by go_num, ?_⟩
       have oyw := owd.trans oy (fun _ _ h => h)
       have hset' := HSET.out wx S2 { z with over := true, code := n.code, stamp := n.stamp, hits := n.hits } _ (((((wantC z xp xo xv xh xhs).toList.set 16 (.bool true)).set 17 (.int .i64 n.code)).set 18 (.int .u64 (n.stamp.toNat : Int))).set 19 (.slice ha hn hcp)) (HKP.out wx oyw) hbk (by simp) (set4_out cur o _ _ _ _) (set4_in cur o _ _ _ _ _ hos rfl HIN.out) ?_
       ·rw [← HYS.out, ← parted_succ _ c.Q j z HZ.out] at hset'
        exact h6.setQ HS.out hgB oy hset'
       ·have hk := HKP.out wx oyw
        exact ⟨_, _, HV.out.keep hk, h6.hh.keep fun k hk hlt => ⟨oy.block k hlt fun e => HS.out.no k hk (e ▸ hgBM), hk⟩, rfl⟩
     have HNO := Lib.hid (HYES.out.trans (hearQ_over n z hov))
     clear hov HNM HYES HIN HSET HV HVS HBK HKP hbx hgB hgBM hgg hgn hos hrun
     go_wp2_with (fail)
     go_roundg (c.Q.length - (j + 1) + 1)
     case measure => have := Hk.out; omega
     case rel => exact ⟨j + 1, by omega, by omega, by go_num, by rw [parted_same _ c.Q j z HZ.out (HNO.out)]; exact h5⟩
    ·obtain rfl : j = c.Q.length := by omega
     rw [parted_all _ _ _ (Nat.le_refl _)] at hst
     go_wp2_with (fail)
     go_end0
     exact ⟨rfl, HFin.out _ hst⟩
end Go.Proofs.YtjkffjngamagkaaDoor
