/- armillaryref19: Ask (printed by gen_rask.py). -/
import Derived.Test.YtjkffjngamagkaaDoorRefPut
namespace Go.Proofs.YtjkffjngamagkaaDoor
open Go Go.RowKit Go.Arm
set_option maxHeartbeats 8000000 in
set_option maxRecDepth 100000 in
theorem rask_any (w : World) (base : Nat) (M S T : Nat → Prop) (g : Nat) (c : CallR) (n : NoteR) (V : Value) (hC : RefP w base M S g c) (hF : Fr w base M S) (hbase : base ≤ w.heap.size) (hV : Nt w T n V) (hT : ∀ k, T k → k < w.heap.size → ¬ M k) (hQl : c.Q.length ≤ 64) :
  Calls Tryd.prog 33 #[.pointer (some ⟨g, 0, none⟩), V] w fun e w' => ∃ v M', e = .returned (.tuple #[v, .int .i64 (c.askCode n)]) ∧
   RefP w' base M' (Sx w (fun k => S k ∨ T k) M') g (c.ask n) ∧ Fr w' base M' (Sx w (fun k => S k ∨ T k) M') ∧ (∀ k, M' k → M k ∨ w.heap.size ≤ k) ∧ Only M w w' ∧ Sl w' (fun k => w.heap.size ≤ k ∧ ¬ M' k) (c.askL n) v := by
 have hV0 := hV.old
 obtain ⟨vb, vq, hg, hgb, hMg, hB, hBM, hQ, hQM⟩ := id hC
 have hBs : Sl w (fun k => k < w.heap.size) c.Q vq := (hQ.sl (S' := fun _ => True) (fun _ _ _ => trivial) fun _ _ => trivial).old
 obtain ⟨ba, bn, bc, rfl⟩ := Sl.shape hBs
 have hbn := sl_lenW hBs
 subst hbn
 obtain ⟨up, uo, uv, uh, rfl, z1, z2, z3, z4⟩ := nt_shape hV0
 have HB := Lib.hid hB
 have HQ := Lib.hid hQ
 have HBM : Hid (∀ k, vb.ownBlock = some k → M k) := Lib.hid fun k hk => (hBM k hk).1
 have HQM : Hid (∀ k, (Value.slice ba c.Q.length bc).ownBlock = some k → M k ∧ vb.ownBlock ≠ some k) := Lib.hid fun k hk => ⟨hQM k hk, fun e => (hBM k e).2 hk⟩
 have HC := Lib.hid hC
 have HF := Lib.hid hF
 have HT := Lib.hid hT
 have HO := Lib.hid hV
 clear hB hQ hBM hQM hC hF hT hV hgb hMg z1 z2 z3 z4
 have HP : Hid (c.ask n = if c.askCode n = 0 then { c with Q := c.Q ++ [newW n] } else c) := Lib.hid rfl
 have HL : Hid (c.askL n = if c.askCode n = 0 then [letOf c.self n] else []) := Lib.hid rfl
 have HK : Hid (c.askCode n = if nright n = false ∨ n.kind ≠ 8 then 4 else if (c.Q.any fun x => x.note.query == n.query) = true then 7 else if 64 ≤ c.Q.length then 8 else 0) := Lib.hid rfl
 generalize c.ask n = c' at *
 generalize c.askL n = L at *
 generalize c.askCode n = code at *
 go_enter Tryd.func33, Tryd.ntmps33
 go_wp2_with (first | ((with_reducible apply ugZ); rfl) | ((with_reducible (first | apply len_B | apply len_W | apply len_RL | apply len_L | apply len_Bat | apply len_Qst | apply len_H)); assumption) | ((with_reducible refine stop_ig kC ?_ ?_); rfl))
 refine Stop.go (box_R rfl fun bn w2 hx2 hng hb2 => ?_)
 have hg2 := hg.below hb2 hg.lt
 have hBs2 := hBs.below hb2 (Nat.le_refl _)
 have hnt := hV0.below hb2 (Nat.le_refl _)
 have s2 := hb2.size
 clear hV0 hBs hg
 go_wp2_with (first | ((with_reducible apply ugZ); rfl) | ((with_reducible (first | apply len_B | apply len_W | apply len_RL | apply len_L | apply len_Bat | apply len_Qst | apply len_H)); assumption) | ((with_reducible refine stop_ig kC ?_ ?_); rfl))
 refine Stop.go (blk_load (cs := (noteV n up uo uv uh).cells) (.int .u8 (n.kind.toNat : Int)) oneU8 hx2 rfl rfl ?_)
 by_cases hk8 : n.kind = 8
 case neg =>
  have hki : ((n.kind.toNat : Int) == 8) = false := beq_eq_false_iff_ne.2 fun e => hk8 (UInt8.toNat_inj.1 (by show n.kind.toNat = 8; omega))
  have hkn : ((n.kind.toNat : Int) != 8) = true := by rw [bne, hki]; rfl
  have hki2 : ¬ ((n.kind.toNat : Int) = 8) := beq_eq_false_iff_ne.1 hki
  have hcode : code = 4 := by rw [HK.out, if_pos (.inr hk8)]
  have hp : c' = c := by rw [HP.out, hcode]; rfl
  have hl : L = [] := by rw [HL.out, hcode]; rfl
  subst hcode
  subst hp
  subst hl
  have hr := ref_rest HC.out HF.out HT.out hb2
  clear HB HQ HBM HQM HC HF HT HO HP HL HK hk8
  go_wp2_with (fail)
  go_ret2
  exact ⟨_, M, rfl, hr.1, hr.2.1, fun k h => .inl h, hr.2.2, Sl.nil _ _⟩
 have hki : (n.kind.toNat : Int) = 8 := by rw [hk8]; rfl
 rw [hki]
 clear hki
 go_wp2_with (first | ((with_reducible apply ugZ); rfl) | ((with_reducible (first | apply len_B | apply len_W | apply len_RL | apply len_L | apply len_Bat | apply len_Qst | apply len_H)); assumption) | ((with_reducible refine stop_ig kC ?_ ?_); rfl))
 refine Stop.go (load_R hx2 rfl ?_)
 go_wp2_with (first | ((with_reducible apply ugZ); rfl) | ((with_reducible (first | apply len_B | apply len_W | apply len_RL | apply len_L | apply len_Bat | apply len_Qst | apply len_H)); assumption) | ((with_reducible refine stop_ig kC ?_ ?_); rfl))
 refine (rright_any w2 _ n _ hnt).mono ?_
 rintro e w3 ⟨rfl, hb3⟩
 have hx3 := hx2.below hb3 (Blk.lt hx2)
 have hg3 := hg2.below hb3 hg2.lt
 have hBs3 := hBs2.below hb3 (by omega)
 have hnt3 := hnt.below hb3 (by omega)
 have ha3 := below_on hb2 hb3 s2
 have s3 := ha3.size
 clear hx2 hg2 hBs2 hnt hb2 hb3 s2
 cases hnr : nright n
 ·have hcode : code = 4 := by rw [HK.out, if_pos (.inl hnr)]
  have hp : c' = c := by rw [HP.out, hcode]; rfl
  have hl : L = [] := by rw [HL.out, hcode]; rfl
  subst hcode
  subst hp
  subst hl
  have hr := ref_rest HC.out HF.out HT.out ha3
  clear HB HQ HBM HQM HC HF HT HO HP HL HK
  go_wp2_with (fail)
  go_ret2
  exact ⟨_, M, rfl, hr.1, hr.2.1, fun k h => .inl h, hr.2.2, Sl.nil _ _⟩
 have HK : Hid (code = if (c.Q.any fun x => x.note.query == n.query) = true then 7 else if 64 ≤ c.Q.length then 8 else 0) := Lib.hid (by rw [HK.out, if_neg (by simp [hnr, hk8])])
 go_wp2_with (first | ((with_reducible apply ugZ); rfl) | ((with_reducible (first | apply len_B | apply len_W | apply len_RL | apply len_L | apply len_Bat | apply len_Qst | apply len_H)); assumption) | ((with_reducible refine stop_ig kC ?_ ?_); rfl))
 refine Stop.go (blk_load (cs := #[.int .i64 c.self, vb, .slice ba c.Q.length bc]) (.slice ba c.Q.length bc) oneWs hg3 rfl rfl ?_)
 go_wp2_with (first | ((with_reducible apply ugZ); rfl) | ((with_reducible (first | apply len_B | apply len_W | apply len_RL | apply len_L | apply len_Bat | apply len_Qst | apply len_H)); assumption) | ((with_reducible refine stop_ig kC ?_ ?_); rfl))
 go_loopg [7, 23] (c.Q.length + 1) (fun k x7 i wq => ∃ (j : Nat), k = c.Q.length - j + 1 ∧ j ≤ c.Q.length ∧ i = .int .i64 j ∧ (c.Q.take j).any (fun x => x.note.query == n.query) = false ∧ Below w3.heap.size w3 wq)
 case atStart => exact ⟨0, by omega, by omega, rfl, rfl, Below.refl _ _⟩
 case round =>
  obtain ⟨j, hk, hj, rfl, hall, hbq⟩ := hrel
  have Hk := Lib.hid hk
  have HA := Lib.hid hall
  clear hk hall
  have sq := hbq.size
  by_cases hlt : j < c.Q.length
  ·have hBs4 := hBs3.below hbq (by omega)
   go_wp2_with (first | ((with_reducible apply ugZ); rfl) | ((with_reducible (first | apply len_B | apply len_W | apply len_RL | apply len_L | apply len_Bat | apply len_Qst | apply len_H)); assumption) | ((with_reducible refine stop_ig kC ?_ ?_); rfl))
   refine Stop.go (idx_W hBs4 rfl (by omega) (by omega) fun b o x vp vo vv vh v hx hV hv hc => ?_)
   have hx : c.Q[j]? = some x := by simpa using hx
   have HX := Lib.hid hx
   have hone := wantC_one x (by obtain ⟨_, _, _, _, e, h1, _⟩ := hV; cases e; exact Sl.slv h1) (by obtain ⟨_, _, _, _, e, _, h1, _⟩ := hV; cases e; exact Sl.slv h1) (by obtain ⟨_, _, _, _, e, _, _, h1, _⟩ := hV; cases e; exact Sl.slv h1) (by obtain ⟨_, _, _, _, e, _, _, _, h1, _⟩ := hV; cases e; exact Sl.slv h1) (Sl.slv hv)
   clear hx hV hv hBs4
   go_wp2_with (first | ((with_reducible apply ugZ); rfl) | ((with_reducible (first | apply len_B | apply len_W | apply len_RL | apply len_L | apply len_Bat | apply len_Qst | apply len_H)); assumption) | ((with_reducible refine stop_ig kC ?_ ?_); rfl))
   refine Stop.go (cells_loadW (.agg (wantC x vp vo vv vh v)) (wantC x vp vo vv vh v).toList Tryd.underlying166 rfl (by kernel_rfl) rfl hc rfl ?_)
   go_wp2_with (first | ((with_reducible apply ugZ); rfl) | ((with_reducible (first | apply len_B | apply len_W | apply len_RL | apply len_L | apply len_Bat | apply len_Qst | apply len_H)); assumption) | ((with_reducible refine stop_ig kC ?_ ?_); rfl))
   refine Stop.go (blk_alloc (z := .agg zeroWant) (cs := zeroWant) (zero_run (by kernel_rfl)) rfl fun bw w4 hw hwg hb4 => ?_)
   go_wp2_with (first | ((with_reducible apply ugZ); rfl) | ((with_reducible (first | apply len_B | apply len_W | apply len_RL | apply len_L | apply len_Bat | apply len_Qst | apply len_H)); assumption) | ((with_reducible refine stop_ig kC ?_ ?_); rfl))
   refine Stop.go (blk_store_all (cs' := wantC x vp vo vv vh v) hw rfl rfl (by kernel_rfl) rfl hone fun w5 hw5 o5 z5 => ?_)
   have hb5 : Below wr.heap.size wr w5 := hb4.trans (o5.below hb4.size (by rintro k rfl; exact hwg))
   have hbq5 := below_on hbq hb5 sq
   clear hw hb4 o5 z5 hone hc hb5 hbq
   go_wp2_with (first | ((with_reducible apply ugZ); rfl) | ((with_reducible (first | apply len_B | apply len_W | apply len_RL | apply len_L | apply len_Bat | apply len_Qst | apply len_H)); assumption) | ((with_reducible refine stop_ig kC ?_ ?_); rfl))
   refine Stop.go (blk_load (.int .u64 (x.note.query.toNat : Int)) oneU64 hw5 rfl rfl ?_)
   have hx5 := hx3.below hbq5 (Blk.lt hx3)
   go_wp2_with (first | ((with_reducible apply ugZ); rfl) | ((with_reducible (first | apply len_B | apply len_W | apply len_RL | apply len_L | apply len_Bat | apply len_Qst | apply len_H)); assumption) | ((with_reducible refine stop_ig kC ?_ ?_); rfl))
   refine Stop.go (blk_load (cs := (noteV n up uo uv uh).cells) (.int .u64 (n.query.toNat : Int)) oneU64 hx5 rfl rfl ?_)
   by_cases hh : x.note.query = n.query
   ·have hany := any_hit (fun x => x.note.query == n.query) c.Q j x HX.out (by simp [hh])
    have hcode : code = 7 := by rw [HK.out, hany, if_pos rfl]
    have hp : c' = c := by rw [HP.out, hcode]; rfl
    have hl : L = [] := by rw [HL.out, hcode]; rfl
    subst hcode
    subst hp
    subst hl
    have hr := ref_rest HC.out HF.out HT.out (below_on ha3 hbq5 s3)
    clear hany
    rw [hh]
    clear HQ HB HQM HBM HC HF HT HO HP HL HK
    go_wp2_with (fail)
    go_ret2
    exact ⟨_, M, rfl, hr.1, hr.2.1, fun k h => .inl h, hr.2.2, Sl.nil _ _⟩
   ·have hne : (x.note.query.toNat : Int) ≠ (n.query.toNat : Int) := fun e => hh (UInt64.toNat_inj.1 (by omega))
    have hbe : ((x.note.query.toNat : Int) == (n.query.toNat : Int)) = false := beq_eq_false_iff_ne.2 hne
    have hsn := any_take_snoc (fun x => x.note.query == n.query) c.Q j x HX.out HA.out (by simpa using hh)
    have HSN := Lib.hid hsn
    clear hsn hne hh
    go_wp2_with (fail)
    go_roundg (c.Q.length - (j + 1) + 1)
    case measure => have := Hk.out; omega
    case rel => exact ⟨j + 1, by omega, by omega, by go_num, HSN.out, hbq5⟩
  ·have e : j = c.Q.length := by omega
   subst e
   have hany := HA.out
   rw [List.take_length] at hany
   have hg4 := hg3.below hbq hg3.lt
   have hBs4 := hBs3.below hbq (by omega)
   have hx4 := hx3.below hbq (Blk.lt hx3)
   have hnt4 := hnt3.below hbq (by omega)
   have ha4 := below_on ha3 hbq s3
   clear hg3 hBs3 hx3 hnt3 ha3 hbq
   go_wp2_with (first | ((with_reducible apply ugZ); rfl) | ((with_reducible (first | apply len_B | apply len_W | apply len_RL | apply len_L | apply len_Bat | apply len_Qst | apply len_H)); assumption) | ((with_reducible refine stop_ig kC ?_ ?_); rfl))
   refine Stop.go (blk_load (cs := #[.int .i64 c.self, vb, .slice ba c.Q.length bc]) (.slice ba c.Q.length bc) oneWs hg4 rfl rfl ?_)
   by_cases h64 : 64 ≤ c.Q.length
   ·have h64i : (64 : Int) ≤ (c.Q.length : Int) := by omega
    have hcode : code = 8 := by rw [HK.out, hany, if_neg (by decide), if_pos h64]
    have hp : c' = c := by rw [HP.out, hcode]; rfl
    have hl : L = [] := by rw [HL.out, hcode]; rfl
    subst hcode
    subst hp
    subst hl
    have hr := ref_rest HC.out HF.out HT.out ha4
    clear hany h64
    clear HQ HB HQM HBM HC HF HT HO HP HL HK
    go_wp2_with (fail)
    go_ret2
    exact ⟨_, M, rfl, hr.1, hr.2.1, fun k h => .inl h, hr.2.2, Sl.nil _ _⟩
   ·have h64i : ¬ (64 : Int) ≤ (c.Q.length : Int) := by omega
    have hcode : code = 0 := by rw [HK.out, hany, if_neg (by decide), if_neg h64]
    have hp : c' = { c with Q := c.Q ++ [newW n] } := by rw [HP.out, hcode]; rfl
    have hl : L = [letOf c.self n] := by rw [HL.out, hcode]; rfl
    subst hcode
    subst hp
    subst hl
    clear HP HL HK hany
    go_upto_region 13 with (fail)
    have hdr := (Below.refl wr.heap.size wr).drew
    have hgd := hg4.below hdr hg4.lt
    have hxd : RBox wr.drew bn n up uo uv uh := hx4.below hdr (Blk.lt hx4)
    have had := below_on ha4 hdr ha4.size
    have hntS : Nt wr.drew (Su w S T) n (noteV n up uo uv uh) := HO.out.keep fun k hk hlt => ⟨had.block k hlt, .inr hk, hlt⟩
    skip
    have hBS : Own wr.drew base 166 (fun k => Su w S T k ∨ k = wr.drew.heap.size) c.Q (.slice ba c.Q.length bc) := HQ.out.keep (fun k hk hlt => ⟨had.block k hlt, .inl ⟨.inl hk, hlt⟩⟩) fun k hk => had.block k (HF.out k (HQM.out k hk).1).2.1
    have hno : ∀ b, Su w S T b → (Value.slice ba c.Q.length bc).ownBlock ≠ some b := fun b hb e => by
     have hm := (HQM.out b e).1
     exact hb.1.elim (HF.out b hm).2.2 fun ht => HT.out b ht hb.2 hm
    clear hg4 hx4 hBs4 hnt4 ha4 hdr
    refine wp_region_D (fun wq => RBox wq bn n up uo uv uh) 11 (fun wq => Blk wq g 71 #[.int .i64 c.self, vb, .slice ba c.Q.length bc]) 12 rfl (by kernel_rfl) ?_
    generalize wr.drew = wd at *
    refine tkZ 0 40 (.pointer (some ⟨g, 0, none⟩)) rfl rfl (.inl ⟨by rfl, fun _ _ => by kernel_rfl⟩) (hxd) (.inr hgd) ?_
    simp only [Act.put, zqA, zqB, zqC]
    refine tkZ 1 41 (.pointer (some ⟨g, 0, none⟩)) rfl rfl (.inl ⟨by rfl, fun _ _ => by kernel_rfl⟩) (hxd) (.inr hgd) ?_
    simp only [Act.put, zqA, zqB, zqC]
    refine tkZ 2 42 (.pointer (some ⟨g, 0, none⟩)) rfl rfl (.inl ⟨by rfl, fun _ _ => by kernel_rfl⟩) (hxd) (.inr hgd) ?_
    simp only [Act.put, zqA, zqB, zqC]
    refine tkZ 3 43 (.pointer (some ⟨g, 2, none⟩)) rfl rfl (.inl ⟨by rfl, fun _ _ => by go_simp⟩) (hxd) (.inr hgd) ?_
    simp only [Act.put, zqA, zqB, zqC]
    refine wpAnyD_take2 (i := 4) (dst := some 44) (v := .slice ba c.Q.length bc) rfl rfl (by decide) (by kernel_rfl) (by kernel_rfl) (by kernel_rfl) rfl (by kernel_rfl) (by kernel_rfl) (fun _ _ _ h => h) (blk_yields oneWs (by rfl) rfl rfl fun _ h => h.2) (hxd) (hgd) ?_
    simp only [Act.put, zqA, zqB, zqC]
    refine tkZ 5 45 (noteV n up uo uv uh) rfl rfl (yields_R (by rfl) rfl fun _ h => h) (hxd) (.inr hgd) ?_
    simp only [Act.put, zqA, zqB, zqC]
    refine tkZ 6 46 (.agg (wantC (newW n) up uo uv uh (.slice none 0 0))) rfl rfl (.inl ⟨by rfl, fun _ _ => by kernel_rfl⟩) (hxd) (.inr hgd) ?_
    simp only [Act.put, zqA, zqB, zqC]
    refine wpAnyD_step (i := 7) (by kernel_rfl) rfl fun K hK => ?_
    refine step_lit1 (α := WantR) (S := Su w S T) rowWant rfl (by show 0 < 20; decide) (by show 20 ≤ 1000; decide) (newW n) rfl ⟨_, _, hntS, Sl.nil _ _, rfl⟩ fun v9 w9 m1 m2 m3 m4 => ?_
    have hgd : Blk w9 g 71 #[.int .i64 c.self, vb, .slice ba c.Q.length bc] := hgd.grown m2 (by simp)
    have hxd : RBox w9 bn n up uo uv uh := Blk.grown hxd m2 (by simp)
    have hbl := fun b hb => (hBS.ge b hb)
    have hB9 := hBS.grown0 m2
    have ha9 := had.grown0 m2 had.size
    have m1 : Sl w9 (fun k => Su w S T k ∨ k = wd.heap.size) _ v9 := m1.sl (fun k h _ => .inl h) fun k hk => by rw [m3] at hk; cases hk; exact .inr rfl
    have s9 := m4
    have sd := had.size
    clear hBS m2 m3 m4 had hntS
    refine hK _ _ hxd hgd ?_
    clear hK K
    simp only [Act.put, zqA, zqB, zqC]
    refine wpAnyD_step (i := 8) (by kernel_rfl) rfl fun K hK => ?_
    refine step_append (α := WantR) (B := base) (S := fun k => Su w S T k ∨ k = wd.heap.size) rowWant rfl (by show 0 < 20; decide) hB9 m1 (fun _ _ h => h) (fun b hb _ => hb.elim (hno b) fun e => fun e2 => by subst e; have := (hbl _ e2).2; omega) (by simp only [maxLen, List.length_singleton]; omega) (by simp only [List.length_singleton]; omega) (by omega) fun v10 w10 g1 g2 g3 => ?_
    have g2 : w9.grownBy w10 (Value.slice ba c.Q.length bc).ownBlock := g2
    have g3 : v10.ownBlock = (Value.slice ba c.Q.length bc).ownBlock ∨ ∃ g, v10.ownBlock = some g ∧ w9.heap.size ≤ g := g3
    have hge := own_ne hB9 hgd (by decide)
    have hxe := own_ne hB9 hxd (by decide)
    have hgd : Blk w10 g 71 #[.int .i64 c.self, vb, .slice ba c.Q.length bc] := hgd.grown g2 hge
    have hxd : RBox w10 bn n up uo uv uh := Blk.grown hxd g2 hxe
    have hQ10 : Own w10 base 166 (Su w S T) c.B vb := HB.out.keep (fun k hk hlt => ⟨(g2.block k (by have := ha9.size; omega) (fun e => hno k ⟨.inl hk, hlt⟩ e.symm)).trans (ha9.block k hlt), .inl hk, hlt⟩) (fun k hk => by
     have hlt := (HF.out k (HBM.out k hk)).2.1
     exact (g2.block k (by have := ha9.size; omega) (fun e => (HQM.out k e.symm).2 hk)).trans (ha9.block k hlt))
    have oM : Only M w w10 := by
     have o1 : Only M w w9 := (Only.of_below ha9).mono fun _ hlt h => absurd h (Nat.not_le.2 hlt)
     exact o1.trans (Only.of_grown g2) (fun k hlt e => (HQM.out k e).1)
    have s10 := g2.size
    have a9 := ha9.size
    obtain ⟨va, vn, vc, rfl⟩ := Own.shape g1
    have hel := own_ne g1 hgd (by decide)
    have hqe := own_ne hQ10 hgd (by decide)
    have hbg : ¬ bn = g := fun e => blk_ne hxd hgd (by decide) e
    clear hB9 m1 ha9 g2
    refine hK _ _ hxd hgd ?_
    clear hK K
    simp only [Act.put, zqA, zqB, zqC]
    refine tkZ 9 49 (.pointer (some ⟨g, 0, none⟩)) rfl rfl (.inl ⟨by rfl, fun _ _ => by kernel_rfl⟩) (hxd) (.inr hgd) ?_
    simp only [Act.put, zqA, zqB, zqC]
    refine tkZ 10 50 (.pointer (some ⟨g, 2, none⟩)) rfl rfl (.inl ⟨by rfl, fun _ _ => by go_simp⟩) (hxd) (.inr hgd) ?_
    simp only [Act.put, zqA, zqB, zqC]
    refine wpAnyD_stepd (i := 11) (by kernel_rfl) rfl (by kernel_rfl) fun K hK => ?_
    refine step_blk_store (.slice va vn vc) oneWs hgd rfl rfl rfl rfl (by simp) fun wx hgx ox sx => ?_
    have hgx : Blk wx g 71 #[.int .i64 c.self, vb, .slice va vn vc] := hgx
    have hxx : RBox wx bn n up uo uv uh := Blk.only hxd ox hbg
    have hMg : M g := by obtain ⟨_, _, _, _, h, _⟩ := HC.out; exact h
    have hgb : base ≤ g := by obtain ⟨_, _, _, h, _⟩ := HC.out; exact h
    have hgw := HF.out g hMg
    have hS2g : ∀ k, (Su w S T k ∨ k = wd.heap.size) → ¬ k = g := fun k h e => by
     subst e
     rcases h with h | h
     ·exact h.1.elim hgw.2.2 fun ht => HT.out _ ht h.2 hMg
     ·have := hgw.2.1; omega
    have hM2 : ∀ k, (Su w S T k ∨ k = wd.heap.size) → Sx w (fun k => S k ∨ T k) (fun k => M k ∨ (Value.slice va vn vc).ownBlock = some k) k := fun k h => by
     refine ⟨fun e => ?_, ?_⟩
     ·rcases e with e | e
      ·rcases h with h | h
       ·exact h.1.elim (HF.out k e).2.2 fun ht => HT.out k ht h.2 e
       ·have := (HF.out k e).2.1; omega
      ·rcases g3 with g3 | ⟨q, g3, hq⟩
       ·rw [g3] at e
        rcases h with h | h
        ·exact hno k h e
        ·have := (hbl k e).2; omega
       ·rw [g3] at e
        have e := Option.some.inj e
        rcases h with h | h
        ·have := h.2; omega
        ·omega
     ·rcases h with h | h
      ·exact .inl h.1
      ·exact .inr (by omega)
    have hB11 := g1.keep (S' := Sx w (fun k => S k ∨ T k) (fun k => M k ∨ (Value.slice va vn vc).ownBlock = some k)) (fun k hk hlt => ⟨ox.block k hlt (hS2g k hk), hM2 k hk⟩) (fun k hk => ox.block k (g1.ge k hk).2 (fun e => hel (e ▸ hk)))
    have hQ11 := hQ10.keep (S' := Sx w (fun k => S k ∨ T k) (fun k => M k ∨ (Value.slice va vn vc).ownBlock = some k)) (fun k hk hlt => ⟨ox.block k hlt (hS2g k (.inl hk)), hM2 k (.inl hk)⟩) (fun k hk => ox.block k (hQ10.ge k hk).2 (fun e => hqe (e ▸ hk)))
    have hR : RefP wx base (fun k => M k ∨ (Value.slice va vn vc).ownBlock = some k) (Sx w (fun k => S k ∨ T k) (fun k => M k ∨ (Value.slice va vn vc).ownBlock = some k)) g { c with Q := c.Q ++ [newW n] } :=
     ⟨vb, _, hgx, hgb, .inl hMg, hQ11, fun k e => ⟨.inl (HBM.out k e), fun hk => by
      rcases g3 with g3 | ⟨q, g3, hq⟩
      ·rw [g3] at hk; exact (HQM.out k hk).2 e
      ·rw [g3] at hk
       have := Option.some.inj hk
       have := (HF.out k (HBM.out k e)).2.1
       omega⟩, hB11, fun k hk => .inr hk⟩
    have hFr : Fr wx base (fun k => M k ∨ (Value.slice va vn vc).ownBlock = some k) (Sx w (fun k => S k ∨ T k) (fun k => M k ∨ (Value.slice va vn vc).ownBlock = some k)) := fun k hk => by
     refine ⟨?_, ?_, fun e => e.1 hk⟩
     ·exact hk.elim (fun h => (HF.out k h).1) fun h => (g1.ge k h).1
     ·exact hk.elim (fun h => by have := (HF.out k h).2.1; omega) fun h => by have := (g1.ge k h).2; omega
    have oMx : Only M w wx := oM.trans ox (fun k _ e => by subst e; exact hMg)
    have hnewM : ∀ k, (M k ∨ (Value.slice va vn vc).ownBlock = some k) → M k ∨ w.heap.size ≤ k := fun k hk => hk.elim .inl fun h => by
     rcases g3 with g3 | ⟨q, g3, hq⟩
     ·rw [g3] at h; exact .inl (HQM.out k h).1
     ·rw [g3] at h; exact .inr (by have := Option.some.inj h; omega)
    clear hgd hxd hQ10 oM g1 g3 hno hbl hel hqe hB11 hQ11
    refine hK _ _ hxx ?_
    clear hK K
    simp only [Act.put]
    refine wpAnyD_done (by kernel_rfl) ?_
    have hntX : Nt wx T n (noteV n up uo uv uh) := HO.out.keep fun k hk hlt => ⟨oMx.block k hlt (HT.out k hk hlt), hk⟩
    skip
    have swx : w.heap.size ≤ wx.heap.size := oMx.size
    clear HQ HB HQM HBM HC HF HT HO ox sx hS2g hM2
    go_wp2_with (first | ((with_reducible apply ugZ); rfl) | ((with_reducible (first | apply len_B | apply len_W | apply len_RL | apply len_L | apply len_Bat | apply len_Qst | apply len_H)); assumption) | ((with_reducible refine stop_ig kC ?_ ?_); rfl))
    refine Stop.go (load_R hxx rfl ?_)
    go_wp2_with (first | ((with_reducible apply ugZ); rfl) | ((with_reducible (first | apply len_B | apply len_W | apply len_RL | apply len_L | apply len_Bat | apply len_Qst | apply len_H)); assumption) | ((with_reducible refine stop_ig kC ?_ ?_); rfl))
    refine (rletter_any wx _ n _ g c.self _ _ hntX hgx hnr).mono ?_
    rintro e wy ⟨u8, rfl, hu8, hby⟩
    have hRy := hR.below hFr hby (Nat.le_refl _)
    have hFy := hFr.below hby
    have oMy : Only M w wy := oMx.trans (Only.of_below hby) (fun k hlt h => by omega)
    have sy := hby.size
    clear hR oMx hby hgx hxx hntX
    go_wp2_with (first | ((with_reducible apply ugZ); rfl) | ((with_reducible (first | apply len_B | apply len_W | apply len_RL | apply len_L | apply len_Bat | apply len_Qst | apply len_H)); assumption) | ((with_reducible refine stop_ig kC ?_ ?_); rfl))
    refine Stop.go (wpList_lit1 (α := LetR) (S := fun k => wx.heap.size ≤ k) rowRL rfl (by show 0 < 3; decide) (by show 3 ≤ 1000; decide) (letOf c.self n) rfl ⟨u8, rfl, hu8.sl'⟩ fun v9 wz m1 m2 m3 m4 => ?_)
    have bz := below_of_grown (B := wy.heap.size) m2 (Nat.le_refl _) (by simp)
    have hRz := hRy.below hFy bz (Nat.le_refl _)
    have hFz := hFy.below bz
    have oMz : Only M w wz := oMy.trans (Only.of_below bz) (fun k hlt h => by omega)
    have hres := m1.sl (S' := fun k => w.heap.size ≤ k ∧ ¬ (M k ∨ (Value.slice va vn vc).ownBlock = some k)) (fun k (h : wx.heap.size ≤ k) _ => ⟨by omega, fun e => by have := (hFr k e).2.1; omega⟩) (fun k hk => by have := (m1.ge k hk).1; exact ⟨by omega, fun e => by have := (hFr k e).2.1; omega⟩)
    clear hRy hFy oMy hu8 m1 m2 m3 m4 bz hFr
    go_wp2_with (fail)
    go_ret2
    exact ⟨_, _, rfl, hRz, hFz, hnewM, oMz, hres⟩
end Go.Proofs.YtjkffjngamagkaaDoor
