/- armillaryref19: Put. -/
import Derived.Test.YtjkffjngamagkaaDoorRefCal
namespace Go.Proofs.YtjkffjngamagkaaDoor
open Go Go.RowKit Go.Arm
def Su (w : World) (S T : Nat → Prop) : Nat → Prop := fun k => (S k ∨ T k) ∧ k < w.heap.size
theorem oneWs : One Tryd.prog 69 := One.mk' Tryd.underlying69 rfl (by kernel_rfl)
theorem ref_rest {w w' : World} {base : Nat} {M S T : Nat → Prop} {g : Nat} {c : CallR} (hC : RefP w base M S g c) (hF : Fr w base M S) (_ : ∀ k, T k → k < w.heap.size → ¬ M k) (hb : Below w.heap.size w w') : RefP w' base M (Sx w (fun k => S k ∨ T k) M) g c ∧ Fr w' base M (Sx w (fun k => S k ∨ T k) M) ∧ Only M w w' :=
 ⟨hC.keep (fun k hk => ⟨hb.block k (hF k hk).2.1, hk⟩) fun k hk hlt => ⟨hb.block k hlt, fun e => (hF k e).2.2 hk, .inl (.inl hk)⟩, fun k hk => ⟨(hF k hk).1, Nat.lt_of_lt_of_le (hF k hk).2.1 hb.size, fun e => e.1 hk⟩, (Only.of_below hb).mono fun _ hlt h => absurd h (Nat.not_le.2 hlt)⟩
set_option maxHeartbeats 8000000 in
set_option maxRecDepth 100000 in
theorem rput_any (w : World) (base : Nat) (M S T : Nat → Prop) (g : Nat) (c : CallR) (num : UInt64) (l : List OpR) (vo : Value) (hC : RefP w base M S g c) (hF : Fr w base M S) (hbase : base ≤ w.heap.size) (ho : Sl w T l vo) (hT : ∀ k, T k → k < w.heap.size → ¬ M k) (hBl : c.B.length ≤ 64) :
  Calls Tryd.prog 32 #[.pointer (some ⟨g, 0, none⟩), .int .u64 (num.toNat : Int), vo] w fun e w' => ∃ v M', e = .returned (.tuple #[v, .int .i64 (c.putCode num l)]) ∧
   RefP w' base M' (Sx w (fun k => S k ∨ T k) M') g (c.put num l) ∧ Fr w' base M' (Sx w (fun k => S k ∨ T k) M') ∧ (∀ k, M' k → M k ∨ w.heap.size ≤ k) ∧ Only M w w' ∧ Sl w' (fun k => w.heap.size ≤ k ∧ ¬ M' k) (c.putL num l) v := by
 have ho0 := ho.old
 obtain ⟨vb, vq, hg, hgb, hMg, hB, hBM, hQ, hQM⟩ := id hC
 have hBs : Sl w (fun k => k < w.heap.size) c.B vb := (hB.sl (S' := fun _ => True) (fun _ _ _ => trivial) fun _ _ => trivial).old
 obtain ⟨ba, bn, bc, rfl⟩ := Sl.shape hBs
 have hbn := sl_lenW hBs
 subst hbn
 obtain ⟨oa, on, oc, rfl⟩ := Sl.shape ho0
 have HB := Lib.hid hB
 have HQ := Lib.hid hQ
 have HBM := Lib.hid hBM
 have HQM := Lib.hid hQM
 have HC := Lib.hid hC
 have HF := Lib.hid hF
 have HT := Lib.hid hT
 have HO := Lib.hid ho
 clear hB hQ hBM hQM hC hF hT ho hgb hMg
 have HP : Hid (c.put num l = if c.putCode num l = 0 then { c with B := c.B ++ [newW (askN num l)] } else c) := Lib.hid rfl
 have HL : Hid (c.putL num l = if c.putCode num l = 0 then [letOf c.self (askN num l)] else []) := Lib.hid rfl
 have HK : Hid (c.putCode num l = if nright (askN num l) = false then 4 else if (c.B.any fun x => x.note.batch == num) = true then 7 else if 64 ≤ c.B.length then 8 else 0) := Lib.hid rfl
 generalize c.put num l = c' at *
 generalize c.putL num l = L at *
 generalize c.putCode num l = code at *
 go_enter Tryd.func32, Tryd.ntmps32
 go_wp2_with (first | ((with_reducible apply ugZ); rfl) | ((with_reducible (first | apply len_B | apply len_W | apply len_RL | apply len_L | apply len_Bat | apply len_Qst | apply len_H)); assumption) | ((with_reducible refine stop_ig kC ?_ ?_); rfl))
 refine Stop.go (blk_alloc (z := .agg zeroCells) (cs := zeroCells) (zero_run (by kernel_rfl)) rfl fun bn w1 hn hng hb1 => ?_)
 go_wp2_with (first | ((with_reducible apply ugZ); rfl) | ((with_reducible (first | apply len_B | apply len_W | apply len_RL | apply len_L | apply len_Bat | apply len_Qst | apply len_H)); assumption) | ((with_reducible refine stop_ig kC ?_ ?_); rfl))
 refine Stop.go (blk_store_all (cs' := (noteV (askN num l) (.slice none 0 0) (.slice oa on oc) (.slice none 0 0) (.slice none 0 0)).cells) hn rfl rfl (by kernel_rfl) rfl (noteV_one (askN num l) ⟨_, _, _, rfl⟩ ⟨_, _, _, rfl⟩ ⟨_, _, _, rfl⟩ ⟨_, _, _, rfl⟩) fun w2 hn2 o2 z2 => ?_)
 have hx2 : RBox w2 bn (askN num l) (.slice none 0 0) (.slice oa on oc) (.slice none 0 0) (.slice none 0 0) := hn2
 have hb2 : Below w.heap.size w w2 := hb1.trans (o2.below hb1.size (by rintro k rfl; exact hng))
 have hg2 := hg.below hb2 hg.lt
 have hBs2 := hBs.below hb2 (Nat.le_refl _)
 have ho2 := ho0.below hb2 (Nat.le_refl _)
 have hnt := ask_nt w2 _ num l _ ho2
 have s2 := hb2.size
 clear hn hb1 o2 z2 hn2 ho0 hBs hg
 go_wp2_with (first | ((with_reducible apply ugZ); rfl) | ((with_reducible (first | apply len_B | apply len_W | apply len_RL | apply len_L | apply len_Bat | apply len_Qst | apply len_H)); assumption) | ((with_reducible refine stop_ig kC ?_ ?_); rfl))
 refine Stop.go (load_R hx2 rfl ?_)
 go_wp2_with (first | ((with_reducible apply ugZ); rfl) | ((with_reducible (first | apply len_B | apply len_W | apply len_RL | apply len_L | apply len_Bat | apply len_Qst | apply len_H)); assumption) | ((with_reducible refine stop_ig kC ?_ ?_); rfl))
 refine (rright_any w2 _ (askN num l) _ hnt).mono ?_
 rintro e w3 ⟨rfl, hb3⟩
 have hx3 := hx2.below hb3 (Blk.lt hx2)
 have hg3 := hg2.below hb3 hg2.lt
 have hBs3 := hBs2.below hb3 (by omega)
 have hnt3 := hnt.below hb3 (by omega)
 have ha3 := below_on hb2 hb3 s2
 have s3 := ha3.size
 clear hx2 hg2 hBs2 ho2 hnt hb2 hb3 s2
 cases hnr : nright (askN num l)
 ·have hcode : code = 4 := by rw [HK.out, hnr]; rfl
  have hp : c' = c := by rw [HP.out, hcode]; rfl
  have hl : L = [] := by rw [HL.out, hcode]; rfl
  subst hcode
  subst hp
  subst hl
  have hr := ref_rest HC.out HF.out HT.out ha3
  clear HB HQ HBM HQM HC HF HT HO HP HL HK
  go_wp2_with (fail)
  go_ret2
  exact ⟨_, M, rfl, hr.1, hr.2.1, fun k h => .inl h, hr.2.2, Sl.nil _ _⟩
 go_wp2_with (first | ((with_reducible apply ugZ); rfl) | ((with_reducible (first | apply len_B | apply len_W | apply len_RL | apply len_L | apply len_Bat | apply len_Qst | apply len_H)); assumption) | ((with_reducible refine stop_ig kC ?_ ?_); rfl))
 refine Stop.go (blk_load (cs := #[.int .i64 c.self, .slice ba c.B.length bc, vq]) (.slice ba c.B.length bc) oneWs hg3 rfl rfl ?_)
 go_wp2_with (first | ((with_reducible apply ugZ); rfl) | ((with_reducible (first | apply len_B | apply len_W | apply len_RL | apply len_L | apply len_Bat | apply len_Qst | apply len_H)); assumption) | ((with_reducible refine stop_ig kC ?_ ?_); rfl))
 go_loopg [10, 24] (c.B.length + 1) (fun k x10 i wq => ∃ (j : Nat), k = c.B.length - j + 1 ∧ j ≤ c.B.length ∧ i = .int .i64 j ∧ (c.B.take j).any (fun x => x.note.batch == num) = false ∧ Below w3.heap.size w3 wq)
 case atStart => exact ⟨0, by omega, by omega, rfl, rfl, Below.refl _ _⟩
 case round =>
  obtain ⟨j, hk, hj, rfl, hall, hbq⟩ := hrel
  have Hk := Lib.hid hk
  have HA := Lib.hid hall
  clear hk hall
  have sq := hbq.size
  by_cases hlt : j < c.B.length
  ·have hBs4 := hBs3.below hbq (by omega)
   go_wp2_with (first | ((with_reducible apply ugZ); rfl) | ((with_reducible (first | apply len_B | apply len_W | apply len_RL | apply len_L | apply len_Bat | apply len_Qst | apply len_H)); assumption) | ((with_reducible refine stop_ig kC ?_ ?_); rfl))
   refine Stop.go (idx_W hBs4 rfl (by omega) (by omega) fun b o x vp vo vv vh v hx hV hv hc => ?_)
   have hx : c.B[j]? = some x := by simpa using hx
   have HX := Lib.hid hx
   have hone := wantC_one x (by obtain ⟨_, _, _, _, e, h1, _⟩ := hV; cases e; exact Sl.slv h1) (by obtain ⟨_, _, _, _, e, _, h1, _⟩ := hV; cases e; exact Sl.slv h1) (by obtain ⟨_, _, _, _, e, _, _, h1, _⟩ := hV; cases e; exact Sl.slv h1) (by obtain ⟨_, _, _, _, e, _, _, _, h1, _⟩ := hV; cases e; exact Sl.slv h1) (Sl.slv hv)
   clear hx hV hv hBs4
   go_wp2_with (first | ((with_reducible apply ugZ); rfl) | ((with_reducible (first | apply len_B | apply len_W | apply len_RL | apply len_L | apply len_Bat | apply len_Qst | apply len_H)); assumption) | ((with_reducible refine stop_ig kC ?_ ?_); rfl))
   refine Stop.go (cells_loadW (.agg (wantC x vp vo vv vh v)) (wantC x vp vo vv vh v).toList Tryd.underlying166 rfl (by kernel_rfl) rfl hc rfl ?_)
   go_wp2_with (first | ((with_reducible apply ugZ); rfl) | ((with_reducible (first | apply len_B | apply len_W | apply len_RL | apply len_L | apply len_Bat | apply len_Qst | apply len_H)); assumption) | ((with_reducible refine stop_ig kC ?_ ?_); rfl))
   refine Stop.go (blk_alloc (z := .agg zeroWant) (cs := zeroWant) (zero_run (by kernel_rfl)) rfl fun bw w4 hw hwg hb4 => ?_)
   go_wp2_with (first | ((with_reducible apply ugZ); rfl) | ((with_reducible (first | apply len_B | apply len_W | apply len_RL | apply len_L | apply len_Bat | apply len_Qst | apply len_H)); assumption) | ((with_reducible refine stop_ig kC ?_ ?_); rfl))
   refine Stop.go (blk_store_all (cs' := wantC x vp vo vv vh v) hw rfl rfl (by kernel_rfl) rfl hone fun w5 hw5 o5 z5 => ?_)
   have hb5 : Below wr.heap.size wr w5 := hb4.trans (o5.below hb4.size (by rintro k rfl; exact hwg))
   have hbq5 := below_on hbq hb5 sq
   clear hw hb4 o5 z5 hone hc hb5 hbq
   go_wp2_with (first | ((with_reducible apply ugZ); rfl) | ((with_reducible (first | apply len_B | apply len_W | apply len_RL | apply len_L | apply len_Bat | apply len_Qst | apply len_H)); assumption) | ((with_reducible refine stop_ig kC ?_ ?_); rfl))
   refine Stop.go (blk_load (.int .u64 (x.note.batch.toNat : Int)) oneU64 hw5 rfl rfl ?_)
   by_cases hh : x.note.batch = num
   ·have hany := any_hit (fun x => x.note.batch == num) c.B j x HX.out (by simp [hh])
    have hcode : code = 7 := by rw [HK.out, hnr, if_neg (by decide), hany, if_pos rfl]
    have hp : c' = c := by rw [HP.out, hcode]; rfl
    have hl : L = [] := by rw [HL.out, hcode]; rfl
    subst hcode
    subst hp
    subst hl
    have hr := ref_rest HC.out HF.out HT.out (below_on ha3 hbq5 s3)
    clear hany hnr
    subst hh
    clear HB HQ HBM HQM HC HF HT HO HP HL HK
    go_wp2_with (fail)
    go_ret2
    exact ⟨_, M, rfl, hr.1, hr.2.1, fun k h => .inl h, hr.2.2, Sl.nil _ _⟩
   ·have hne : (x.note.batch.toNat : Int) ≠ (num.toNat : Int) := fun e => hh (UInt64.toNat_inj.1 (by omega))
    have hbe : ((x.note.batch.toNat : Int) == (num.toNat : Int)) = false := beq_eq_false_iff_ne.2 hne
    have hsn := any_take_snoc (fun x => x.note.batch == num) c.B j x HX.out HA.out (by simpa using hh)
    have HSN := Lib.hid hsn
    clear hsn hne hh
    go_wp2_with (fail)
    go_roundg (c.B.length - (j + 1) + 1)
    case measure => have := Hk.out; omega
    case rel => exact ⟨j + 1, by omega, by omega, by go_num, HSN.out, hbq5⟩
  ·have e : j = c.B.length := by omega
   subst e
   have hany := HA.out
   rw [List.take_length] at hany
   have hg4 := hg3.below hbq hg3.lt
   have hBs4 := hBs3.below hbq (by omega)
   have hx4 := hx3.below hbq (Blk.lt hx3)
   have hnt4 := hnt3.below hbq (by omega)
   have ha4 := below_on ha3 hbq s3
   clear hg3 hBs3 hx3 hnt3 ha3 hbq
   go_wp2_with (first | ((with_reducible apply ugZ); rfl) | ((with_reducible (first | apply len_B | apply len_W | apply len_RL | apply len_L | apply len_Bat | apply len_Qst | apply len_H)); assumption) | ((with_reducible refine stop_ig kC ?_ ?_); rfl))
   refine Stop.go (blk_load (cs := #[.int .i64 c.self, .slice ba c.B.length bc, vq]) (.slice ba c.B.length bc) oneWs hg4 rfl rfl ?_)
   by_cases h64 : 64 ≤ c.B.length
   ·have h64i : (64 : Int) ≤ (c.B.length : Int) := by omega
    have hcode : code = 8 := by rw [HK.out, hnr, if_neg (by decide), hany, if_neg (by decide), if_pos h64]
    have hp : c' = c := by rw [HP.out, hcode]; rfl
    have hl : L = [] := by rw [HL.out, hcode]; rfl
    subst hcode
    subst hp
    subst hl
    have hr := ref_rest HC.out HF.out HT.out ha4
    clear hany hnr h64
    clear HB HQ HBM HQM HC HF HT HO HP HL HK
    go_wp2_with (fail)
    go_ret2
    exact ⟨_, M, rfl, hr.1, hr.2.1, fun k h => .inl h, hr.2.2, Sl.nil _ _⟩
   ·have h64i : ¬ (64 : Int) ≤ (c.B.length : Int) := by omega
    have hcode : code = 0 := by rw [HK.out, hnr, if_neg (by decide), hany, if_neg (by decide), if_neg h64]
    have hp : c' = { c with B := c.B ++ [newW (askN num l)] } := by rw [HP.out, hcode]; rfl
    have hl : L = [letOf c.self (askN num l)] := by rw [HL.out, hcode]; rfl
    subst hcode
    subst hp
    subst hl
    clear HP HL HK hany
    go_upto_region 14 with (fail)
    have hdr := (Below.refl wr.heap.size wr).drew
    have hgd := hg4.below hdr hg4.lt
    have hxd : RBox wr.drew bn (askN num l) (.slice none 0 0) (.slice oa on oc) (.slice none 0 0) (.slice none 0 0) := hx4.below hdr (Blk.lt hx4)
    have had := below_on ha4 hdr ha4.size
    have hoS : Sl wr.drew (Su w S T) l (.slice oa on oc) := HO.out.keep fun k hk hlt => ⟨had.block k hlt, .inr hk, hlt⟩
    have hntS := ask_nt wr.drew _ num l _ hoS
    have hBS : Own wr.drew base 166 (fun k => Su w S T k ∨ k = wr.drew.heap.size) c.B (.slice ba c.B.length bc) := HB.out.keep (fun k hk hlt => ⟨had.block k hlt, .inl ⟨.inl hk, hlt⟩⟩) fun k hk => had.block k (HF.out k (HBM.out k hk).1).2.1
    have hno : ∀ b, Su w S T b → (Value.slice ba c.B.length bc).ownBlock ≠ some b := fun b hb e => by
     have hm := (HBM.out b e).1
     exact hb.1.elim (HF.out b hm).2.2 fun ht => HT.out b ht hb.2 hm
    clear hg4 hx4 hBs4 hnt4 ha4 hdr hoS
    refine wp_region_D (fun wq => RBox wq bn (askN num l) (.slice none 0 0) (.slice oa on oc) (.slice none 0 0) (.slice none 0 0)) 11 (fun wq => Blk wq g 71 #[.int .i64 c.self, .slice ba c.B.length bc, vq]) 12 rfl (by kernel_rfl) ?_
    generalize wr.drew = wd at *
    refine tkZ 0 40 (.pointer (some ⟨g, 0, none⟩)) rfl rfl (.inl ⟨by rfl, fun _ _ => by kernel_rfl⟩) (hxd) (.inr hgd) ?_
    simp only [Act.put, zqA, zqB, zqC]
    refine tkZ 1 41 (.pointer (some ⟨g, 0, none⟩)) rfl rfl (.inl ⟨by rfl, fun _ _ => by kernel_rfl⟩) (hxd) (.inr hgd) ?_
    simp only [Act.put, zqA, zqB, zqC]
    refine tkZ 2 42 (.pointer (some ⟨g, 0, none⟩)) rfl rfl (.inl ⟨by rfl, fun _ _ => by kernel_rfl⟩) (hxd) (.inr hgd) ?_
    simp only [Act.put, zqA, zqB, zqC]
    refine tkZ 3 43 (.pointer (some ⟨g, 1, none⟩)) rfl rfl (.inl ⟨by rfl, fun _ _ => by go_simp⟩) (hxd) (.inr hgd) ?_
    simp only [Act.put, zqA, zqB, zqC]
    refine wpAnyD_take2 (i := 4) (dst := some 44) (v := .slice ba c.B.length bc) rfl rfl (by decide) (by kernel_rfl) (by kernel_rfl) (by kernel_rfl) rfl (by kernel_rfl) (by kernel_rfl) (fun _ _ _ h => h) (blk_yields oneWs (by rfl) rfl rfl fun _ h => h.2) (hxd) (hgd) ?_
    simp only [Act.put, zqA, zqB, zqC]
    refine tkZ 5 45 (noteV (askN num l) (.slice none 0 0) (.slice oa on oc) (.slice none 0 0) (.slice none 0 0)) rfl rfl (yields_R (by rfl) rfl fun _ h => h) (hxd) (.inr hgd) ?_
    simp only [Act.put, zqA, zqB, zqC]
    refine tkZ 6 46 (.agg (wantC (newW (askN num l)) (.slice none 0 0) (.slice oa on oc) (.slice none 0 0) (.slice none 0 0) (.slice none 0 0))) rfl rfl (.inl ⟨by rfl, fun _ _ => by kernel_rfl⟩) (hxd) (.inr hgd) ?_
    simp only [Act.put, zqA, zqB, zqC]
    refine wpAnyD_step (i := 7) (by kernel_rfl) rfl fun K hK => ?_
    refine step_lit1 (α := WantR) (S := Su w S T) rowWant rfl (by show 0 < 20; decide) (by show 20 ≤ 1000; decide) (newW (askN num l)) rfl ⟨_, _, hntS, Sl.nil _ _, rfl⟩ fun v9 w9 m1 m2 m3 m4 => ?_
    have hgd : Blk w9 g 71 #[.int .i64 c.self, .slice ba c.B.length bc, vq] := hgd.grown m2 (by simp)
    have hxd : RBox w9 bn (askN num l) (.slice none 0 0) (.slice oa on oc) (.slice none 0 0) (.slice none 0 0) := Blk.grown hxd m2 (by simp)
    have hbl := fun b hb => (hBS.ge b hb)
    have hB9 := hBS.grown0 m2
    have ha9 := had.grown0 m2 had.size
    have m1 : Sl w9 (fun k => Su w S T k ∨ k = wd.heap.size) _ v9 := m1.sl (fun k h _ => .inl h) fun k hk => by rw [m3] at hk; cases hk; exact .inr rfl
    have s9 := m4
    have sd := had.size
    clear hBS m2 m3 m4 had hntS
    refine hK _ _ hxd hgd ?_
    clear hK K
    simp only [Act.put, zqA, zqB, zqC]
    refine wpAnyD_step (i := 8) (by kernel_rfl) rfl fun K hK => ?_
    refine step_append (α := WantR) (B := base) (S := fun k => Su w S T k ∨ k = wd.heap.size) rowWant rfl (by show 0 < 20; decide) hB9 m1 (fun _ _ h => h) (fun b hb _ => hb.elim (hno b) fun e => fun e2 => by subst e; have := (hbl _ e2).2; omega) (by simp only [maxLen, List.length_singleton]; omega) (by simp only [List.length_singleton]; omega) (by omega) fun v10 w10 g1 g2 g3 => ?_
    have g2 : w9.grownBy w10 (Value.slice ba c.B.length bc).ownBlock := g2
    have g3 : v10.ownBlock = (Value.slice ba c.B.length bc).ownBlock ∨ ∃ g, v10.ownBlock = some g ∧ w9.heap.size ≤ g := g3
    have hge := own_ne hB9 hgd (by decide)
    have hxe := own_ne hB9 hxd (by decide)
    have hgd : Blk w10 g 71 #[.int .i64 c.self, .slice ba c.B.length bc, vq] := hgd.grown g2 hge
    have hxd : RBox w10 bn (askN num l) (.slice none 0 0) (.slice oa on oc) (.slice none 0 0) (.slice none 0 0) := Blk.grown hxd g2 hxe
    have hQ10 : Own w10 base 166 (Su w S T) c.Q vq := HQ.out.keep (fun k hk hlt => ⟨(g2.block k (by have := ha9.size; omega) (fun e => hno k ⟨.inl hk, hlt⟩ e.symm)).trans (ha9.block k hlt), .inl hk, hlt⟩) (fun k hk => by
     have hlt := (HF.out k (HQM.out k hk)).2.1
     exact (g2.block k (by have := ha9.size; omega) (fun e => (HBM.out k e.symm).2 hk)).trans (ha9.block k hlt))
    have oM : Only M w w10 := by
     have o1 : Only M w w9 := (Only.of_below ha9).mono fun _ hlt h => absurd h (Nat.not_le.2 hlt)
     exact o1.trans (Only.of_grown g2) (fun k hlt e => (HBM.out k e).1)
    have s10 := g2.size
    have a9 := ha9.size
    obtain ⟨va, vn, vc, rfl⟩ := Own.shape g1
    have hel := own_ne g1 hgd (by decide)
    have hqe := own_ne hQ10 hgd (by decide)
    have hbg : ¬ bn = g := fun e => blk_ne hxd hgd (by decide) e
    clear hB9 m1 ha9 g2
    refine hK _ _ hxd hgd ?_
    clear hK K
    simp only [Act.put, zqA, zqB, zqC]
    refine tkZ 9 49 (.pointer (some ⟨g, 0, none⟩)) rfl rfl (.inl ⟨by rfl, fun _ _ => by kernel_rfl⟩) (hxd) (.inr hgd) ?_
    simp only [Act.put, zqA, zqB, zqC]
    refine tkZ 10 50 (.pointer (some ⟨g, 1, none⟩)) rfl rfl (.inl ⟨by rfl, fun _ _ => by go_simp⟩) (hxd) (.inr hgd) ?_
    simp only [Act.put, zqA, zqB, zqC]
    refine wpAnyD_stepd (i := 11) (by kernel_rfl) rfl (by kernel_rfl) fun K hK => ?_
    refine step_blk_store (.slice va vn vc) oneWs hgd rfl rfl rfl rfl (by simp) fun wx hgx ox sx => ?_
    have hgx : Blk wx g 71 #[.int .i64 c.self, .slice va vn vc, vq] := hgx
    have hxx : RBox wx bn (askN num l) (.slice none 0 0) (.slice oa on oc) (.slice none 0 0) (.slice none 0 0) := Blk.only hxd ox hbg
    have hMg : M g := by obtain ⟨_, _, _, _, h, _⟩ := HC.out; exact h
    have hgb : base ≤ g := by obtain ⟨_, _, _, h, _⟩ := HC.out; exact h
    have hgw := HF.out g hMg
    have hS2g : ∀ k, (Su w S T k ∨ k = wd.heap.size) → ¬ k = g := fun k h e => by
     subst e
     rcases h with h | h
     ·exact h.1.elim hgw.2.2 fun ht => HT.out _ ht h.2 hMg
     ·have := hgw.2.1; omega
    have hM2 : ∀ k, (Su w S T k ∨ k = wd.heap.size) → Sx w (fun k => S k ∨ T k) (fun k => M k ∨ (Value.slice va vn vc).ownBlock = some k) k := fun k h => by
     refine ⟨fun e => ?_, ?_⟩
     ·rcases e with e | e
      ·rcases h with h | h
       ·exact h.1.elim (HF.out k e).2.2 fun ht => HT.out k ht h.2 e
       ·have := (HF.out k e).2.1; omega
      ·rcases g3 with g3 | ⟨q, g3, hq⟩
       ·rw [g3] at e
        rcases h with h | h
        ·exact hno k h e
        ·have := (hbl k e).2; omega
       ·rw [g3] at e
        have e := Option.some.inj e
        rcases h with h | h
        ·have := h.2; omega
        ·omega
     ·rcases h with h | h
      ·exact .inl h.1
      ·exact .inr (by omega)
    have hB11 := g1.keep (S' := Sx w (fun k => S k ∨ T k) (fun k => M k ∨ (Value.slice va vn vc).ownBlock = some k)) (fun k hk hlt => ⟨ox.block k hlt (hS2g k hk), hM2 k hk⟩) (fun k hk => ox.block k (g1.ge k hk).2 (fun e => hel (e ▸ hk)))
    have hQ11 := hQ10.keep (S' := Sx w (fun k => S k ∨ T k) (fun k => M k ∨ (Value.slice va vn vc).ownBlock = some k)) (fun k hk hlt => ⟨ox.block k hlt (hS2g k (.inl hk)), hM2 k (.inl hk)⟩) (fun k hk => ox.block k (hQ10.ge k hk).2 (fun e => hqe (e ▸ hk)))
    have hR : RefP wx base (fun k => M k ∨ (Value.slice va vn vc).ownBlock = some k) (Sx w (fun k => S k ∨ T k) (fun k => M k ∨ (Value.slice va vn vc).ownBlock = some k)) g { c with B := c.B ++ [newW (askN num l)] } :=
     ⟨_, vq, hgx, hgb, .inl hMg, hB11, fun k hk => ⟨.inr hk, fun e => by
      rcases g3 with g3 | ⟨q, g3, hq⟩
      ·rw [g3] at hk; exact (HBM.out k hk).2 e
      ·rw [g3] at hk
       have := Option.some.inj hk
       have := (HF.out k (HQM.out k e)).2.1
       omega⟩, hQ11, fun k hk => .inl (HQM.out k hk)⟩
    have hFr : Fr wx base (fun k => M k ∨ (Value.slice va vn vc).ownBlock = some k) (Sx w (fun k => S k ∨ T k) (fun k => M k ∨ (Value.slice va vn vc).ownBlock = some k)) := fun k hk => by
     refine ⟨?_, ?_, fun e => e.1 hk⟩
     ·exact hk.elim (fun h => (HF.out k h).1) fun h => (g1.ge k h).1
     ·exact hk.elim (fun h => by have := (HF.out k h).2.1; omega) fun h => by have := (g1.ge k h).2; omega
    have oMx : Only M w wx := oM.trans ox (fun k _ e => by subst e; exact hMg)
    have hnewM : ∀ k, (M k ∨ (Value.slice va vn vc).ownBlock = some k) → M k ∨ w.heap.size ≤ k := fun k hk => hk.elim .inl fun h => by
     rcases g3 with g3 | ⟨q, g3, hq⟩
     ·rw [g3] at h; exact .inl (HBM.out k h).1
     ·rw [g3] at h; exact .inr (by have := Option.some.inj h; omega)
    clear hgd hxd hQ10 oM g1 g3 hno hbl hel hqe hB11 hQ11
    refine hK _ _ hxx ?_
    clear hK K
    simp only [Act.put]
    refine wpAnyD_done (by kernel_rfl) ?_
    have hoX : Sl wx T l (.slice oa on oc) := HO.out.keep fun k hk hlt => ⟨oMx.block k hlt (HT.out k hk hlt), hk⟩
    have hntX := ask_nt wx _ num l _ hoX
    have swx : w.heap.size ≤ wx.heap.size := oMx.size
    clear HB HQ HBM HQM HC HF HT HO hoX ox sx hS2g hM2
    go_wp2_with (first | ((with_reducible apply ugZ); rfl) | ((with_reducible (first | apply len_B | apply len_W | apply len_RL | apply len_L | apply len_Bat | apply len_Qst | apply len_H)); assumption) | ((with_reducible refine stop_ig kC ?_ ?_); rfl))
    refine Stop.go (load_R hxx rfl ?_)
    go_wp2_with (first | ((with_reducible apply ugZ); rfl) | ((with_reducible (first | apply len_B | apply len_W | apply len_RL | apply len_L | apply len_Bat | apply len_Qst | apply len_H)); assumption) | ((with_reducible refine stop_ig kC ?_ ?_); rfl))
    refine (rletter_any wx _ (askN num l) _ g c.self _ _ hntX hgx hnr).mono ?_
    rintro e wy ⟨u8, rfl, hu8, hby⟩
    have hRy := hR.below hFr hby (Nat.le_refl _)
    have hFy := hFr.below hby
    have oMy : Only M w wy := oMx.trans (Only.of_below hby) (fun k hlt h => by omega)
    have sy := hby.size
    clear hR oMx hby hgx hxx hntX
    go_wp2_with (first | ((with_reducible apply ugZ); rfl) | ((with_reducible (first | apply len_B | apply len_W | apply len_RL | apply len_L | apply len_Bat | apply len_Qst | apply len_H)); assumption) | ((with_reducible refine stop_ig kC ?_ ?_); rfl))
    refine Stop.go (wpList_lit1 (α := LetR) (S := fun k => wx.heap.size ≤ k) rowRL rfl (by show 0 < 3; decide) (by show 3 ≤ 1000; decide) (letOf c.self (askN num l)) rfl ⟨u8, rfl, hu8.sl'⟩ fun v9 wz m1 m2 m3 m4 => ?_)
    have bz := below_of_grown (B := wy.heap.size) m2 (Nat.le_refl _) (by simp)
    have hRz := hRy.below hFy bz (Nat.le_refl _)
    have hFz := hFy.below bz
    have oMz : Only M w wz := oMy.trans (Only.of_below bz) (fun k hlt h => by omega)
    have hres := m1.sl (S' := fun k => w.heap.size ≤ k ∧ ¬ (M k ∨ (Value.slice va vn vc).ownBlock = some k)) (fun k (h : wx.heap.size ≤ k) _ => ⟨by omega, fun e => by have := (hFr k e).2.1; omega⟩) (fun k hk => by have := (m1.ge k hk).1; exact ⟨by omega, fun e => by have := (hFr k e).2.1; omega⟩)
    clear hRy hFy oMy hu8 m1 m2 m3 m4 bz hFr
    go_wp2_with (fail)
    go_ret2
    exact ⟨_, _, rfl, hRz, hFz, hnewM, oMz, hres⟩
end Go.Proofs.YtjkffjngamagkaaDoor
