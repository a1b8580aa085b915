/- package caller: Ask. -/
import Derived.Test.YtjkffjngamagkaaDoorCal3
import Derived.Test.YtjkffjngamagkaaDoorNoteShape
namespace Go.Proofs.YtjkffjngamagkaaDoor
open Go Go.RowKit Go.Arm
set_option maxHeartbeats 4000000 in
set_option maxRecDepth 100000 in
theorem ask_any (w : World) (hN : Srt w) (hB : Nib w) (base : Nat) (M S S0 : Nat → Prop) (g : Nat) (c : CallR) (n : NoteR) (V : Value) (hC : CalP w base M S g c) (hF : Fr w base M S) (hbase : base ≤ w.heap.size) (hV : Nt w S0 n V) (hBl : c.Q.length ≤ 64) :
  Calls Tryd.prog 30 #[.pointer (some ⟨g, 0, none⟩), V] w fun e w' => ∃ v M', e = .returned (.tuple #[v, .int .i64 (c.askCode n)]) ∧
   CalP w' base M' (Sx w S M') g (c.ask n) ∧ Fr w' base M' (Sx w S M') ∧ (∀ k, M' k → M k ∨ w.heap.size ≤ k) ∧ Only M w w' ∧ Sl w' (fun k => w.heap.size ≤ k ∧ ¬ M' k) (c.askL n) v := by
 have hV0 := hV.old
 clear hV
 obtain ⟨S1, hS1⟩ : ∃ S1 : Nat → Prop, ∀ k, S1 k ↔ S k ∧ k < w.heap.size := ⟨_, fun _ => Iff.rfl⟩
 have hCs : CalP w base M S1 g c := hC.keep (fun k hk => ⟨rfl, hk⟩) fun k hk hlt => ⟨rfl, (hS1 k).2 ⟨hk, hlt⟩⟩
 have hFs : Fr w base M S1 := fun k hk => ⟨(hF k hk).1, (hF k hk).2.1, fun e => (hF k hk).2.2 ((hS1 k).1 e).1⟩
 have HS1 := Lib.hid hS1
 clear hS1
 have HP : Hid (c.ask n = if c.askCode n = 0 then { c with Q := c.Q ++ [newW n] } else c) := Lib.hid rfl
 have HL : Hid (c.askL n = if c.askCode n = 0 then [letOf c.self n] else []) := Lib.hid rfl
 have HC : Hid (c.askCode n = if nright n = false ∨ n.kind ≠ 8 then 4 else if (c.Q.any fun x => x.note.query == n.query) = true then 7 else if 64 ≤ c.Q.length then 8 else 0) := Lib.hid rfl
 generalize c.ask n = c' at *
 generalize c.askL n = L at *
 generalize c.askCode n = code at *
 obtain ⟨up, uo, uv, uh, rfl, z1, z2, z3, z4⟩ := nt_shape hV0
 go_enter Tryd.func30, Tryd.ntmps30
 go_wp2_with (first | ((with_reducible apply ugZ); rfl) | ((with_reducible (first | apply len_B | apply len_PB | apply len_PQ | apply len_L | apply len_Bat | apply len_Qst | apply len_H)); assumption) | ((with_reducible refine stop_ig kC ?_ ?_); rfl))
 refine Stop.go (blk_box (cs := (noteV n up uo uv uh).cells) rfl fun h w1 hh hhge hb1 => ?_)
 have hh : Box w1 h n up uo uv uh := hh
 have hC1 := hCs.below hFs hb1 (Nat.le_refl _)
 have hF1 := hFs.below hb1
 have hnt := hV0.below hb1 (Nat.le_refl _)
 have hlt := Blk.lt hh
 go_wp2_with (first | ((with_reducible apply ugZ); rfl) | ((with_reducible (first | apply len_B | apply len_PB | apply len_PQ | apply len_L | apply len_Bat | apply len_Qst | apply len_H)); assumption) | ((with_reducible refine stop_ig kC ?_ ?_); rfl))
 refine Stop.go (load_N hh rfl ?_)
 go_wp2_with (first | ((with_reducible apply ugZ); rfl) | ((with_reducible (first | apply len_B | apply len_PB | apply len_PQ | apply len_L | apply len_Bat | apply len_Qst | apply len_H)); assumption) | ((with_reducible refine stop_ig kC ?_ ?_); rfl))
 refine (npack_any w1 _ n _ (hN.below hb1 (Nat.le_refl _)) (hB.below hb1 (Nat.le_refl _)) hnt).mono ?_
 rintro e w2 ⟨pv, rfl, hpv, hb2⟩
 have hC2 := hC1.below hF1 hb2 (Nat.le_refl _)
 have hF2 := hF1.below hb2
 have hh2 := hh.below hb2 hlt
 have hb2' := below_on hb1 hb2 hb1.size
 have s2 := hb2'.size
 have s12 := hb2.size
 clear hCs hFs hC1 hF1 hnt hh hb1 hb2 hV0
 by_cases hnr : nright n = true
 case neg =>
  have hnr : nright n = false := by simpa using hnr
  have e : code = 4 := by rw [HC.out, if_pos (.inl hnr)]
  subst e
  have e : c' = c := HP.out
  subst e
  have e : L = [] := HL.out
  subst e
  rw [hnr]
  clear HC HP HL hnr hpv
  simp only [Bool.false_eq_true, if_false]
  go_wp2_with (fail)
  go_ret2
  exact ⟨_, M, rfl, hC.below' hF hb2' (Nat.le_refl _), hF.below' hb2', fun _ h => .inl h, (Only.of_below hb2').mono fun k h1 h2 => by omega, Sl.nil _ _⟩
 rw [hnr] at hpv ⊢
 simp only [if_true] at hpv ⊢
 by_cases hk8 : n.kind = 8
 case neg =>
  have e : code = 4 := by rw [HC.out, if_pos (.inr hk8)]
  subst e
  have e : c' = c := HP.out
  subst e
  have e : L = [] := HL.out
  subst e
  have hkb : ((n.kind.toNat : Int) != 8) = true := by
   simp only [bne_iff_ne, ne_eq]
   intro e
   exact hk8 (UInt8.toNat_inj.1 (by show n.kind.toNat = 8; omega))
  clear HC HP HL hnr hpv hk8
  go_wp2_with (first | ((with_reducible apply ugZ); rfl) | ((with_reducible (first | apply len_B | apply len_PB | apply len_PQ | apply len_L | apply len_Bat | apply len_Qst | apply len_H)); assumption) | ((with_reducible refine stop_ig kC ?_ ?_); rfl))
  refine Stop.go (blk_load (cs := (noteV n up uo uv uh).cells) (.int .u8 (n.kind.toNat : Int)) oneU8 hh2 rfl rfl ?_)
  go_wp2_with (fail)
  go_ret2
  exact ⟨_, M, rfl, hC.below' hF hb2' (Nat.le_refl _), hF.below' hb2', fun _ h => .inl h, (Only.of_below hb2').mono fun k h1 h2 => by omega, Sl.nil _ _⟩
 have HC : Hid (code = if (c.Q.any fun x => x.note.query == n.query) = true then 7 else if 64 ≤ c.Q.length then 8 else 0) := Lib.hid (by rw [HC.out, if_neg]; exact fun h => h.elim (fun h => by rw [hnr] at h; cases h) fun h => h hk8)
 have hfl : (frame (encNote n)).length ≤ 5000 := by rw [frame_len]; have := encNote_len (nright_fair hnr); omega
 have hkb : ((n.kind.toNat : Int) != 8) = false := by rw [hk8]; decide
 clear hnr hk8
 go_wp2_with (first | ((with_reducible apply ugZ); rfl) | ((with_reducible (first | apply len_B | apply len_PB | apply len_PQ | apply len_L | apply len_Bat | apply len_Qst | apply len_H)); assumption) | ((with_reducible refine stop_ig kC ?_ ?_); rfl))
 refine Stop.go (blk_load (cs := (noteV n up uo uv uh).cells) (.int .u8 (n.kind.toNat : Int)) oneU8 hh2 rfl rfl ?_)
 obtain ⟨vb, vq, bs, qs, hg, hgb, hMg, hvb, hMvb, hvq, hMvq, hEb, hEq⟩ := hC2
 go_wp2_with (first | ((with_reducible apply ugZ); rfl) | ((with_reducible (first | apply len_B | apply len_PB | apply len_PQ | apply len_L | apply len_Bat | apply len_Qst | apply len_H)); assumption) | ((with_reducible refine stop_ig kC ?_ ?_); rfl))
 refine Stop.go (blk_load vq onePQs hg rfl rfl ?_)
 go_wp2_with (first | ((with_reducible apply ugZ); rfl) | ((with_reducible (first | apply len_B | apply len_PB | apply len_PQ | apply len_L | apply len_Bat | apply len_Qst | apply len_H)); assumption) | ((with_reducible refine stop_ig kC ?_ ?_); rfl))
 refine (contains_PQ w2 S1 M base qs c.Q vq h n up uo uv uh hvq hEq hh2).mono ?_
 rintro e w3 ⟨rfl, hb3⟩
 have hb3' := below_on hb2' hb3 hb2'.size
 have s3 := hb3'.size
 have s23 := hb3.size
 cases hany : (c.Q.any fun x => x.note.query == n.query)
 case true =>
  rw [hany] at HC
  have e : code = 7 := HC.out
  subst e
  have e : c' = c := HP.out
  subst e
  have e : L = [] := HL.out
  subst e
  clear HC HP HL hany
  go_wp2_with (fail)
  go_ret2
  exact ⟨_, M, rfl, hC.below' hF hb3' (Nat.le_refl _), hF.below' hb3', fun _ h => .inl h, (Only.of_below hb3').mono fun k h1 h2 => by omega, Sl.nil _ _⟩
 rw [hany] at HC
 have HC : Hid (code = if 64 ≤ c.Q.length then 8 else 0) := Lib.hid HC.out
 clear hany
 have hg3 := hg.below hb3 hg.lt
 have hh3 := hh2.below hb3 (Blk.lt hh2)
 have hvq3 := hvq.below hb3 (Nat.le_refl _)
 have hvs3 := hvq3.sl'
 have hbl := hEq.1
 go_wp2_with (first | ((with_reducible apply ugZ); rfl) | ((with_reducible (first | apply len_B | apply len_PB | apply len_PQ | apply len_L | apply len_Bat | apply len_Qst | apply len_H)); assumption) | ((with_reducible refine stop_ig kC ?_ ?_); rfl))
 refine Stop.go (blk_load vq onePQs hg3 rfl rfl ?_)
 by_cases h64 : 64 ≤ c.Q.length
 ·have e : code = 8 := by rw [HC.out, if_pos h64]
  subst e
  have e : c' = c := HP.out
  subst e
  have e : L = [] := HL.out
  subst e
  have h64' : (64 : Int) ≤ (qs.length : Int) := by omega
  clear HC HP HL hbl h64
  go_wp2_with (first | ((with_reducible apply ugZ); rfl) | ((with_reducible (first | apply len_B | apply len_PB | apply len_PQ | apply len_L | apply len_Bat | apply len_Qst | apply len_H)); assumption) | ((with_reducible refine stop_ig kC ?_ ?_); rfl))
  go_ret2
  exact ⟨_, M, rfl, hC.below' hF hb3' (Nat.le_refl _), hF.below' hb3', fun _ h => .inl h, (Only.of_below hb3').mono fun k h1 h2 => by omega, Sl.nil _ _⟩
 have e : code = 0 := by rw [HC.out, if_neg h64]
 subst e
 have e : c' = { c with Q := c.Q ++ [newW n] } := HP.out
 subst e
 have e : L = [letOf c.self n] := HL.out
 subst e
 have h64' : ¬ (64 : Int) ≤ (qs.length : Int) := by omega
 have HBL := Lib.hid hbl
 have hpv3 := hpv.below hb3 (Nat.le_refl _)
 have hplt3 := fun b hb => (hpv3.ge b hb).2
 have hEb3 := hEb.mono (T' := BatB w3 S1) (M' := M) (fun _ _ h => h) fun b x _ hm h => h.keep (hb3.block b (hF2 b hm).2.1) fun k hk hlt => ⟨hb3.block k hlt, hk⟩
 have hEq3 := hEq.mono (T' := QstB w3 S1) (M' := M) (fun _ _ h => h) fun b x _ hm h => h.keep (hb3.block b (hF2 b hm).2.1) fun k hk hlt => ⟨hb3.block k hlt, hk⟩
 have hvb3 := hvb.below hb3 (Nat.le_refl _)
 have hF3 := hF2.below hb3
 clear HC HP HL hbl h64 hg hh2 hvb hvq hEb hEq hb3 hpv hF2 hb2'
 go_wp2_with (first | ((with_reducible apply ugZ); rfl) | ((with_reducible (first | apply len_B | apply len_PB | apply len_PQ | apply len_L | apply len_Bat | apply len_Qst | apply len_H)); assumption) | ((with_reducible refine stop_ig kC ?_ ?_); rfl))
 refine Stop.go (blk_load (cs := (noteV n up uo uv uh).cells) (.int .u64 (n.query.toNat : Int)) oneU64 hh3 rfl rfl ?_)
 obtain ⟨pa, pn, pc, rfl⟩ := Own.shape hpv3
 go_wp2_with (first | ((with_reducible apply ugZ); rfl) | ((with_reducible (first | apply len_B | apply len_PB | apply len_PQ | apply len_L | apply len_Bat | apply len_Qst | apply len_H)); assumption) | ((with_reducible refine stop_ig kC ?_ ?_); rfl))
 refine Stop.go (blk_box (cs := #[.int .u64 (n.query.toNat : Int), .bool false, .int .i64 0, .int .u64 0, .slice none 0 0, .slice pa pn pc]) rfl fun nb w4 hnb hnbge hb4 => ?_)
 have hb4' := below_on hb3' hb4 hb3'.size
 have s34 := hb4.size
 have hg4 := hg3.below hb4 hg3.lt
 have hvb4 := hvb3.below hb4 (Nat.le_refl _)
 have hpv4 := hpv3.below hb4 (Nat.le_refl _)
 have hEb4 := hEb3.mono (T' := BatB w4 S1) (M' := M) (fun _ _ h => h) fun b x _ hm h => h.keep (hb4.block b (hF3 b hm).2.1) fun k hk hlt => ⟨hb4.block k hlt, hk⟩
 have hEq4 := hEq3.mono (T' := QstB w4 S1) (M' := M) (fun _ _ h => h) fun b x _ hm h => h.keep (hb4.block b (hF3 b hm).2.1) fun k hk hlt => ⟨hb4.block k hlt, hk⟩
 have hvq4 := hvq3.below hb4 (Nat.le_refl _)
 have hnbl := hnb.lt
 clear hg3 hvb3 hpv3 hEb3 hEq3 hvq3 hvs3 hh3 hb3' hb4
 go_wp2_with (first | ((with_reducible apply ugZ); rfl) | ((with_reducible (first | apply len_B | apply len_PB | apply len_PQ | apply len_L | apply len_Bat | apply len_Qst | apply len_H)); assumption) | ((with_reducible refine stop_ig kC ?_ ?_); rfl))
 refine Stop.go (blk_load vq onePQs hg4 rfl rfl ?_)
 go_wp2_with (first | ((with_reducible apply ugZ); rfl) | ((with_reducible (first | apply len_B | apply len_PB | apply len_PQ | apply len_L | apply len_Bat | apply len_Qst | apply len_H)); assumption) | ((with_reducible refine stop_ig kC ?_ ?_); rfl))
 refine Stop.go (wpList_build1 (α := Nat) (S := fun _ => False) rowPQ rfl [nb] [.pointer (some ⟨nb, 0, none⟩)] rfl rfl ⟨[.pointer (some ⟨nb, 0, none⟩)], [], rfl, rfl, rfl⟩ (by simp) fun u w5 k1 k2 k3 k4 => ?_)
 have hb5 := hb4'.grown0 k2 hb4'.size
 have hvq5 := hvq4.grown0 k2
 have hu5 := k1.sl'
 have s45 : w4.heap.size ≤ w5.heap.size := k2.size
 have b45 := below_of_grown (B := w4.heap.size) k2 (Nat.le_refl _) (by simp)
 have hbs : base ≤ w5.heap.size := by omega
 have hbn : qs.length + 1 ≤ 65 := by omega
 go_wp2_with (first | ((with_reducible apply ugZ); rfl) | ((with_reducible (first | apply len_B | apply len_PB | apply len_PQ | apply len_L | apply len_Bat | apply len_Qst | apply len_H)); assumption) | ((with_reducible refine stop_ig kC ?_ ?_); rfl))
 refine Stop.go (wpList_append (α := Nat) rowPQ rfl (by decide) hvq5 hu5 (fun _ _ h => rds_ptr h) (fun _ h => h.elim) (by simp only [maxLen, List.length_singleton]; omega) (by simp only [List.length_singleton]; omega) hbs fun vq' w6 g1 g2 g3 => ?_)
 have g2 : w5.grownBy w6 vq.ownBlock := g2
 have g3 : vq'.ownBlock = vq.ownBlock ∨ ∃ g, vq'.ownBlock = some g ∧ w5.heap.size ≤ g := g3
 have hvlt : ∀ k, vq.ownBlock = some k → base ≤ k ∧ k < w4.heap.size := fun k hk => hvq4.ge k hk
 obtain ⟨va, vn, vc, rfl⟩ := Own.shape g1
 have hgne := own_ne hvq4 hg4 (by decide)
 have hnbne := own_ne hvq4 hnb (by decide)
 have hg6 := (hg4.grown k2 (by simp)).grown g2 hgne
 have hnb6 := (hnb.grown k2 (by simp)).grown g2 hnbne
 have hgnb : nb ≠ g := blk_ne hnb hg4 (by decide)
 have hqne : ∀ k, vb.ownBlock = some k → vq.ownBlock ≠ some k := fun k hk => own_ne2 hvb4 hvq4 (by decide) hk
 have hqg := own_ne hvb4 hg4 (by decide)
 have o46 : Only (fun k => vq.ownBlock = some k) w4 w6 := ((Only.of_grown k2).mono (G := fun k => vq.ownBlock = some k) (fun k _ h => by cases h)).trans (Only.of_grown g2) (fun k _ h => h)
 have s46 := o46.size
 have hb4c : Only M w w4 := (Only.of_below hb4').mono fun k h1 h2 => by omega
 have HG3 := Lib.hid g3
 have HNE := Lib.hid (And.intro hgne hnbne)
 have HQ := Lib.hid hqne
 have HQG := Lib.hid hqg
 clear k1 k2 k3 hvq5 hu5 g2 hbs hnb hgne hnbne hb5 b45 g3 hqne hqg
 go_wp2_with (first | ((with_reducible apply ugZ); rfl) | ((with_reducible (first | apply len_B | apply len_PB | apply len_PQ | apply len_L | apply len_Bat | apply len_Qst | apply len_H)); assumption) | ((with_reducible refine stop_ig kC ?_ ?_); rfl))
 refine Stop.go (blk_store (.slice va vn vc) onePQs hg6 rfl rfl rfl rfl (by simp) fun w7 hg7 o67 s67 => ?_)
 have hg7 : Blk w7 g 149 #[.int .i64 c.self, vb, .slice va vn vc] := hg7
 have hnb7 := hnb6.only o67 hgnb
 have hvq7 := g1.only o67 (fun b hb e => by subst e; exact own_ne g1 hg6 (by decide) hb)
 have o47 : Only (fun k => vq.ownBlock = some k ∨ k = g) w4 w7 := (o46.mono fun k _ h => .inl h).trans o67 fun k _ h => .inr h
 clear hg6 hnb6 o67 g1 o46
 go_upto_region 12 with (fail)
 have hd := (Below.refl w7.heap.size w7).drew
 have hgd := hg7.below hd hg7.lt
 have hnbd := hnb7.below hd hnb7.lt
 have hpv7 : OwnB w7.drew w1.heap.size (frame (encNote n)) (.slice pa pn pc) := (hpv4.only o47 (fun b hb e => e.elim (fun e => own_ne2 hvq4 hpv4 (by decide) e hb) fun e => own_ne hpv4 hg4 (by decide) (e ▸ hb))).below hd (Nat.le_refl _)
 have hvq7d := hvq7.below hd (Nat.le_refl _)
 have o4d := o47.trans (Only.of_below hd) fun k hk h => by have := o47.size; omega
 clear hg7 hnb7 o47 hd hvq7
 refine wp_region_D (fun wq => Blk wq nb 163 #[.int .u64 (n.query.toNat : Int), .bool false, .int .i64 0, .int .u64 0, .slice none 0 0, .slice pa pn pc] ∧ Blk wq g 149 #[.int .i64 c.self, vb, .slice va vn vc]) 100 (fun _ => True) 12 rfl (by kernel_rfl) ?_
 generalize w7.drew = wd at *
 refine tkZ 0 55 (.pointer (some ⟨nb, 0, none⟩)) rfl rfl (.inl ⟨by rfl, fun _ _ => by kernel_rfl⟩) (⟨hnbd, hgd⟩) (.inr trivial) ?_
 simp only [Act.put, zqA, zqB, zqC]
 refine tkZ 1 56 (.pointer (some ⟨nb, 0, none⟩)) rfl rfl (.inl ⟨by rfl, fun _ _ => by kernel_rfl⟩) (⟨hnbd, hgd⟩) (.inr trivial) ?_
 simp only [Act.put, zqA, zqB, zqC]
 refine tkZ 2 57 (.pointer (some ⟨nb, 5, none⟩)) rfl rfl (.inl ⟨by rfl, fun _ _ => by go_simp⟩) (⟨hnbd, hgd⟩) (.inr trivial) ?_
 simp only [Act.put, zqA, zqB, zqC]
 refine tkZ 3 58 (.agg #[.slice pa pn pc]) rfl rfl (blk_yields_sub [.slice pa pn pc] Tryd.underlying153 rfl (by kernel_rfl) (by rfl) rfl rfl fun _ h => h.1) (⟨hnbd, hgd⟩) (.inr trivial) ?_
 simp only [Act.put, zqA, zqB, zqC]
 refine tkZ 4 59 (.pointer (some ⟨g, 0, none⟩)) rfl rfl (.inl ⟨by rfl, fun _ _ => by kernel_rfl⟩) (⟨hnbd, hgd⟩) (.inr trivial) ?_
 simp only [Act.put, zqA, zqB, zqC]
 refine tkZ 5 60 (.pointer (some ⟨g, 0, none⟩)) rfl rfl (.inl ⟨by rfl, fun _ _ => by kernel_rfl⟩) (⟨hnbd, hgd⟩) (.inr trivial) ?_
 simp only [Act.put, zqA, zqB, zqC]
 refine tkZ 6 61 (.pointer (some ⟨g, 0, none⟩)) rfl rfl (.inl ⟨by rfl, fun _ _ => by go_simp⟩) (⟨hnbd, hgd⟩) (.inr trivial) ?_
 simp only [Act.put, zqA, zqB, zqC]
 refine tkZ 7 62 (.int .i64 c.self) rfl rfl (blk_yields oneInt (by rfl) rfl rfl fun _ h => h.2) (⟨hnbd, hgd⟩) (.inr trivial) ?_
 simp only [Act.put, zqA, zqB, zqC]
 refine wpAnyD_step (i := 8) (by kernel_rfl) rfl fun K hK => ?_
 refine step_call (vs := #[.agg #[.slice pa pn pc], .int .i64 c.self]) (by rfl) (by go_simp) (by kernel_rfl) (letter_any wd _ _ _ c.self hpv7.sl' (by omega)) ?_
 rintro e w8 ⟨u8, rfl, hu8, hb8⟩
 have hnbd := hnbd.below hb8 hnbd.lt
 have hgd := hgd.below hb8 hgd.lt
 refine ⟨_, rfl, hK _ _ ⟨hnbd, hgd⟩ trivial ?_⟩
 clear hK K
 simp only [Act.put, zqA, zqB, zqC]
 refine wpAnyD_step (i := 9) (by kernel_rfl) rfl fun K hK => ?_
 refine step_lit1 (α := LetR) (S := fun k => wd.heap.size ≤ k) rowL rfl (by decide) (by decide) (letOf c.self n) rfl ⟨u8, rfl, hu8.sl'⟩ fun v9 w9 m1 m2 m3 m4 => ?_
 have hnbd := hnbd.grown m2 (by simp)
 have hgd := hgd.grown m2 (by simp)
 have hb9 := hb8.grown0 m2 hb8.size
 obtain ⟨ra, rn, rc, rfl⟩ := Own.shape m1
 refine hK _ _ ⟨hnbd, hgd⟩ trivial ?_
 clear hK K
 simp only [Act.put, zqA, zqB, zqC]
 refine tkZ 10 4 (.slice ra rn rc) rfl rfl (.inl ⟨by rfl, fun _ _ => by kernel_rfl⟩) (⟨hnbd, hgd⟩) (.inr trivial) ?_
 simp only [Act.put, zqA, zqB, zqC]
 refine tkZ 11 5 (.int .i64 0) rfl rfl (.inl ⟨by rfl, fun _ _ => by kernel_rfl⟩) (⟨hnbd, hgd⟩) (.inr trivial) ?_
 simp only [Act.put, zqA, zqB, zqC]
 refine wpAnyD_done (by kernel_rfl) ?_
 go_wp2_with (fail)
 go_ret2
 have s4d := o4d.size
 have s9 := hb9.size
 have o49 : Only (fun k => vq.ownBlock = some k ∨ k = g) w4 w9 := o4d.trans (Only.of_below hb9) (fun k hk h => by omega)
 have hS1 := HS1.out
 have hng := HNE.out.1
 have hnn := HNE.out.2
 have hq := HQ.out
 have hqg := HQG.out
 have MW : ∀ k, M k → base ≤ k ∧ k < w.heap.size ∧ ¬ S1 k := fun k h => ⟨(hF k h).1, (hF k h).2.1, fun e => (hF k h).2.2 ((hS1 k).1 e).1⟩
 have hv9 := hvq7d.below hb9 (Nat.le_refl _)
 have hvo : ∀ k, (Value.slice va vn vc).ownBlock = some k → M k ∨ w4.heap.size ≤ k := fun k hk => by
  rcases HG3.out with e | ⟨q, e, hq⟩
  ·exact .inl (hMvq k (e ▸ hk))
  ·rw [e] at hk; cases hk; exact .inr (by omega)
 obtain ⟨M', hM'⟩ : ∃ M' : Nat → Prop, ∀ k, M' k ↔ M k ∨ k = nb ∨ (Value.slice va vn vc).ownBlock = some k := ⟨_, fun _ => Iff.rfl⟩
 have hMM : ∀ k, M' k → M k ∨ w3.heap.size ≤ k := fun k hk => by
  rcases (hM' k).1 hk with h | rfl | h
  ·exact .inl h
  ·exact .inr hnbge
  ·rcases hvo k h with h | h
   ·exact .inl h
   ·exact .inr (by omega)
 have kS : ∀ k, S1 k → k < w4.heap.size → w9.heap[k]? = w4.heap[k]? ∧ Sx w S M' k := fun k hk hlt => by
  have h1 := (hS1 k).1 hk
  refine ⟨o49.block k hlt fun e => ?_, fun e => ?_, .inl h1.1⟩
  ·rcases e with e | rfl
   ·exact (MW k (hMvq k e)).2.2 hk
   ·exact (MW k hMg).2.2 hk
  ·rcases hMM k e with e | e
   ·exact (MW k e).2.2 hk
   ·omega
 have hpw : ∀ k, (Value.slice pa pn pc).ownBlock = some k → w1.heap.size ≤ k ∧ k < w3.heap.size := fun k hk => ⟨(hpv7.ge k hk).1, hplt3 k hk⟩
 have hpS : Sl w9 (Sx w S M') (frame (encNote n)) (.slice pa pn pc) := ((hpv7.below hb9 (Nat.le_refl _)).sl (fun _ h _ => h.elim) fun k hk => by
  have := hpw k hk
  refine ⟨fun e => ?_, .inr (by omega)⟩
  rcases (hM' k).1 e with e | rfl | e
  ·have := (MW k e).2.1; omega
  ·omega
  ·rcases hvo k e with e | e
   ·have := (MW k e).2.1; omega
   ·omega)
 refine ⟨_, M', rfl, ⟨vb, .slice va vn vc, bs, qs ++ [nb], hgd, hgb, (hM' g).2 (.inl hMg), ?_, fun k hk => (hM' k).2 (.inl (hMvb k hk)), hv9, fun k hk => (hM' k).2 (.inr (.inr hk)), ?_, ?_⟩, ?_, ?_, ?_, ?_⟩
 ·exact hvb4.only o49 fun k hk e => e.elim (fun e => hq k hk e) fun e => hqg (e ▸ hk)
 ·refine hEb4.mono (fun b _ hm => (hM' b).2 (.inl hm)) fun b x hb hm h => ?_
  obtain ⟨v, h1, _⟩ := id h
  exact h.keep (o49.block b h1.lt fun e => e.elim (fun e => own_ne hvq4 h1 (by decide) e) fun e => blk_ne h1 hg4 (by decide) e) kS
 ·refine (hEq4.mono (fun b _ hm => (hM' b).2 (.inl hm)) fun b x hb hm h => ?_).snoc ?_ ?_ ((hM' nb).2 (.inr (.inl rfl))) ⟨.slice none 0 0, .slice pa pn pc, hnbd, Sl.nil _ _, hpS⟩
  ·obtain ⟨_, v, h1, _⟩ := id h
   exact h.keep (o49.block b h1.lt fun e => e.elim (fun e => own_ne hvq4 h1 (by decide) e) fun e => blk_ne h1 hg4 (by decide) e) kS
  ·intro hb
   have := (MW nb (hEq4.2.2.1 nb hb).2).2.1
   omega
  ·omega
 ·intro k hk
  refine ⟨?_, ?_, fun e => e.1 hk⟩
  ·rcases hMM k hk with h | h
   ·exact (MW k h).1
   ·omega
  ·rcases (hM' k).1 hk with h | rfl | h
   ·have := (MW k h).2.1; omega
   ·omega
   ·exact (hv9.ge k h).2
 ·intro k hk
  rcases hMM k hk with h | h
  ·exact .inl h
  ·exact .inr (by omega)
 ·exact hb4c.trans o49 fun k _ h => h.elim (fun h => hMvq k h) fun h => h ▸ hMg
 ·refine m1.sl (fun k hk hlt => ⟨by omega, fun e => ?_⟩) fun k hk => ⟨by rw [m3] at hk; cases hk; omega, fun e => ?_⟩
  ·rcases (hM' k).1 e with e | rfl | e
   ·have := (MW k e).2.1; omega
   ·omega
   ·have := (hvq7d.ge k e).2; omega
  ·have hk8 : k = w8.heap.size := by rw [m3] at hk; exact (Option.some.inj hk).symm
   have s8 := hb8.size
   rcases (hM' k).1 e with e | rfl | e
   ·have := (MW k e).2.1; omega
   ·omega
   ·have := (hvq7d.ge k e).2; omega
end Go.Proofs.YtjkffjngamagkaaDoor
