/- SealAll: the walk. -/
import Derived.Test.YtiaiagkfkckkpaaDoorLaw01a
import Derived.Test.YtiaiagkfkckkpaaDoorSealMath
import Derived.Test.YtiaiagkfkckkpaaDoorTwo
import Derived.Test.YtiaiagkfkckkpaaDoorNew
namespace Go.Arm
open Go.RowKit

/-- &x[i] in whatever world, as an equation for the walk; an element of one cell. -/
theorem Sl.index_run1 {α : Type} [Rep α] {P : Program} {w : World} {t e : TypeId} {z : Value} {bytes : Nat} {S : Nat → Prop} {l : List α} {v : Value} (hx : Sl w S l v) (hr : Row P t e z 1 bytes) (h1 : Rep.sz α = 1)
    (k : IntKind) (n : Int) (h0 : 0 ≤ n) (hn : n < l.length) :
    ∃ b o y u, l[n.toNat]? = some y ∧ Rep.rd w S y [u] ∧ (∀ w', (Instr.indexAt t v (.int k n)).run P w' = .ok (.pointer (some ⟨b, o, none⟩)) w') ∧ w.cell? ⟨b, o, none⟩ = some u := by
  obtain ⟨ao, cap, cs, rfl, hcap, _, hnone, hcs, _, hloc⟩ := hx
  have he : P.elem t = e := by simp [Program.elem, hr.1]
  have hlt : n.toNat < l.length := by omega
  obtain ⟨y, hy⟩ : ∃ y, l[n.toNat]? = some y := ⟨_, List.getElem?_eq_getElem hlt⟩
  obtain ⟨c, hc1, hc2⟩ := rds_get n.toNat hcs hy
  have hlen := Rep.len hc1
  rw [h1] at hlen
  obtain ⟨u, rfl⟩ : ∃ u, c = [u] := by
    match c, hlen with
    | [u], _ => exact ⟨u, rfl⟩
  have hcu := hc2 0 u rfl
  rw [h1, Nat.mul_one, Nat.add_zero] at hcu
  cases ao with
  | none => have := hnone rfl; omega
  | some ad =>
    have hcell := hloc ad rfl n.toNat u hcu
    have hspot : ∃ b o, ad.add n.toNat = ⟨b, o, none⟩ := by
      generalize ad.add n.toNat = q at hcell
      obtain ⟨b, o, sp⟩ := q
      cases sp with
      | none => exact ⟨b, o, rfl⟩
      | some s =>
        exfalso
        unfold World.cell? at hcell
        split at hcell <;> simp at hcell
    obtain ⟨b, o, hq⟩ := hspot
    rw [hq] at hcell
    refine ⟨b, o, _, _, hy, hc1, fun w' => ?_, hcell⟩
    have hrun := run_indexAt_slice (P := P) w' t ad l.length cap k n (by rw [he]; exact hr.1)
    rw [if_pos ⟨h0, hn⟩, he, run_sizeOf_row hr] at hrun
    simp only [Result.andThen, Nat.mul_one, hq] at hrun
    exact hrun

theorem all_length : ∀ (k : Nat) (z : List UInt8), z.length ≤ k → (all z).1.length ≤ z.length ∧ (all z).2.length ≤ z.length
  | 0, z, h => by
    obtain rfl : z = [] := List.eq_nil_of_length_eq_zero (by omega)
    rw [all_bad [] (by decide)]; simp
  | k + 1, z, h => by
    by_cases hc : (next z).2.2 = 0
    · have hl := (next_len z hc).1
      have ih := all_length k (next z).2.1 (by omega)
      rw [all_good z hc]
      simp only [List.length_cons]
      omega
    · rw [all_bad z hc]; simp

theorem all_frames (m : List UInt8) : ∀ D : List (List UInt8), (∀ x ∈ D, x.length ≤ 4096) → all ((D.map frame).flatten ++ m) = (D ++ (all m).1, (all m).2)
  | [], _ => by simp
  | x :: D, h => by
    rw [List.map_cons, List.flatten_cons, List.append_assoc, all_frame x _ (h x (by simp)), all_frames m D fun y hy => h y (by simp [hy])]
    rfl
end Go.Arm
namespace Go.Proofs.YtiaiagkfkckkpaaDoor
open Go Go.RowKit Go.Arm

theorem Two.ownR {w : World} {B : Nat} {T : Nat → Prop} {l : List (List UInt8)} {m : List UInt8} {v x : Value} (h : Two w B T l m v x) : OwnBB w B l v :=
  h.one.keep (fun b hb hlt => ⟨rfl, hlt, h.t1 b hb⟩) fun _ _ => rfl

theorem sealAll_true (w : World) {L : List (List UInt8)} {bh : List UInt8} {p q : Value} (hN : Nib w) (hp : Sl w (· < w.heap.size) L p) (hq : Sl w (· < w.heap.size) bh q) :
    Calls Tryd.prog 8 #[p, q] w fun e w' => e = .returned (.bool true) ∧ Below w.heap.size w w' := by
  have hLm : L.length ≤ 9223372036854775807 := hp.length_le
  go_enter Tryd.func8, Tryd.ntmps8
  go_wp2_with (first | ((with_reducible apply wpList_unguard); rfl) | ((with_reducible apply len_B); assumption) | ((with_reducible apply len_BB); assumption)  | (with_reducible refine stop_builtin ?_) | (with_reducible refine stop_slice ?_) | (with_reducible refine stop_index_B ?_) | (with_reducible refine stop_index_BB ?_)  | (with_reducible refine stop_str_B ?_) | (with_reducible refine stop_mark_B ?_) | (with_reducible refine stop_buildSlice ?_))
  refine (awake_any w hN).mono ?_
  rintro e w1 ⟨rfl, hb1⟩
  have hN1 := hN.below hb1 (Nat.le_refl _)
  have hp1 := hp.below hb1 (Nat.le_refl _)
  have hq1 := hq.below hb1 (Nat.le_refl _)
  have hs1 := hb1.size
  go_wp2_with (first | ((with_reducible apply wpList_unguard); rfl) | ((with_reducible apply len_B); assumption) | ((with_reducible apply len_BB); assumption)  | (with_reducible refine stop_builtin ?_) | (with_reducible refine stop_slice ?_) | (with_reducible refine stop_index_B ?_) | (with_reducible refine stop_index_BB ?_)  | (with_reducible refine stop_str_B ?_) | (with_reducible refine stop_mark_B ?_) | (with_reducible refine stop_buildSlice ?_))
  go_loopg [5, 6, 7, 8, 9, 10, 21] (L.length + 1) (fun k x v u7 u8 u9 u10 i wr => ∃ (n : Nat) (T : Nat → Prop) (D : List (List UInt8)), k = L.length - n + 1 ∧ n ≤ L.length ∧ i = .int .i64 n ∧ Two wr w1.heap.size T D (D.map frame).flatten v x ∧ D.length ≤ n ∧ D.length ≤ 8 ∧ (∀ y ∈ D, y.length ≤ 300) ∧ (D.map frame).flatten.length ≤ D.length * 306 ∧ Below w1.heap.size w1 wr)
  case atStart => exact ⟨0, _, [], by omega, by omega, rfl, by simpa using Two.nil _ _, by simp, by simp, by simp, by simp, Below.refl _ _⟩
  case round =>
    obtain ⟨n, T, D, hk, hn, rfl, h2, hd1, hd2, hd3, hd4, hb⟩ := hrel
    have Hk := Lib.hid hk
    have Hd3 := Lib.hid hd3
    clear hk hd3
    have hs := hb.size
    have hpr := hp1.below hb (Nat.le_refl _)
    have hqr := hq1.below hb (Nat.le_refl _)
    have hNr := hN1.below hb (Nat.le_refl _)
    by_cases hgo : n < L.length ∧ n < 8
    · obtain ⟨hlt, h8⟩ := hgo
      have h8' : ¬ (8 : Int) ≤ (n : Int) := by omega
      go_wp2_with (first | ((with_reducible apply wpList_unguard); rfl) | ((with_reducible apply len_B); assumption) | ((with_reducible apply len_BB); assumption)  | (with_reducible refine stop_builtin ?_) | (with_reducible refine stop_slice ?_) | (with_reducible refine stop_index_B ?_) | (with_reducible refine stop_index_BB ?_)  | (with_reducible refine stop_str_B ?_) | (with_reducible refine stop_mark_B ?_) | (with_reducible refine stop_buildSlice ?_))
      refine Stop.go (idx_BB hpr rfl (by omega) (by omega) fun b o y u hy hu hcell => ?_)
      clear hy
      go_wp2_with (first | ((with_reducible apply wpList_unguard); rfl) | ((with_reducible apply len_B); assumption) | ((with_reducible apply len_BB); assumption)  | (with_reducible refine stop_builtin ?_) | (with_reducible refine stop_slice ?_) | (with_reducible refine stop_index_B ?_) | (with_reducible refine stop_index_BB ?_)  | (with_reducible refine stop_str_B ?_) | (with_reducible refine stop_mark_B ?_) | (with_reducible refine stop_buildSlice ?_))
      refine (cut_any wr _ y u 300 hu (by omega) (by omega)).mono ?_
      rintro e w2 ⟨c, rfl, hc, hb2⟩
      obtain ⟨z, hz⟩ : ∃ z, z = y.take (Int.toNat 300) := ⟨_, rfl⟩
      have hzl : z.length ≤ 300 := by rw [hz]; simp; omega
      rw [← hz] at hc
      clear hz hcell hu
      have hb2' := hb.trans (hb2.mono hs)
      have hs2 := hb2.size
      have h22 := h2.below hb2 (Nat.le_refl _)
      have hcs := hc.sl'
      go_wp2_with (first | ((with_reducible apply wpList_unguard); rfl) | ((with_reducible apply len_B); assumption) | ((with_reducible apply len_BB); assumption)  | (with_reducible refine stop_builtin ?_) | (with_reducible refine stop_slice ?_) | (with_reducible refine stop_index_B ?_) | (with_reducible refine stop_index_BB ?_)  | (with_reducible refine stop_str_B ?_) | (with_reducible refine stop_mark_B ?_) | (with_reducible refine stop_buildSlice ?_))
      refine (rframe_any w2 _ z c hcs (by omega)).mono ?_
      rintro e w3 ⟨f, rfl, hf, hb3⟩
      have hs3 := hb3.size
      have hb3' := hb2'.trans (hb3.mono (by omega))
      have h23 := h22.below hb3 (Nat.le_refl _)
      have hcs3 := hcs.below hb3 (Nat.le_refl _)
      have hfs := hf.sl'
      have hfl := frame_len z
      go_wp2_with (first | ((with_reducible apply wpList_unguard); rfl) | ((with_reducible apply len_B); assumption) | ((with_reducible apply len_BB); assumption)  | (with_reducible refine stop_builtin ?_) | (with_reducible refine stop_slice ?_) | (with_reducible refine stop_index_B ?_) | (with_reducible refine stop_index_BB ?_)  | (with_reducible refine stop_str_B ?_) | (with_reducible refine stop_mark_B ?_) | (with_reducible refine stop_buildSlice ?_))
      refine Stop.go (two_app_at (h23 : Two w3 _ _ _ _ u6 u5) hfs (by omega) (by omega) fun x2 w4 g1 g2 g3 g4 => ?_)
      have g4 : x2.ownBlock = u5.ownBlock ∨ ∃ g, x2.ownBlock = some g ∧ w3.heap.size ≤ g := g4
      have g2 : w3.grownBy w4 u5.ownBlock := g2
      have old5 : ∀ j, u5.ownBlock = some j → j < wr.heap.size := fun j hj => (h2.two.ge j hj).2
      have old6 : ∀ j, u6.ownBlock = some j → j < wr.heap.size := fun j hj => (h2.one.ge j hj).2
      have hc4 : Sl w4 (fun b => wr.heap.size ≤ b ∧ b < w3.heap.size) z c := (hcs3.wide (S' := fun b => wr.heap.size ≤ b ∧ b < w3.heap.size) fun b hb' hlt => ⟨hb', hlt⟩).grown g2 (fun b hb' e => by have := old5 b e; omega)
      have hb4 := hb3'.trans g3
      have hs4 := g2.size
      clear h2 h22 h23 hcs hcs3 hfs hf hc
      go_wp2_with (first | ((with_reducible apply wpList_unguard); rfl) | ((with_reducible apply len_B); assumption) | ((with_reducible apply len_BB); assumption)  | (with_reducible refine stop_builtin ?_) | (with_reducible refine stop_slice ?_) | (with_reducible refine stop_index_B ?_) | (with_reducible refine stop_index_BB ?_)  | (with_reducible refine stop_str_B ?_) | (with_reducible refine stop_mark_B ?_) | (with_reducible refine stop_buildSlice ?_))
      refine Stop.go (two_push (g1 : Two w4 _ _ _ _ u6 x2) (fun _ => rfl) (fun _ => rfl) hc4 ?_ (by omega) (by omega) fun e v2 w5 T' k1 k2 k3 => ?_)
      · intro b hb' _
        refine ⟨fun e => by have := old6 b e; omega, fun e => ?_⟩
        rcases g4 with g4 | ⟨g, g4, g5⟩
        · have := old5 b (g4.symm.trans e); omega
        · rw [g4] at e; cases e; omega
      have hb5 := hb4.trans k3
      go_wp2_with (first | ((with_reducible apply wpList_unguard); rfl) | ((with_reducible apply len_B); assumption) | ((with_reducible apply len_BB); assumption)  | (with_reducible refine stop_builtin ?_) | (with_reducible refine stop_slice ?_) | (with_reducible refine stop_index_B ?_) | (with_reducible refine stop_index_BB ?_)  | (with_reducible refine stop_str_B ?_) | (with_reducible refine stop_mark_B ?_) | (with_reducible refine stop_buildSlice ?_))
      go_roundg (L.length - (n + 1) + 1)
      case measure => have := Hk.out; omega
      case rel =>
        refine ⟨n + 1, T', D ++ [z], by omega, by omega, rfl, by simpa using k1, by simp; omega, by simp; omega, ?_, ?_, hb5⟩
        · intro y' hy'
          rcases List.mem_append.1 hy' with hy' | hy'
          · exact Hd3.out y' hy'
          · simp at hy'; rw [hy']; exact hzl
        · have e1 : ([z].map frame).flatten.length = (frame z).length := by simp
          have e2 : (D ++ [z]).length = D.length + 1 := by simp
          rw [List.map_append, List.flatten_append, List.length_append, e1, e2]
          omega
    · have hcase : ¬ n < L.length ∨ (n < L.length ∧ (8 : Int) ≤ n) := by omega
      have hx5 := h2.two.sl'
      have hD := fun m => all_frames m D (fun y hy => by have := Hd3.out y hy; omega)
      have HD := Lib.hid hD
      obtain ⟨F, hF⟩ : ∃ F, F = (D.map frame).flatten := ⟨_, rfl⟩
      rw [← hF] at hx5 h2 hd4 hD
      have HF := Lib.hid hF
      clear hD hF
      clear hgo
      rcases hcase with hlt | ⟨hlt, h8⟩
      case' inr =>
        go_wp2_with (first | ((with_reducible apply wpList_unguard); rfl) | ((with_reducible apply len_B); assumption) | ((with_reducible apply len_BB); assumption)  | (with_reducible refine stop_builtin ?_) | (with_reducible refine stop_slice ?_) | (with_reducible refine stop_index_B ?_) | (with_reducible refine stop_index_BB ?_)  | (with_reducible refine stop_str_B ?_) | (with_reducible refine stop_mark_B ?_) | (with_reducible refine stop_buildSlice ?_))
        refine Stop.go (idx_BB hpr rfl (by omega) (by omega) fun b o y u hy hu hcell => ?_)
        clear hy
        go_wp2_with (first | ((with_reducible apply wpList_unguard); rfl) | ((with_reducible apply len_B); assumption) | ((with_reducible apply len_BB); assumption)  | (with_reducible refine stop_builtin ?_) | (with_reducible refine stop_slice ?_) | (with_reducible refine stop_index_B ?_) | (with_reducible refine stop_index_BB ?_)  | (with_reducible refine stop_str_B ?_) | (with_reducible refine stop_mark_B ?_) | (with_reducible refine stop_buildSlice ?_))
        clear hu hcell
      case' inl =>
        go_wp2_with (first | ((with_reducible apply wpList_unguard); rfl) | ((with_reducible apply len_B); assumption) | ((with_reducible apply len_BB); assumption)  | (with_reducible refine stop_builtin ?_) | (with_reducible refine stop_slice ?_) | (with_reducible refine stop_index_B ?_) | (with_reducible refine stop_index_BB ?_)  | (with_reducible refine stop_str_B ?_) | (with_reducible refine stop_mark_B ?_) | (with_reducible refine stop_buildSlice ?_))
      all_goals
        refine (cut_any wr _ bh q 300 hqr (by omega) (by omega)).mono ?_
        rintro e w2 ⟨c, rfl, hc, hb2⟩
        obtain ⟨z, hz⟩ : ∃ z, z = bh.take (Int.toNat 300) := ⟨_, rfl⟩
        have hzl : z.length ≤ 300 := by rw [hz]; simp; omega
        rw [← hz] at hc
        clear hz
        have hb2' := hb.trans (hb2.mono hs)
        have hs2 := hb2.size
        have hcs := hc.sl'.old
        have h22 := h2.below hb2 (Nat.le_refl _)
        have hx2 := hx5.below hb2 (Nat.le_refl _)
        have hN2 := hNr.below hb2 (Nat.le_refl _)
        clear hpr hqr hNr hx5 h2 hc
        go_wp2_with (first | ((with_reducible apply wpList_unguard); rfl) | ((with_reducible apply len_B); assumption) | ((with_reducible apply len_BB); assumption)  | (with_reducible refine stop_builtin ?_) | (with_reducible refine stop_slice ?_) | (with_reducible refine stop_index_B ?_) | (with_reducible refine stop_index_BB ?_)  | (with_reducible refine stop_str_B ?_) | (with_reducible refine stop_mark_B ?_) | (with_reducible refine stop_buildSlice ?_))
        refine (copy_any w2 _ F u5 hx2 (by omega)).mono ?_
        rintro e w3 ⟨d, rfl, hd, hb3⟩
        have hb3' := hb2'.trans (hb3.mono (by omega))
        have hs3 := hb3.size
        have hcs3 := hcs.below hb3 (Nat.le_refl _)
        go_wp2_with (first | ((with_reducible apply wpList_unguard); rfl) | ((with_reducible apply len_B); assumption) | ((with_reducible apply len_BB); assumption)  | (with_reducible refine stop_builtin ?_) | (with_reducible refine stop_slice ?_) | (with_reducible refine stop_index_B ?_) | (with_reducible refine stop_index_BB ?_)  | (with_reducible refine stop_str_B ?_) | (with_reducible refine stop_mark_B ?_) | (with_reducible refine stop_buildSlice ?_))
        refine Stop.go (app_B hd hcs3 (by omega) (by omega) fun a w4 g1 g2 g3 => ?_)
        have g2 : w3.grownBy w4 d.ownBlock := g2
        have dold : ∀ j, d.ownBlock = some j → w2.heap.size ≤ j := fun j hj => (hd.ge j hj).1
        have hbx : Below w2.heap.size w3 w4 := (Below.refl w2.heap.size w3).grown g2 (by omega) dold
        have hb24 := hb3.trans hbx
        have hb4 := hb2'.trans (hb24.mono (by omega))
        have h24 := h22.below hb24 (Nat.le_refl _)
        have hN4 := hN2.below hb24 (Nat.le_refl _)
        have hcs4 := hcs.below hb24 (Nat.le_refl _)
        have hs4 := hb24.size
        have ha := g1.sl'
        have hal : all (F ++ z) = (D ++ (all z).1, (all z).2) := by rw [HF.out]; exact HD.out z
        have hml := all_length z.length z (Nat.le_refl _)
        have hFz : (F ++ z).length = F.length + z.length := by simp
        clear g1 g2 g3 h22 hcs hN2 hcs3 hd hbx hx2 dold
        go_wp2_with (first | ((with_reducible apply wpList_unguard); rfl) | ((with_reducible apply len_B); assumption) | ((with_reducible apply len_BB); assumption)  | (with_reducible refine stop_builtin ?_) | (with_reducible refine stop_slice ?_) | (with_reducible refine stop_index_B ?_) | (with_reducible refine stop_index_BB ?_)  | (with_reducible refine stop_str_B ?_) | (with_reducible refine stop_mark_B ?_) | (with_reducible refine stop_buildSlice ?_))
        refine (sall_new w4 _ (F ++ z) a hN4 ha (by omega)).mono ?_
        rintro e w5 ⟨v1, rfl, hv1, hb5⟩
        rw [hal] at hv1 ⊢
        rw [hFz]
        dsimp only at hv1 ⊢
        obtain ⟨M, hM⟩ : ∃ M, M = (all z).1 := ⟨_, rfl⟩
        obtain ⟨R, hR⟩ : ∃ R, R = (all z).2 := ⟨_, rfl⟩
        rw [← hM] at hv1 hml
        rw [← hR] at hml
        rw [← hR]
        obtain ⟨hml, hrl⟩ := hml
        have hs5 := hb5.size
        have hb5' := hb4.trans (hb5.mono (by omega))
        have h25 := h24.below hb5 (Nat.le_refl _)
        have hcs5 := hcs4.below hb5 (Nat.le_refl _)
        clear hal ha hcs4 hN4
        go_wp2_with (first | ((with_reducible apply wpList_unguard); rfl) | ((with_reducible apply len_B); assumption) | ((with_reducible apply len_BB); assumption)  | (with_reducible refine stop_builtin ?_) | (with_reducible refine stop_slice ?_) | (with_reducible refine stop_index_B ?_) | (with_reducible refine stop_index_BB ?_)  | (with_reducible refine stop_str_B ?_) | (with_reducible refine stop_mark_B ?_) | (with_reducible refine stop_buildSlice ?_))
        refine (rall_new w5 _ z c hcs5 (by omega)).mono ?_
        rintro e w6 ⟨v2, rfl, hv2, hb6⟩
        rw [← hM] at hv2
        rw [← hR]
        clear hM hR
        have hs6 := hb6.size
        have hb6' := hb5'.trans (hb6.mono (by omega))
        have h26 := h25.below hb6 (Nat.le_refl _)
        have hv16 := hv1.below hb6 (Nat.le_refl _)
        have u6old : ∀ j, u6.ownBlock = some j → j < w4.heap.size := fun j hj => (h24.one.ge j hj).2
        go_wp2_with (first | ((with_reducible apply wpList_unguard); rfl) | ((with_reducible apply len_B); assumption) | ((with_reducible apply len_BB); assumption)  | (with_reducible refine stop_builtin ?_) | (with_reducible refine stop_slice ?_) | (with_reducible refine stop_index_B ?_) | (with_reducible refine stop_index_BB ?_)  | (with_reducible refine stop_str_B ?_) | (with_reducible refine stop_mark_B ?_) | (with_reducible refine stop_buildSlice ?_))
        refine Stop.go (app_BB (h26.ownR : OwnBB w6 _ _ u6) hv2 (fun b hb' _ e => by have := u6old b e; omega) (by omega) (by omega) fun v3 w7 g1 g2 g3 => ?_)
        have g2 : w6.grownBy w7 u6.ownBlock := g2
        have hb7 := hb6'.grown g2 (by omega) (fun j hj => (h26.one.ge j hj).1)
        have hb7' := hb1.trans (hb7.mono hs1)
        have hv17 := hv16.grown g2 (fun b hb' e => by have := u6old b e; omega)
        have hv37 : Sl w7 (· < w7.heap.size) (D ++ M) v3 := g1.sl
        have hs7 := hb7'.size
        have hat : ((F.length : Int) + z.length - R.length != F.length + (z.length - R.length)) = false := by simp; omega
        obtain ⟨E, hE⟩ : ∃ E, E = D ++ M := ⟨_, rfl⟩
        have hEl : E.length ≤ 1000 := by rw [hE]; simp; omega
        rw [← hE] at hv17 hv37
        clear hE g1 g2 g3 hv1 hv2 hv16 h24 h25 h26 hcs5 HD HF Hd3 Hk u6old
        go_wp2_with (first | ((with_reducible apply wpList_unguard); rfl) | ((with_reducible apply len_B); assumption) | ((with_reducible apply len_BB); assumption)  | (with_reducible refine stop_builtin ?_) | (with_reducible refine stop_slice ?_) | (with_reducible refine stop_index_B ?_) | (with_reducible refine stop_index_BB ?_)  | (with_reducible refine stop_str_B ?_) | (with_reducible refine stop_mark_B ?_) | (with_reducible refine stop_buildSlice ?_))
        go_loopg [16, 77] (E.length + 1) (fun k u16 i wr => ∃ (j : Nat), k = E.length - j + 1 ∧ j ≤ E.length ∧ i = .int .i64 j ∧ Below w7.heap.size w7 wr)
        case atStart => exact ⟨0, by omega, by omega, rfl, Below.refl _ _⟩
        case round =>
          obtain ⟨j, hk, hj, rfl, hb8⟩ := hrel
          have Hk := Lib.hid hk
          clear hk
          by_cases hjl : j < E.length
          · have hv18 := hv17.below hb8 (Nat.le_refl _)
            have hv38 := hv37.below hb8 (Nat.le_refl _)
            obtain ⟨b1, o1, y1, x1, hy1, hr1, hx1, hc1⟩ := hv18.index_run1 (P := Tryd.prog) rowBB rfl .i64 j (by omega) (by omega)
            obtain ⟨b3, o3, y3, x3, hy3, hr3, hx3, hc3⟩ := hv38.index_run1 (P := Tryd.prog) rowBB rfl .i64 j (by omega) (by omega)
            obtain rfl : y3 = y1 := Option.some.inj (hy3.symm.trans hy1)
            obtain ⟨_, e1, hsl1⟩ := hr1
            obtain ⟨_, e3, hsl3⟩ := hr3
            simp only [List.cons.injEq, and_true] at e1 e3
            subst e1
            subst e3
            clear hy1 hy3
            go_wp2_with (first | ((with_reducible apply wpList_unguard); rfl) | ((with_reducible apply len_B); assumption) | ((with_reducible apply len_BB); assumption)  | (with_reducible refine stop_builtin ?_) | (with_reducible refine stop_slice ?_) | (with_reducible refine stop_index_B ?_) | (with_reducible refine stop_index_BB ?_)  | (with_reducible refine stop_str_B ?_) | (with_reducible refine stop_mark_B ?_) | (with_reducible refine stop_buildSlice ?_))
            go_quiet (first | (go_at_call 16; exact quiet_same (same_any _ _ _ y3 y3 x1 x3 (hsl1.drewN _) (hsl3.drewN _))))
            have hbq := hb8.trans (below_draws w7.heap.size _ nq)
            simp only [beq_self_eq_true]
            go_wp2_with (first | ((with_reducible apply wpList_unguard); rfl) | ((with_reducible apply len_B); assumption) | ((with_reducible apply len_BB); assumption)  | (with_reducible refine stop_builtin ?_) | (with_reducible refine stop_slice ?_) | (with_reducible refine stop_index_B ?_) | (with_reducible refine stop_index_BB ?_)  | (with_reducible refine stop_str_B ?_) | (with_reducible refine stop_mark_B ?_) | (with_reducible refine stop_buildSlice ?_))
            go_roundg (E.length - (j + 1) + 1)
            case measure => have := Hk.out; omega
            case rel => exact ⟨j + 1, by omega, by omega, rfl, hbq⟩
          · go_wp2_with (first | ((with_reducible apply wpList_unguard); rfl) | ((with_reducible apply len_B); assumption) | ((with_reducible apply len_BB); assumption)  | (with_reducible refine stop_builtin ?_) | (with_reducible refine stop_slice ?_) | (with_reducible refine stop_index_B ?_) | (with_reducible refine stop_index_BB ?_)  | (with_reducible refine stop_str_B ?_) | (with_reducible refine stop_mark_B ?_) | (with_reducible refine stop_buildSlice ?_))
            go_ret
            exact ⟨rfl, hb7'.trans (hb8.mono hs7)⟩
end Go.Proofs.YtiaiagkfkckkpaaDoor
