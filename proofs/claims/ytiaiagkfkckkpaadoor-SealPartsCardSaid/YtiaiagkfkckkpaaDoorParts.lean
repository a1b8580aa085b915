/- SealParts: the walk. -/
import Derived.Test.YtiaiagkfkckkpaaDoorLaw01a
import Derived.Test.YtiaiagkfkckkpaaDoorSealMath
import Derived.Test.YtiaiagkfkckkpaaDoorStep
namespace Go.Proofs.YtiaiagkfkckkpaaDoor
open Go Go.RowKit Go.Arm

theorem Own.form {α : Type} [Rep α] {w : World} {B : Nat} {e : TypeId} {S : Nat → Prop} {l : List α} {v : Value} (h : Own w B e S l v) : ∃ ao cap, v = .slice ao l.length cap := by
  obtain ⟨cs, _, ⟨rfl, h0, _⟩ | ⟨g, o, cap, cur, rfl, _⟩⟩ := h
  · exact ⟨none, 0, by rw [h0]⟩
  · exact ⟨_, cap, rfl⟩

theorem sealParts_true (w : World) {l ct : List UInt8} {p q : Value} (hN : Nib w) (hp : Sl w (· < w.heap.size) l p) (hq : Sl w (· < w.heap.size) ct q) :
    Calls Tryd.prog 4 #[p, q] w fun e w' => e = .returned (.bool true) ∧ Below w.heap.size w w' := by
  have hcm : ct.length ≤ 9223372036854775807 := hq.length_le
  go_enter Tryd.func4, Tryd.ntmps4
  go_wp2_with (first | ((with_reducible apply wpList_unguard); rfl) | ((with_reducible apply len_B); assumption) | ((with_reducible apply len_BB); assumption)  | (with_reducible refine stop_builtin ?_) | (with_reducible refine stop_slice ?_) | (with_reducible refine stop_index_B ?_) | (with_reducible refine stop_index_BB ?_)  | (with_reducible refine stop_str_B ?_) | (with_reducible refine stop_mark_B ?_) | (with_reducible refine stop_buildSlice ?_))
  refine (awake_any w hN).mono ?_
  rintro e w1 ⟨rfl, hb1⟩
  have hN1 := hN.below hb1 (Nat.le_refl _)
  have hp1 := hp.below hb1 (Nat.le_refl _)
  have hq1 := hq.below hb1 (Nat.le_refl _)
  have hs1 := hb1.size
  go_wp2_with (first | ((with_reducible apply wpList_unguard); rfl) | ((with_reducible apply len_B); assumption) | ((with_reducible apply len_BB); assumption)  | (with_reducible refine stop_builtin ?_) | (with_reducible refine stop_slice ?_) | (with_reducible refine stop_index_B ?_) | (with_reducible refine stop_index_BB ?_)  | (with_reducible refine stop_str_B ?_) | (with_reducible refine stop_mark_B ?_) | (with_reducible refine stop_buildSlice ?_))
  refine (cut_any w1 _ l p 800 hp1 (by omega) (by omega)).mono ?_
  rintro e w2 ⟨c, rfl, hc, hb2⟩
  obtain ⟨m, hm⟩ : ∃ m, m = l.take (Int.toNat 800) := ⟨_, rfl⟩
  have hml : m.length ≤ 800 := by rw [hm]; simp; omega
  rw [← hm] at hc
  have hb2' := hb1.trans (hb2.mono hs1)
  have hs2 := hb2'.size
  have hN2 := hN1.below hb2 (Nat.le_refl _)
  have hq2 := hq1.below hb2 (Nat.le_refl _)
  have hcs : Sl w2 (· < w2.heap.size) m c := hc.sl'.old
  clear hm hc hp1 hb2 hs1 hb1 hN1 hq1
  go_wp2_with (first | ((with_reducible apply wpList_unguard); rfl) | ((with_reducible apply len_B); assumption) | ((with_reducible apply len_BB); assumption)  | (with_reducible refine stop_builtin ?_) | (with_reducible refine stop_slice ?_) | (with_reducible refine stop_index_B ?_) | (with_reducible refine stop_index_BB ?_)  | (with_reducible refine stop_str_B ?_) | (with_reducible refine stop_mark_B ?_) | (with_reducible refine stop_buildSlice ?_))
  go_loopg [5, 6, 7, 8, 9, 21] (ct.length + 1) (fun k v r u7 u8 u9 i wr => ∃ (n : Nat) (done : List (List UInt8)) (rest : List UInt8), k = ct.length - n + 1 ∧ n ≤ ct.length ∧ i = .int .i64 n ∧ OwnBB wr w2.heap.size done v ∧ Sl wr (· < w2.heap.size) rest r ∧ done.flatten ++ rest = m ∧ done.length ≤ n ∧ done.length ≤ 8 ∧ Below w2.heap.size w2 wr)
  case atStart => exact ⟨0, [], m, by omega, by omega, rfl, OwnR.nil _ _ _, hcs, by simp, by simp, by simp, Below.refl _ _⟩
  case round =>
    obtain ⟨n, done, rest, hk, hn, rfl, hv, hr, he, hd1, hd2, hb⟩ := hrel
    have Hk := Lib.hid hk
    have He := Lib.hid he
    have hrl : rest.length ≤ 800 := by
      have := congrArg List.length he
      rw [List.length_append] at this
      omega
    clear hk he
    have hs := hb.size
    have hqr := hq2.below hb (Nat.le_refl _)
    by_cases hlt : n < ct.length
    · go_wp2_with (first | ((with_reducible apply wpList_unguard); rfl) | ((with_reducible apply len_B); assumption) | ((with_reducible apply len_BB); assumption)  | (with_reducible refine stop_builtin ?_) | (with_reducible refine stop_slice ?_) | (with_reducible refine stop_index_B ?_) | (with_reducible refine stop_index_BB ?_)  | (with_reducible refine stop_str_B ?_) | (with_reducible refine stop_mark_B ?_) | (with_reducible refine stop_buildSlice ?_))
      refine Stop.go (idx_B hqr rfl (by omega) (by omega) fun b o y hy hcell => ?_)
      clear hy
      have hyl := y.toNat_lt
      by_cases h8 : n < 8
      · go_wp2_with (first | ((with_reducible apply wpList_unguard); rfl) | ((with_reducible apply len_B); assumption) | ((with_reducible apply len_BB); assumption)  | (with_reducible refine stop_builtin ?_) | (with_reducible refine stop_slice ?_) | (with_reducible refine stop_index_B ?_) | (with_reducible refine stop_index_BB ?_)  | (with_reducible refine stop_str_B ?_) | (with_reducible refine stop_mark_B ?_) | (with_reducible refine stop_buildSlice ?_))
        refine Stop.go (min2 rfl rfl ?_)
        obtain ⟨k, hk', hkl⟩ : ∃ k : Nat, min ((y.toNat : Int) % 40) (rest.length : Int) = k ∧ k ≤ rest.length := ⟨(min ((y.toNat : Int) % 40) (rest.length : Int)).toNat, by omega, by omega⟩
        rw [hk']
        clear hk'
        go_wp2_with (first | ((with_reducible apply wpList_unguard); rfl) | ((with_reducible apply len_B); assumption) | ((with_reducible apply len_BB); assumption)  | (with_reducible refine stop_builtin ?_) | (with_reducible refine stop_slice ?_) | (with_reducible refine stop_index_B ?_) | (with_reducible refine stop_index_BB ?_)  | (with_reducible refine stop_str_B ?_) | (with_reducible refine stop_mark_B ?_) | (with_reducible refine stop_buildSlice ?_))
        obtain ⟨v1, hv1, hs1⟩ := hr.slice_run_h (P := Tryd.prog) rowB .i64 k (by omega) (by omega)
        obtain ⟨v2, hv2, hs2'⟩ := hr.slice_run_l (P := Tryd.prog) rowB .i64 k (by omega) (by omega)
        obtain ⟨R1, hR1⟩ : ∃ R1, R1 = rest.take (Int.toNat (k : Int)) := ⟨_, rfl⟩
        obtain ⟨R2, hR2⟩ : ∃ R2, R2 = rest.drop (Int.toNat (k : Int)) := ⟨_, rfl⟩
        have hR12 : R1 ++ R2 = rest := by rw [hR1, hR2]; exact List.take_append_drop _ _
        have hR1l : R1.length = k := by rw [hR1]; simp; omega
        rw [← hR1] at hs1
        rw [← hR2] at hs2'
        clear hR1 hR2
        have HR := Lib.hid hR12
        clear hR12
        have hwr : wr.heap.size = wr.drew.heap.size := rfl
        go_region_law (first
          | (go_simp; go_at_call_of 18 v1; refine (copy_any wr.drew _ _ v1 hs1.drew (by omega)).mono ?_; rintro e w3 ⟨u3, rfl, hu3, hb3⟩
             obtain ⟨o3, p3, rfl⟩ : ∃ ao cap, u3 = .slice ao k cap := by
               have := Own.form hu3
               rwa [hR1l] at this
             have hs3 : wr.heap.size ≤ w3.heap.size := hb3.size
             have hvA : OwnBB (w3.alloc (.cells #[.slice o3 k p3] 24)) w2.heap.size done u5 := OwnR.below (OwnR.below (OwnR.below hv ((Below.refl wr.heap.size wr).drew) (Nat.le_refl _)) hb3 (Nat.le_refl _)) ((Below.refl w3.heap.size w3).alloc (Nat.le_refl _) (.cells #[.slice o3 k p3] 24)) (Nat.le_refl _)
             have hbA := (Own.built w3 24 (fun b => wr.heap.size ≤ b) w3.heap.size (Nat.le_refl _) [R1] [_] (rds_cons hu3.sl' rds_nil) rfl (by simp only [maxLen]; simp)).sl (S' := fun b => wr.heap.size ≤ b) (fun _ h _ => h) (fun b hb => by cases hb; exact hs3)
             have hnA : ∀ b, wr.heap.size ≤ b → b < (w3.alloc (.cells #[.slice o3 k p3] 24)).heap.size → u5.ownBlock ≠ some b := fun b hb' _ e => by have := (hv.ge b e).2; omega)
          | (refine step_app_BB (l := done) (m := [R1]) (B := w2.heap.size) hvA hbA hnA (by simp; omega) (by simp; omega) fun v' w5 g1 g2 => ?_))
        have hbx : Below w2.heap.size wr w5 := ((((Below.refl w2.heap.size wr).drew).trans (hb3.mono hs)).alloc (by omega) _).grown g2 (by simp; omega) (fun j hj => (hv.ge j hj).1)
        have hbx2 := hb.trans hbx
        have hr2 : Sl w5 (· < w2.heap.size) R2 v2 := hs2'.keep fun b hb' _ => ⟨hbx.block b hb', hb'⟩
        clear g2 hvA hbA hnA hu3 hv1 hv2 hs1 hs2' hcell hbx
        go_wp2_with (first | ((with_reducible apply wpList_unguard); rfl) | ((with_reducible apply len_B); assumption) | ((with_reducible apply len_BB); assumption)  | (with_reducible refine stop_builtin ?_) | (with_reducible refine stop_slice ?_) | (with_reducible refine stop_index_B ?_) | (with_reducible refine stop_index_BB ?_)  | (with_reducible refine stop_str_B ?_) | (with_reducible refine stop_mark_B ?_) | (with_reducible refine stop_buildSlice ?_))
        go_roundg (ct.length - (n + 1) + 1)
        case measure => have := Hk.out; omega
        case rel =>
          refine ⟨n + 1, done ++ [R1], R2, by omega, by omega, rfl, g1, hr2, ?_, by simp; omega, by simp; omega, hbx2⟩
          rw [← He.out, ← HR.out]
          simp
      · go_wp2_with (first | ((with_reducible apply wpList_unguard); rfl) | ((with_reducible apply len_B); assumption) | ((with_reducible apply len_BB); assumption)  | (with_reducible refine stop_builtin ?_) | (with_reducible refine stop_slice ?_) | (with_reducible refine stop_index_B ?_) | (with_reducible refine stop_index_BB ?_)  | (with_reducible refine stop_str_B ?_) | (with_reducible refine stop_mark_B ?_) | (with_reducible refine stop_buildSlice ?_))
        go_roundg (ct.length - (n + 1) + 1)
        case measure => have := Hk.out; omega
        case rel => exact ⟨n + 1, done, rest, by omega, by omega, rfl, hv, hr, He.out, by omega, hd2, hb⟩
    · go_wp2_with (first | ((with_reducible apply wpList_unguard); rfl) | ((with_reducible apply len_B); assumption) | ((with_reducible apply len_BB); assumption)  | (with_reducible refine stop_builtin ?_) | (with_reducible refine stop_slice ?_) | (with_reducible refine stop_index_B ?_) | (with_reducible refine stop_index_BB ?_)  | (with_reducible refine stop_str_B ?_) | (with_reducible refine stop_mark_B ?_) | (with_reducible refine stop_buildSlice ?_))
      refine (copy_any wr _ rest u6 hr (by omega)).mono ?_
      rintro e w3 ⟨d, rfl, hd, hb3⟩
      have hb3' := hb.trans (hb3.mono hs)
      have hs3 := hb3.size
      have hv3 : OwnBB w3 w2.heap.size done u5 := OwnR.below hv hb3 (Nat.le_refl _)
      have hc3 := hcs.below hb3' (Nat.le_refl _)
      have hN3 := hN2.below hb3' (Nat.le_refl _)
      go_wp2_with (first | ((with_reducible apply wpList_unguard); rfl) | ((with_reducible apply len_B); assumption) | ((with_reducible apply len_BB); assumption)  | (with_reducible refine stop_builtin ?_) | (with_reducible refine stop_slice ?_) | (with_reducible refine stop_index_B ?_) | (with_reducible refine stop_index_BB ?_)  | (with_reducible refine stop_str_B ?_) | (with_reducible refine stop_mark_B ?_) | (with_reducible refine stop_buildSlice ?_))
      refine Stop.go (build_BB (S := fun b => wr.heap.size ≤ b) [rest, []] [d, .slice none 0 0] rfl rfl (rds_cons hd.sl' (rds_cons (Sl.nil _ _) rds_nil)) (by simp) fun e w4 k1 k2 k3 k4 => ?_)
      have hv4 : OwnBB w4 w2.heap.size done u5 := OwnR.grown0 hv3 k2
      have hb4 := hb3'.grown0 k2 (by omega)
      have hc4 := hc3.grown0 k2
      have hN4 := hN3.grown k2 (by simp)
      have he4 : Sl w4 (fun b => wr.heap.size ≤ b) [rest, []] e := k1.sl (fun _ h _ => h) fun b hb' => by have := (k1.ge b hb').1; omega
      go_wp2_with (first | ((with_reducible apply wpList_unguard); rfl) | ((with_reducible apply len_B); assumption) | ((with_reducible apply len_BB); assumption)  | (with_reducible refine stop_builtin ?_) | (with_reducible refine stop_slice ?_) | (with_reducible refine stop_index_B ?_) | (with_reducible refine stop_index_BB ?_)  | (with_reducible refine stop_str_B ?_) | (with_reducible refine stop_mark_B ?_) | (with_reducible refine stop_buildSlice ?_))
      refine Stop.go (app_BB hv4 he4 (fun b hb' _ e => by have := (hv.ge b e).2; omega) (by simp; omega) (by omega) fun v w5 g1 g2 g3 => ?_)
      have hold : ∀ j, u5.ownBlock = some j → w2.heap.size ≤ j := fun j hj => (hv.ge j hj).1
      have g2 : w4.grownBy w5 u5.ownBlock := g2
      have hb5 := hb4.grown g2 (by omega) hold
      have hc5 := hc4.grown g2 (fun b hb' e => by have := hold b e; omega)
      have hN5 := hN4.grown g2 (fun e => by have := hold _ e; have := hN2.lt; omega)
      have hvs : Sl w5 (· < w5.heap.size) (done ++ [rest, []]) v := g1.sl
      have hfl : (done ++ [rest, []]).flatten = m := by rw [← He.out]; simp
      have hll : (done ++ [rest, []]).length ≤ 10 := by simp; omega
      generalize done ++ [rest, []] = D at *
      have hb5' := hb2'.trans (hb5.mono hs2)
      have hs5 := hb5'.size
      have hs25 := hb5.size
      clear k1 k2 k3 k4 g1 g2 g3 he4 hv4 hv3 hd hb3 hb3' hc3 hc4 hN3 hN4 hb4 hold
      go_wp2_with (first | ((with_reducible apply wpList_unguard); rfl) | ((with_reducible apply len_B); assumption) | ((with_reducible apply len_BB); assumption)  | (with_reducible refine stop_builtin ?_) | (with_reducible refine stop_slice ?_) | (with_reducible refine stop_index_B ?_) | (with_reducible refine stop_index_BB ?_)  | (with_reducible refine stop_str_B ?_) | (with_reducible refine stop_mark_B ?_) | (with_reducible refine stop_buildSlice ?_))
      refine Stop.go (build_BB (S := fun b => b < w2.heap.size) [m] [c] rfl rfl (rds_cons hc5 rds_nil) (by simp) fun e w6 k1 k2 k3 k4 => ?_)
      have hb6 := hb5'.grown0 k2 hs5
      have hs6 := hb6.size
      have hc6 := hc5.grown0 k2
      have hN6 := hN5.grown k2 (by simp)
      have hv6 := hvs.grown0 k2
      have he6 : Sl w6 (· < w6.heap.size) [m] e := k1.sl (fun _ _ h => h) fun b hb' => (k1.ge b hb').2
      have hs56 : w5.heap.size ≤ w6.heap.size := by omega
      go_wp2_with (first | ((with_reducible apply wpList_unguard); rfl) | ((with_reducible apply len_B); assumption) | ((with_reducible apply len_BB); assumption)  | (with_reducible refine stop_builtin ?_) | (with_reducible refine stop_slice ?_) | (with_reducible refine stop_index_B ?_) | (with_reducible refine stop_index_BB ?_)  | (with_reducible refine stop_str_B ?_) | (with_reducible refine stop_mark_B ?_) | (with_reducible refine stop_buildSlice ?_))
      refine (sframe_any w6 _ [m] e hN6 he6 (by simp) (by simp; omega)).mono ?_
      rintro e w7 ⟨f, rfl, hf, hb7⟩
      rw [show [m].flatten = m by simp] at hf
      have hb7' := hb6.trans (hb7.mono hs6)
      have hs7 := hb7'.size
      have hc7 := hc6.below hb7 (Nat.le_refl _)
      have hN7 := hN6.below hb7 (Nat.le_refl _)
      have hv7 := hv6.below hb7 (Nat.le_refl _)
      go_wp2_with (first | ((with_reducible apply wpList_unguard); rfl) | ((with_reducible apply len_B); assumption) | ((with_reducible apply len_BB); assumption)  | (with_reducible refine stop_builtin ?_) | (with_reducible refine stop_slice ?_) | (with_reducible refine stop_index_B ?_) | (with_reducible refine stop_index_BB ?_)  | (with_reducible refine stop_str_B ?_) | (with_reducible refine stop_mark_B ?_) | (with_reducible refine stop_buildSlice ?_))
      refine (sframe_any w7 _ D v hN7 hv7 (by omega) (by rw [hfl]; omega)).mono ?_
      rintro e w8 ⟨f2, rfl, hf2, hb8⟩
      rw [hfl] at hf2
      have hb8' := hb7'.trans (hb8.mono hs7)
      have hs8 := hb8'.size
      have hc8 := hc7.below hb8 (Nat.le_refl _)
      have hN8 := hN7.below hb8 (Nat.le_refl _)
      have hv8 := hv7.below hb8 (Nat.le_refl _)
      have hf8 := hf.sl'.below hb8 (Nat.le_refl _)
      go_wp2_with (first | ((with_reducible apply wpList_unguard); rfl) | ((with_reducible apply len_B); assumption) | ((with_reducible apply len_BB); assumption)  | (with_reducible refine stop_builtin ?_) | (with_reducible refine stop_slice ?_) | (with_reducible refine stop_index_B ?_) | (with_reducible refine stop_index_BB ?_)  | (with_reducible refine stop_str_B ?_) | (with_reducible refine stop_mark_B ?_) | (with_reducible refine stop_buildSlice ?_))
      refine (ssum_any w8 _ D v hN8 hv8).mono ?_
      rintro e w9 ⟨rfl, rfl⟩
      rw [hfl]
      go_wp2_with (first | ((with_reducible apply wpList_unguard); rfl) | ((with_reducible apply len_B); assumption) | ((with_reducible apply len_BB); assumption)  | (with_reducible refine stop_builtin ?_) | (with_reducible refine stop_slice ?_) | (with_reducible refine stop_index_B ?_) | (with_reducible refine stop_index_BB ?_)  | (with_reducible refine stop_str_B ?_) | (with_reducible refine stop_mark_B ?_) | (with_reducible refine stop_buildSlice ?_))
      refine Stop.go (build_BB (S := fun b => b < w2.heap.size) [m] [c] rfl rfl (rds_cons hc8 rds_nil) (by simp) fun e w9 j1 j2 j3 j4 => ?_)
      have hb9 := hb8'.grown0 j2 hs8
      have hN9 := hN8.grown j2 (by simp)
      have hf9 := hf8.grown0 j2
      have hf29 := hf2.sl'.grown0 j2
      have he9 : Sl w9 (· < w9.heap.size) [m] e := j1.sl (fun b _ h => h) fun b hb' => (j1.ge b hb').2
      go_wp2_with (first | ((with_reducible apply wpList_unguard); rfl) | ((with_reducible apply len_B); assumption) | ((with_reducible apply len_BB); assumption)  | (with_reducible refine stop_builtin ?_) | (with_reducible refine stop_slice ?_) | (with_reducible refine stop_index_B ?_) | (with_reducible refine stop_index_BB ?_)  | (with_reducible refine stop_str_B ?_) | (with_reducible refine stop_mark_B ?_) | (with_reducible refine stop_buildSlice ?_))
      refine (ssum_any w9 _ [m] e hN9 he9).mono ?_
      rintro e w10 ⟨rfl, rfl⟩
      rw [show [m].flatten = m by simp]
      go_wp2_with (first | ((with_reducible apply wpList_unguard); rfl) | ((with_reducible apply len_B); assumption) | ((with_reducible apply len_BB); assumption)  | (with_reducible refine stop_builtin ?_) | (with_reducible refine stop_slice ?_) | (with_reducible refine stop_index_B ?_) | (with_reducible refine stop_index_BB ?_)  | (with_reducible refine stop_str_B ?_) | (with_reducible refine stop_mark_B ?_) | (with_reducible refine stop_buildSlice ?_))
      refine (same_any w9 _ _ _ _ f f2 hf9 hf29).mono ?_
      rintro e w10 ⟨rfl, rfl⟩
      rw [beq_self_eq_true]
      go_wp2_with (first | ((with_reducible apply wpList_unguard); rfl) | ((with_reducible apply len_B); assumption) | ((with_reducible apply len_BB); assumption)  | (with_reducible refine stop_builtin ?_) | (with_reducible refine stop_slice ?_) | (with_reducible refine stop_index_B ?_) | (with_reducible refine stop_index_BB ?_)  | (with_reducible refine stop_str_B ?_) | (with_reducible refine stop_mark_B ?_) | (with_reducible refine stop_buildSlice ?_))
      go_ret
      exact ⟨rfl, hb9⟩
end Go.Proofs.YtiaiagkfkckkpaaDoor
