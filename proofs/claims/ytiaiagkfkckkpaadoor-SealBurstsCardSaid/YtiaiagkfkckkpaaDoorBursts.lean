/- SealBursts: the walk. -/
import Derived.Test.YtiaiagkfkckkpaaDoorLaw01a
import Derived.Test.YtiaiagkfkckkpaaDoorBurst
import Derived.Test.YtiaiagkfkckkpaaDoorStep
namespace Go.Proofs.YtiaiagkfkckkpaaDoor
open Go Go.RowKit Go.Arm

/-- x[:m] of a row of the call's own: it may still be lengthened. -/
theorem slice_own_B {ops : Array Oper} {Q : Exit → Act → World → Prop} {a : Act} {w : World} {rest : List Oper} {dst : Option Tmp} {ty : TypeId} {pos : String} {after : Array Edge} {x j : Operand} {B : Nat} {l : List UInt8}
    (hx : OwnB w B l (a.eval x)) (hne : 0 < l.length) {k' : IntKind} {m : Int} (hj : a.eval j = .int k' m) (hn : 0 ≤ m) (hm : m ≤ l.length)
    (h : ∀ v, OwnB w B (l.take m.toNat) v → v.ownBlock = (a.eval x).ownBlock → wpList Tryd.prog ops Q rest (a.put dst v) w) :
    wpList Tryd.prog ops Q (⟨dst, .slice 24 x none (some j) none, ty, pos, after, none⟩ :: rest) a w := by
  obtain ⟨g, o, cap, hv, hcap⟩ : ∃ g o cap, a.eval x = .slice (some ⟨g, o, none⟩) l.length cap ∧ l.length ≤ cap := by
    obtain ⟨cs, _, ⟨_, h0, _⟩ | ⟨g, o, cap, cur, hv, _, _, hc, _⟩⟩ := hx
    · omega
    · exact ⟨g, o, cap, hv, hc⟩
  rw [hv] at hx
  have htk := hx.take m.toNat (by omega)
  have he : Tryd.prog.elem 24 = 5 := by simp [Program.elem, rowB.1]
  have hrun := run_slice_h (P := Tryd.prog) w 24 (some ⟨g, o, none⟩) l.length cap (by rw [he]; exact rowB.1) k' m hn (by omega)
  rw [he, run_sizeOf_row rowB] at hrun
  refine wpList_plain rfl fun K hK => ?_
  have hsl : (Instr.sliceAt 24 (.slice (some ⟨g, o, none⟩) l.length cap) none (some (.int k' m)) none).run Tryd.prog w = _ := (run_sliceAt_slice (P := Tryd.prog) w 24 _ _ _ _ (by rw [he]; exact rowB.1)).trans hrun
  unfold Oper.wp
  simp [execOp, hj, hv, hsl, Result.andThen]
  refine hK _ _ ?_
  have e : sliced (some ⟨g, o, none⟩) 0 m.toNat cap 1 = .slice (some ⟨g, o, none⟩) m.toNat cap := by simp [sliced, Addr.add]
  rw [e]
  exact h _ htk (by rw [hv]; rfl)

theorem sealBursts_true (w : World) {l : List UInt8} {p : Value} {n n' : Nat} (hN : Nib w) (hp : Sl w (· < w.heap.size) l p) (hn : n < 65536) (hn' : n' < 4294967296) :
    Calls Tryd.prog 6 #[p, .int .u16 n, .int .u32 n'] w fun e w' => e = .returned (.bool true) ∧ Below w.heap.size w w' := by
  go_enter Tryd.func6, Tryd.ntmps6
  go_wp2_with (first | ((with_reducible apply wpList_unguard); rfl) | ((with_reducible apply len_B); assumption) | ((with_reducible apply len_BB); assumption)  | (with_reducible refine stop_builtin ?_) | (with_reducible refine stop_slice ?_) | (with_reducible refine stop_index_B ?_) | (with_reducible refine stop_index_BB ?_)  | (with_reducible refine stop_str_B ?_) | (with_reducible refine stop_mark_B ?_) | (with_reducible refine stop_buildSlice ?_))
  refine (awake_any w hN).mono ?_
  rintro e w1 ⟨rfl, hb1⟩
  have hN1 := hN.below hb1 (Nat.le_refl _)
  have hp1 := hp.below hb1 (Nat.le_refl _)
  have hs1 := hb1.size
  go_wp2_with (first | ((with_reducible apply wpList_unguard); rfl) | ((with_reducible apply len_B); assumption) | ((with_reducible apply len_BB); assumption)  | (with_reducible refine stop_builtin ?_) | (with_reducible refine stop_slice ?_) | (with_reducible refine stop_index_B ?_) | (with_reducible refine stop_index_BB ?_)  | (with_reducible refine stop_str_B ?_) | (with_reducible refine stop_mark_B ?_) | (with_reducible refine stop_buildSlice ?_))
  refine (cut_any w1 _ l p 600 hp1 (by omega) (by omega)).mono ?_
  rintro e w2 ⟨c, rfl, hc, hb2⟩
  obtain ⟨m, hm⟩ : ∃ m, m = l.take (Int.toNat 600) := ⟨_, rfl⟩
  have hml : m.length ≤ 600 := by rw [hm]; simp; omega
  rw [← hm] at hc
  have hb2' := hb1.trans (hb2.mono hs1)
  have hs2 := hb2'.size
  have hN2 := hN1.below hb2 (Nat.le_refl _)
  have hcs : Sl w2 (· < w2.heap.size) m c := hc.sl'.old
  clear hm hc hp1 hb2 hs1 hb1 hN1
  by_cases h0 : m = []
  · subst h0
    go_wp2_with (first | ((with_reducible apply wpList_unguard); rfl) | ((with_reducible apply len_B); assumption) | ((with_reducible apply len_BB); assumption)  | (with_reducible refine stop_builtin ?_) | (with_reducible refine stop_slice ?_) | (with_reducible refine stop_index_B ?_) | (with_reducible refine stop_index_BB ?_)  | (with_reducible refine stop_str_B ?_) | (with_reducible refine stop_mark_B ?_) | (with_reducible refine stop_buildSlice ?_))
    go_ret
    exact ⟨rfl, hb2'⟩
  · have hm0 : 0 < m.length := List.length_pos_iff.2 h0
    have hm0' : ¬ (m.length : Int) = 0 := by omega
    have hm8 : ¬ 8 * (m.length : Int) = 0 := by omega
    go_wp2_with (first | ((with_reducible apply wpList_unguard); rfl) | ((with_reducible apply len_B); assumption) | ((with_reducible apply len_BB); assumption)  | (with_reducible refine stop_builtin ?_) | (with_reducible refine stop_slice ?_) | (with_reducible refine stop_index_B ?_) | (with_reducible refine stop_index_BB ?_)  | (with_reducible refine stop_str_B ?_) | (with_reducible refine stop_mark_B ?_) | (with_reducible refine stop_buildSlice ?_))
    obtain ⟨k, hk, hkl⟩ : ∃ k : Nat, (n : Int) % (8 * (m.length : Int)) = k ∧ k < 8 * m.length := ⟨n % (8 * m.length), by simp, Nat.mod_lt _ (by omega)⟩
    have hor : bits .or .u32 (n' : Int) 1 = ((n' ||| 1 : Nat) : Int) := or32 n' 1 hn' (by decide)
    have hpl : n' ||| 1 < 4294967296 := Nat.or_lt_two_pow (n := 32) hn' (by decide)
    have hp0 : (n' ||| 1).testBit 0 = true := by simp
    rw [hk, hor]
    obtain ⟨pat, hpat⟩ : ∃ pat, pat = n' ||| 1 := ⟨_, rfl⟩
    rw [← hpat] at hpl hp0 ⊢
    clear hk hor hpat hn'
    refine (turn_any w2 _ m c k pat hcs (by omega) (by omega) hpl).mono ?_
    rintro e w3 ⟨q, rfl, hq, hb3⟩
    have hst := sum_turn m k pat hkl hp0
    have hot := opened_turn m k pat (by omega) hkl hp0
    have hql := turn_len m k pat
    obtain ⟨R, hR⟩ : ∃ R, R = turn m k pat := ⟨_, rfl⟩
    rw [← hR] at hst hot hql hq
    clear hR
    have hb3' := hb2'.trans (hb3.mono hs2)
    have hs3 := hb3'.size
    have hN3 := hN2.below hb3 (Nat.le_refl _)
    have hcs3 := hcs.below hb3 (Nat.le_refl _)
    have hqs := hq.sl'.old
    have hs23 := hb3.size
    clear hq hcs hN2 hb2'
    go_wp2_with (first | ((with_reducible apply wpList_unguard); rfl) | ((with_reducible apply len_B); assumption) | ((with_reducible apply len_BB); assumption)  | (with_reducible refine stop_builtin ?_) | (with_reducible refine stop_slice ?_) | (with_reducible refine stop_index_B ?_) | (with_reducible refine stop_index_BB ?_)  | (with_reducible refine stop_str_B ?_) | (with_reducible refine stop_mark_B ?_) | (with_reducible refine stop_buildSlice ?_))
    refine Stop.go (build_BB (S := fun b => b < w2.heap.size) [m] [c] rfl rfl (rds_cons hcs3 rds_nil) (by simp) fun e w4 k1 k2 k3 k4 => ?_)
    have hb4 := hb3'.grown0 k2 hs3
    have hc4 := hcs3.grown0 k2
    have hq4 := hqs.grown0 k2
    have hN4 := hN3.grown k2 (by simp)
    have he4 : Sl w4 (· < w4.heap.size) [m] e := k1.sl (fun _ _ h => h) fun b hb' => (k1.ge b hb').2
    go_wp2_with (first | ((with_reducible apply wpList_unguard); rfl) | ((with_reducible apply len_B); assumption) | ((with_reducible apply len_BB); assumption)  | (with_reducible refine stop_builtin ?_) | (with_reducible refine stop_slice ?_) | (with_reducible refine stop_index_B ?_) | (with_reducible refine stop_index_BB ?_)  | (with_reducible refine stop_str_B ?_) | (with_reducible refine stop_mark_B ?_) | (with_reducible refine stop_buildSlice ?_))
    refine (ssum_any w4 _ [m] e hN4 he4).mono ?_
    rintro e w5 ⟨rfl, rfl⟩
    rw [show [m].flatten = m by simp]
    have hs4 := hb4.size
    clear k1 k3 he4
    go_wp2_with (first | ((with_reducible apply wpList_unguard); rfl) | ((with_reducible apply len_B); assumption) | ((with_reducible apply len_BB); assumption)  | (with_reducible refine stop_builtin ?_) | (with_reducible refine stop_slice ?_) | (with_reducible refine stop_index_B ?_) | (with_reducible refine stop_index_BB ?_)  | (with_reducible refine stop_str_B ?_) | (with_reducible refine stop_mark_B ?_) | (with_reducible refine stop_buildSlice ?_))
    refine Stop.go (build_BB (S := fun b => b < w3.heap.size) [R] [q] rfl rfl (rds_cons hq4 rds_nil) (by simp) fun e w5 j1 j2 j3 j4 => ?_)
    have hb5 := hb4.grown0 j2 hs4
    have hc5 := hc4.grown0 j2
    have hq5 := hq4.grown0 j2
    have hN5 := hN4.grown j2 (by simp)
    have he5 : Sl w5 (· < w5.heap.size) [R] e := j1.sl (fun _ _ h => h) fun b hb' => (j1.ge b hb').2
    go_wp2_with (first | ((with_reducible apply wpList_unguard); rfl) | ((with_reducible apply len_B); assumption) | ((with_reducible apply len_BB); assumption)  | (with_reducible refine stop_builtin ?_) | (with_reducible refine stop_slice ?_) | (with_reducible refine stop_index_B ?_) | (with_reducible refine stop_index_BB ?_)  | (with_reducible refine stop_str_B ?_) | (with_reducible refine stop_mark_B ?_) | (with_reducible refine stop_buildSlice ?_))
    refine (ssum_any w5 _ [R] e hN5 he5).mono ?_
    rintro e w6 ⟨rfl, rfl⟩
    rw [show [R].flatten = R by simp]
    have hs5 := hb5.size
    have hne : (((sum m).toNat : Int) == ((sum R).toNat : Int)) = false := beq_eq_false_iff_ne.2 (fun e => hst (BitVec.eq_of_toNat_eq (by omega)))
    generalize (sum m).toNat = s1 at *
    generalize (sum R).toNat = s2 at *
    clear j1 j3 he5 hst
    go_wp2_with (first | ((with_reducible apply wpList_unguard); rfl) | ((with_reducible apply len_B); assumption) | ((with_reducible apply len_BB); assumption)  | (with_reducible refine stop_builtin ?_) | (with_reducible refine stop_slice ?_) | (with_reducible refine stop_index_B ?_) | (with_reducible refine stop_index_BB ?_)  | (with_reducible refine stop_str_B ?_) | (with_reducible refine stop_mark_B ?_) | (with_reducible refine stop_buildSlice ?_))
    refine Stop.go (build_BB (S := fun b => b < w2.heap.size) [m] [c] rfl rfl (rds_cons hc5 rds_nil) (by simp) fun e w6 i1 i2 i3 i4 => ?_)
    have hb6 := hb5.grown0 i2 hs5
    have hq6 := hq5.grown0 i2
    have hN6 := hN5.grown i2 (by simp)
    have he6 : Sl w6 (· < w6.heap.size) [m] e := i1.sl (fun _ _ h => h) fun b hb' => (i1.ge b hb').2
    have hs6 := hb6.size
    clear i1 i3
    go_wp2_with (first | ((with_reducible apply wpList_unguard); rfl) | ((with_reducible apply len_B); assumption) | ((with_reducible apply len_BB); assumption)  | (with_reducible refine stop_builtin ?_) | (with_reducible refine stop_slice ?_) | (with_reducible refine stop_index_B ?_) | (with_reducible refine stop_index_BB ?_)  | (with_reducible refine stop_str_B ?_) | (with_reducible refine stop_mark_B ?_) | (with_reducible refine stop_buildSlice ?_))
    refine (sframe_any w6 _ [m] e hN6 he6 (by simp) (by simp; omega)).mono ?_
    rintro e w7 ⟨f, rfl, hf, hb7⟩
    rw [show [m].flatten = m by simp] at hf
    have hfl := frame_len m
    obtain ⟨F, hF⟩ : ∃ F, F = frame m := ⟨_, rfl⟩
    rw [← hF] at hf hfl hot
    clear hF
    have hb7' := hb6.trans (hb7.mono hs6)
    have hN7 := hN6.below hb7 (Nat.le_refl _)
    have hq7 := hq6.below hb7 (by omega)
    have hs7 := hb7.size
    go_wp2_with (first | ((with_reducible apply wpList_unguard); rfl) | ((with_reducible apply len_B); assumption) | ((with_reducible apply len_BB); assumption)  | (with_reducible refine stop_builtin ?_) | (with_reducible refine stop_slice ?_) | (with_reducible refine stop_index_B ?_) | (with_reducible refine stop_index_BB ?_)  | (with_reducible refine stop_str_B ?_) | (with_reducible refine stop_mark_B ?_) | (with_reducible refine stop_buildSlice ?_))
    refine Stop.go (slice_own_B (hf : OwnB w7 _ _ f) (by omega) rfl (by omega) (by omega) fun v hv hvo => ?_)
    have hvo : v.ownBlock = f.ownBlock := hvo
    go_wp2_with (first | ((with_reducible apply wpList_unguard); rfl) | ((with_reducible apply len_B); assumption) | ((with_reducible apply len_BB); assumption)  | (with_reducible refine stop_builtin ?_) | (with_reducible refine stop_slice ?_) | (with_reducible refine stop_index_B ?_) | (with_reducible refine stop_index_BB ?_)  | (with_reducible refine stop_str_B ?_) | (with_reducible refine stop_mark_B ?_) | (with_reducible refine stop_buildSlice ?_))
    refine Stop.go (app_B hv hq7 (by simp; omega) (by omega) fun a w8 g1 g2 g3 => ?_)
    have g2 : w7.grownBy w8 v.ownBlock := g2
    have hvold : ∀ j, v.ownBlock = some j → w6.heap.size ≤ j := fun j hj => (hv.ge j hj).1
    have hb8 := hb7'.grown g2 (by omega) (fun j hj => by have := hvold j hj; omega)
    have hN8 := hN7.grown g2 (fun e => by have := hvold _ e; have := hN6.lt; omega)
    have ha := g1.sl'
    rw [show Int.toNat 6 = 6 from rfl] at ha
    go_wp2_with (first | ((with_reducible apply wpList_unguard); rfl) | ((with_reducible apply len_B); assumption) | ((with_reducible apply len_BB); assumption)  | (with_reducible refine stop_builtin ?_) | (with_reducible refine stop_slice ?_) | (with_reducible refine stop_index_B ?_) | (with_reducible refine stop_index_BB ?_)  | (with_reducible refine stop_str_B ?_) | (with_reducible refine stop_mark_B ?_) | (with_reducible refine stop_buildSlice ?_))
    refine (sopen_any w8 _ _ a hN8 ha (by simp; omega)).mono ?_
    rintro e w9 ⟨v9, rfl, _, hb9⟩
    rw [hot]
    have hb9' := hb8.trans (hb9.mono hb8.size)
    dsimp only
    go_wp2_with (first | ((with_reducible apply wpList_unguard); rfl) | ((with_reducible apply len_B); assumption) | ((with_reducible apply len_BB); assumption)  | (with_reducible refine stop_builtin ?_) | (with_reducible refine stop_slice ?_) | (with_reducible refine stop_index_B ?_) | (with_reducible refine stop_index_BB ?_)  | (with_reducible refine stop_str_B ?_) | (with_reducible refine stop_mark_B ?_) | (with_reducible refine stop_buildSlice ?_))
    go_ret
    exact ⟨rfl, hb9'⟩
end Go.Proofs.YtiaiagkfkckkpaaDoor
