/- package scroll: NewReader, Reader.Text. -/
import Derived.Test.YtfgagfemhmcdfaaReader2
import Derived.Test.YtfgagfemhmcdfaaCopy
namespace Go.Arm
def rtext (l : List UInt8) (e : Int) (most : Nat) : List UInt8 × List UInt8 × Int :=
  if e ≠ 0 then ([], l, e) else if (taken l most).2.2 ≠ 0 then ([], l, (taken l most).2.2)
  else if (taken l most).2.1.length < (taken l most).1 then ([], l, 2)
  else ((taken l most).2.1.take (taken l most).1, (taken l most).2.1.drop (taken l most).1, 0)
end Go.Arm
namespace Go.Proofs.Ytfgagfemhmcdfaa
open Go Go.RowKit Go.Arm

theorem new_any (w : World) (S : Nat → Prop) (l : List UInt8) (p : Value) (hp : Sl w S l p) (hl : l.length ≤ 16777216) :
    Calls Try.prog 19 #[p] w fun e w' => ∃ g, e = .returned (.pointer (some ⟨g, 0, none⟩)) ∧ w.heap.size ≤ g ∧ Rd w' g (fun k => w.heap.size ≤ k ∧ k ≠ g) l 0 ∧ Below w.heap.size w w' := by
  go_enter Try.func19, Try.ntmps19
  go_wp2_with (first | ((with_reducible apply wpList_unguard); rfl) | (with_reducible refine stop_make ?_) | ((with_reducible apply len_B); assumption) | ((with_reducible apply len_BB); assumption)  | ((with_reducible apply len_N); assumption) | ((with_reducible apply len_V); assumption) | ((with_reducible apply len_VV); assumption)  | (with_reducible refine stop_builtin ?_) | (with_reducible refine stop_slice ?_) | (with_reducible refine stop_index_B ?_) | (with_reducible refine stop_index_BB ?_)  | (with_reducible refine stop_index_N ?_) | (with_reducible refine stop_index_V ?_) | (with_reducible refine stop_index_VV ?_)  | (with_reducible refine stop_str_B ?_) | (with_reducible refine stop_mark_B ?_) | (with_reducible refine stop_buildSlice ?_))
  refine Stop.go (make_B rfl rfl (by omega) fun v w1 h1 h2 => ?_)
  have hb1 := below_of_grown h2 (Nat.le_refl _) (by simp)
  have hp1 := hp.grown0 h2
  obtain ⟨ao, nn, cap, rfl⟩ := Own.shape h1
  go_wp2_with (first | ((with_reducible apply wpList_unguard); rfl) | (with_reducible refine stop_make ?_) | ((with_reducible apply len_B); assumption) | ((with_reducible apply len_BB); assumption)  | ((with_reducible apply len_N); assumption) | ((with_reducible apply len_V); assumption) | ((with_reducible apply len_VV); assumption)  | (with_reducible refine stop_builtin ?_) | (with_reducible refine stop_slice ?_) | (with_reducible refine stop_index_B ?_) | (with_reducible refine stop_index_BB ?_)  | (with_reducible refine stop_index_N ?_) | (with_reducible refine stop_index_V ?_) | (with_reducible refine stop_index_VV ?_)  | (with_reducible refine stop_str_B ?_) | (with_reducible refine stop_mark_B ?_) | (with_reducible refine stop_buildSlice ?_))
  refine Stop.go (copy_B h1 hp1 (by simp) fun w2 h3 h4 => ?_)
  have h3' : OwnB w2 w.heap.size l (.slice ao nn cap) := h3
  have hb2 := hb1.grown h4 hb1.size (fun k hk => (h1.ge k hk).1)
  clear h3 h4 h1 h2
  go_wp2_with (first | ((with_reducible apply wpList_unguard); rfl) | (with_reducible refine stop_make ?_) | ((with_reducible apply len_B); assumption) | ((with_reducible apply len_BB); assumption)  | ((with_reducible apply len_N); assumption) | ((with_reducible apply len_V); assumption) | ((with_reducible apply len_VV); assumption)  | (with_reducible refine stop_builtin ?_) | (with_reducible refine stop_slice ?_) | (with_reducible refine stop_index_B ?_) | (with_reducible refine stop_index_BB ?_)  | (with_reducible refine stop_index_N ?_) | (with_reducible refine stop_index_V ?_) | (with_reducible refine stop_index_VV ?_)  | (with_reducible refine stop_str_B ?_) | (with_reducible refine stop_mark_B ?_) | (with_reducible refine stop_buildSlice ?_))
  go_ret
  have hal : Only (fun _ => False) w2 (w2.alloc (.cells #[.slice ao nn cap, .int .i64 0] 71)) :=
    (Only.of_below ((Below.refl w2.heap.size w2).alloc (Nat.le_refl _) _)).mono fun k hk h => by omega
  refine ⟨w2.heap.size, rfl, hb2.size, ⟨_, heap_alloc_new w2 _, ?_, fun h => h.2 rfl⟩, hb2.alloc hb2.size _⟩
  have h4 := h3'.only hal (fun _ _ h => h)
  refine h4.sl (fun _ h _ => h.elim) fun b hb => ?_
  have := h3'.ge b hb
  exact ⟨this.1, by omega⟩

theorem taken_len (l : List UInt8) (m : Nat) : (taken l m).2.1.length ≤ l.length := by
  unfold taken
  split
  · simp
  · split
    · simp
    · simp

set_option maxRecDepth 100000 in
theorem text_any (w : World) (g : Nat) (S : Nat → Prop) (l : List UInt8) (e0 : Int) (most : Int) (hr : Rd w g S l e0) (hm : most < 9223372036854775808) (hl : l.length ≤ 1000000000) :
    Calls Try.prog 23 #[.pointer (some ⟨g, 0, none⟩), .int .i64 most] w fun e w' => ∃ v, e = .returned v ∧ OwnB w' w.heap.size (rtext l e0 most.toNat).1 v ∧ Rd w' g S (rtext l e0 most.toNat).2.1 (rtext l e0 most.toNat).2.2 ∧ Only (· = g) w w' := by
  obtain ⟨R, hR⟩ : ∃ R, R = rtext l e0 most.toNat := ⟨_, rfl⟩
  rw [← hR]
  unfold rtext at hR
  have HR := Lib.hid hR
  clear hR
  by_cases h0 : e0 = 0
  · subst h0
    have hR := HR.out
    rw [if_neg (by decide)] at hR
    have hr' := hr
    obtain ⟨v, a1, a2, a3⟩ := hr'
    have c0 : w.cell? ⟨g, 0, none⟩ = some v := by simp [World.cell?, a1]
    clear a1 HR
    obtain ⟨T, hT⟩ : ∃ T, T = taken l most.toNat := ⟨_, rfl⟩
    rw [← hT] at hR
    have HR := Lib.hid hR
    clear hR
    go_enter Try.func23, Try.ntmps23
    go_wp2_with (first | ((with_reducible apply wpList_unguard); rfl) | (with_reducible refine stop_make ?_) | ((with_reducible apply len_B); assumption) | ((with_reducible apply len_BB); assumption)  | ((with_reducible apply len_N); assumption) | ((with_reducible apply len_V); assumption) | ((with_reducible apply len_VV); assumption)  | (with_reducible refine stop_builtin ?_) | (with_reducible refine stop_slice ?_) | (with_reducible refine stop_index_B ?_) | (with_reducible refine stop_index_BB ?_)  | (with_reducible refine stop_index_N ?_) | (with_reducible refine stop_index_V ?_) | (with_reducible refine stop_index_VV ?_)  | (with_reducible refine stop_str_B ?_) | (with_reducible refine stop_mark_B ?_) | (with_reducible refine stop_buildSlice ?_))
    refine (dead_any w g S l 0 hr).mono ?_
    rintro e w1 ⟨rfl, rfl⟩
    rw [show ((0 : Int) != 0) = false by decide]
    go_wp2_with (first | ((with_reducible apply wpList_unguard); rfl) | (with_reducible refine stop_make ?_) | ((with_reducible apply len_B); assumption) | ((with_reducible apply len_BB); assumption)  | ((with_reducible apply len_N); assumption) | ((with_reducible apply len_V); assumption) | ((with_reducible apply len_VV); assumption)  | (with_reducible refine stop_builtin ?_) | (with_reducible refine stop_slice ?_) | (with_reducible refine stop_index_B ?_) | (with_reducible refine stop_index_BB ?_)  | (with_reducible refine stop_index_N ?_) | (with_reducible refine stop_index_V ?_) | (with_reducible refine stop_index_VV ?_)  | (with_reducible refine stop_str_B ?_) | (with_reducible refine stop_mark_B ?_) | (with_reducible refine stop_buildSlice ?_))
    refine Stop.go (max0 rfl rfl ?_)
    obtain ⟨M, hM⟩ : ∃ M, M = most.toNat := ⟨_, rfl⟩
    have hMl : M < 9223372036854775808 := by omega
    rw [← hM] at hT ⊢
    have HM := Lib.hid hM
    clear hM
    go_wp2_with (first | ((with_reducible apply wpList_unguard); rfl) | (with_reducible refine stop_make ?_) | ((with_reducible apply len_B); assumption) | ((with_reducible apply len_BB); assumption)  | ((with_reducible apply len_N); assumption) | ((with_reducible apply len_V); assumption) | ((with_reducible apply len_VV); assumption)  | (with_reducible refine stop_builtin ?_) | (with_reducible refine stop_slice ?_) | (with_reducible refine stop_index_B ?_) | (with_reducible refine stop_index_BB ?_)  | (with_reducible refine stop_index_N ?_) | (with_reducible refine stop_index_V ?_) | (with_reducible refine stop_index_VV ?_)  | (with_reducible refine stop_str_B ?_) | (with_reducible refine stop_mark_B ?_) | (with_reducible refine stop_buildSlice ?_))
    refine (take_any w S l v M a2).mono ?_
    rintro e w1 ⟨u, nq, rfl, hu, rfl⟩
    rw [← hT] at hu ⊢
    have hTl : T.2.1.length ≤ l.length := by rw [hT]; exact taken_len l M
    have hu1 := hu.drewN nq
    have hr1 := hr.drewN nq
    have ho1 := Only.drewN (· = g) w nq
    clear hT hu hr c0 a2
    generalize w.drewN nq = w1 at *
    have hsz := ho1.size
    have HO1 := Lib.hid ho1
    clear ho1
    by_cases hE : T.2.2 = 0
    · by_cases hlt : T.2.1.length < T.1
      · go_wp2_with (first | ((with_reducible apply wpList_unguard); rfl) | (with_reducible refine stop_make ?_) | ((with_reducible apply len_B); assumption) | ((with_reducible apply len_BB); assumption)  | ((with_reducible apply len_N); assumption) | ((with_reducible apply len_V); assumption) | ((with_reducible apply len_VV); assumption)  | (with_reducible refine stop_builtin ?_) | (with_reducible refine stop_slice ?_) | (with_reducible refine stop_index_B ?_) | (with_reducible refine stop_index_BB ?_)  | (with_reducible refine stop_index_N ?_) | (with_reducible refine stop_index_V ?_) | (with_reducible refine stop_index_VV ?_)  | (with_reducible refine stop_str_B ?_) | (with_reducible refine stop_mark_B ?_) | (with_reducible refine stop_buildSlice ?_))
        refine (fail_any w1 g S l 0 2 hr1).mono ?_
        rintro e w2 ⟨⟨r, rfl⟩, h1, h2⟩
        rw [if_pos rfl] at h1
        go_wp2_with (first | ((with_reducible apply wpList_unguard); rfl) | (with_reducible refine stop_make ?_) | ((with_reducible apply len_B); assumption) | ((with_reducible apply len_BB); assumption)  | ((with_reducible apply len_N); assumption) | ((with_reducible apply len_V); assumption) | ((with_reducible apply len_VV); assumption)  | (with_reducible refine stop_builtin ?_) | (with_reducible refine stop_slice ?_) | (with_reducible refine stop_index_B ?_) | (with_reducible refine stop_index_BB ?_)  | (with_reducible refine stop_index_N ?_) | (with_reducible refine stop_index_V ?_) | (with_reducible refine stop_index_VV ?_)  | (with_reducible refine stop_str_B ?_) | (with_reducible refine stop_mark_B ?_) | (with_reducible refine stop_buildSlice ?_))
        go_ret
        have e := HR.out
        rw [if_neg (by simpa using hE), if_pos hlt] at e
        rw [e]
        exact ⟨_, rfl, Own.nil _ _ _ _, h1, HO1.out.trans h2 (fun _ _ h => h)⟩
      · go_wp2_with (first | ((with_reducible apply wpList_unguard); rfl) | (with_reducible refine stop_make ?_) | ((with_reducible apply len_B); assumption) | ((with_reducible apply len_BB); assumption)  | ((with_reducible apply len_N); assumption) | ((with_reducible apply len_V); assumption) | ((with_reducible apply len_VV); assumption)  | (with_reducible refine stop_builtin ?_) | (with_reducible refine stop_slice ?_) | (with_reducible refine stop_index_B ?_) | (with_reducible refine stop_index_BB ?_)  | (with_reducible refine stop_index_N ?_) | (with_reducible refine stop_index_V ?_) | (with_reducible refine stop_index_VV ?_)  | (with_reducible refine stop_str_B ?_) | (with_reducible refine stop_mark_B ?_) | (with_reducible refine stop_buildSlice ?_))
        refine Stop.go (slice_hm_B hu1 rfl rfl (by omega) fun t ht => ?_)
        go_wp2_with (first | ((with_reducible apply wpList_unguard); rfl) | (with_reducible refine stop_make ?_) | ((with_reducible apply len_B); assumption) | ((with_reducible apply len_BB); assumption)  | ((with_reducible apply len_N); assumption) | ((with_reducible apply len_V); assumption) | ((with_reducible apply len_VV); assumption)  | (with_reducible refine stop_builtin ?_) | (with_reducible refine stop_slice ?_) | (with_reducible refine stop_index_B ?_) | (with_reducible refine stop_index_BB ?_)  | (with_reducible refine stop_index_N ?_) | (with_reducible refine stop_index_V ?_) | (with_reducible refine stop_index_VV ?_)  | (with_reducible refine stop_str_B ?_) | (with_reducible refine stop_mark_B ?_) | (with_reducible refine stop_buildSlice ?_))
        refine (clone_any w1 S _ t ht (by rw [List.length_take]; omega)).mono ?_
        rintro e w2 ⟨t2, rfl, ht2, hb2⟩
        have hr2 := hr1.only (Only.of_below hb2) (by have := hr1.lt; omega) (fun b _ hlt => by omega)
        have hu2 := hu1.below hb2 (Nat.le_refl _)
        have hr2' := hr2
        obtain ⟨v2, b1, b2, b3⟩ := hr2'
        have c0 : w2.cell? ⟨g, 0, none⟩ = some v2 := by simp [World.cell?, b1]
        have f0 : w2.frozen? ⟨g, 0, none⟩ = false := by simp [World.frozen?, b1]
        have B1 := Lib.hid b1
        clear b1
        go_wp2_with (first | ((with_reducible apply wpList_unguard); rfl) | (with_reducible refine stop_make ?_) | ((with_reducible apply len_B); assumption) | ((with_reducible apply len_BB); assumption)  | ((with_reducible apply len_N); assumption) | ((with_reducible apply len_V); assumption) | ((with_reducible apply len_VV); assumption)  | (with_reducible refine stop_builtin ?_) | (with_reducible refine stop_slice ?_) | (with_reducible refine stop_index_B ?_) | (with_reducible refine stop_index_BB ?_)  | (with_reducible refine stop_index_N ?_) | (with_reducible refine stop_index_V ?_) | (with_reducible refine stop_index_VV ?_)  | (with_reducible refine stop_str_B ?_) | (with_reducible refine stop_mark_B ?_) | (with_reducible refine stop_buildSlice ?_))
        refine Stop.go (wpList_slice_l rowB hu2 rfl (by omega) (by omega) fun d hd => ?_)
        obtain ⟨ao, nn, cap, rfl⟩ := Sl.shape hd
        go_wp2_with (first | ((with_reducible apply wpList_unguard); rfl) | (with_reducible refine stop_make ?_) | ((with_reducible apply len_B); assumption) | ((with_reducible apply len_BB); assumption)  | ((with_reducible apply len_N); assumption) | ((with_reducible apply len_V); assumption) | ((with_reducible apply len_VV); assumption)  | (with_reducible refine stop_builtin ?_) | (with_reducible refine stop_slice ?_) | (with_reducible refine stop_index_B ?_) | (with_reducible refine stop_index_BB ?_)  | (with_reducible refine stop_index_N ?_) | (with_reducible refine stop_index_V ?_) | (with_reducible refine stop_index_VV ?_)  | (with_reducible refine stop_str_B ?_) | (with_reducible refine stop_mark_B ?_) | (with_reducible refine stop_buildSlice ?_))
        go_ret
        have e := HR.out
        rw [if_neg (by simpa using hE), if_neg hlt] at e
        rw [e]
        have hs := Only.of_set w2 ⟨g, 0, none⟩ (.slice ao nn cap)
        refine ⟨_, rfl, ?_, Rd.set_p B1.out hd b3, ?_⟩
        · refine Own.rebase (ht2.only hs (fun b hb (e : b = g) => ?_)) fun b hb => ?_
          · have := (ht2.ge b hb).1
            have := hr1.lt
            omega
          · have := (ht2.ge b hb).1
            omega
        · exact (HO1.out.trans (Only.of_below hb2) (fun k hk h => by omega)).trans hs (fun _ _ h => h)
    · have hne : (T.2.2 != 0) = true := by simpa using hE
      have heq : (T.2.2 == 0) = false := beq_eq_false_iff_ne.2 hE
      go_wp2_with (first | ((with_reducible apply wpList_unguard); rfl) | (with_reducible refine stop_make ?_) | ((with_reducible apply len_B); assumption) | ((with_reducible apply len_BB); assumption)  | ((with_reducible apply len_N); assumption) | ((with_reducible apply len_V); assumption) | ((with_reducible apply len_VV); assumption)  | (with_reducible refine stop_builtin ?_) | (with_reducible refine stop_slice ?_) | (with_reducible refine stop_index_B ?_) | (with_reducible refine stop_index_BB ?_)  | (with_reducible refine stop_index_N ?_) | (with_reducible refine stop_index_V ?_) | (with_reducible refine stop_index_VV ?_)  | (with_reducible refine stop_str_B ?_) | (with_reducible refine stop_mark_B ?_) | (with_reducible refine stop_buildSlice ?_))
      refine (fail_any w1 g S l 0 _ hr1).mono ?_
      rintro e w2 ⟨⟨r, rfl⟩, h1, h2⟩
      rw [if_pos rfl] at h1
      go_wp2_with (first | ((with_reducible apply wpList_unguard); rfl) | (with_reducible refine stop_make ?_) | ((with_reducible apply len_B); assumption) | ((with_reducible apply len_BB); assumption)  | ((with_reducible apply len_N); assumption) | ((with_reducible apply len_V); assumption) | ((with_reducible apply len_VV); assumption)  | (with_reducible refine stop_builtin ?_) | (with_reducible refine stop_slice ?_) | (with_reducible refine stop_index_B ?_) | (with_reducible refine stop_index_BB ?_)  | (with_reducible refine stop_index_N ?_) | (with_reducible refine stop_index_V ?_) | (with_reducible refine stop_index_VV ?_)  | (with_reducible refine stop_str_B ?_) | (with_reducible refine stop_mark_B ?_) | (with_reducible refine stop_buildSlice ?_))
      go_ret
      have e := HR.out
      rw [if_pos hE] at e
      rw [e]
      exact ⟨_, rfl, Own.nil _ _ _ _, h1, HO1.out.trans h2 (fun _ _ h => h)⟩
  · have hR := HR.out
    rw [if_pos h0] at hR
    have HR := Lib.hid hR
    clear hR
    go_enter Try.func23, Try.ntmps23
    go_wp2_with (first | ((with_reducible apply wpList_unguard); rfl) | (with_reducible refine stop_make ?_) | ((with_reducible apply len_B); assumption) | ((with_reducible apply len_BB); assumption)  | ((with_reducible apply len_N); assumption) | ((with_reducible apply len_V); assumption) | ((with_reducible apply len_VV); assumption)  | (with_reducible refine stop_builtin ?_) | (with_reducible refine stop_slice ?_) | (with_reducible refine stop_index_B ?_) | (with_reducible refine stop_index_BB ?_)  | (with_reducible refine stop_index_N ?_) | (with_reducible refine stop_index_V ?_) | (with_reducible refine stop_index_VV ?_)  | (with_reducible refine stop_str_B ?_) | (with_reducible refine stop_mark_B ?_) | (with_reducible refine stop_buildSlice ?_))
    refine (dead_any w g S l e0 hr).mono ?_
    rintro e w1 ⟨rfl, rfl⟩
    rw [show (e0 != 0) = true by simpa using h0]
    go_wp2_with (first | ((with_reducible apply wpList_unguard); rfl) | (with_reducible refine stop_make ?_) | ((with_reducible apply len_B); assumption) | ((with_reducible apply len_BB); assumption)  | ((with_reducible apply len_N); assumption) | ((with_reducible apply len_V); assumption) | ((with_reducible apply len_VV); assumption)  | (with_reducible refine stop_builtin ?_) | (with_reducible refine stop_slice ?_) | (with_reducible refine stop_index_B ?_) | (with_reducible refine stop_index_BB ?_)  | (with_reducible refine stop_index_N ?_) | (with_reducible refine stop_index_V ?_) | (with_reducible refine stop_index_VV ?_)  | (with_reducible refine stop_str_B ?_) | (with_reducible refine stop_mark_B ?_) | (with_reducible refine stop_buildSlice ?_))
    go_ret
    rw [HR.out]
    exact ⟨_, rfl, Own.nil _ _ _ _, hr, Only.refl _ _⟩
end Go.Proofs.Ytfgagfemhmcdfaa
