/- package armillarylaw02: few. -/
import Derived.Test.YtfgagfemhmcdfaaPushV
import Derived.Test.YtfgagfemhmcdfaaRefBase
import Derived.Test.YtfgagfemhmcdfaaScFr
namespace Go.Proofs.Ytfgagfemhmcdfaa
open Go Go.RowKit Go.Arm

/-- An Item, as a value. -/
abbrev itemV (d : Nat) (vn vt vv : Value) (m : Int) : Value := .agg #[.int .u8 (d : Int), vn, vt, vv, .int .i64 m]

/-- Block b holds an Item. -/
def It (w : World) (b d : Nat) (vn vt vv : Value) (m : Int) : Prop := w.heap[b]? = some (.cells #[.int .u8 (d : Int), vn, vt, vv, .int .i64 m] 36 (0, 0))

theorem It.lt {w : World} {b d : Nat} {vn vt vv : Value} {m : Int} (h : It w b d vn vt vv m) : b < w.heap.size := (Array.getElem?_eq_some_iff.1 h).1
theorem It.only {w w' : World} {b d : Nat} {vn vt vv : Value} {m : Int} {F : Nat → Prop} (h : It w b d vn vt vv m) (ho : Only F w w') (hb : ¬ F b) : It w' b d vn vt vv m := (ho.block b h.lt hb).trans h
theorem It.cells {w : World} {b d : Nat} {vn vt vv : Value} {m : Int} (h : It w b d vn vt vv m) :
    w.cell? ⟨b, 0, none⟩ = some (.int .u8 (d : Int)) ∧ w.cell? ⟨b, 1, none⟩ = some vn ∧ w.cell? ⟨b, 2, none⟩ = some vt ∧ w.cell? ⟨b, 3, none⟩ = some vv ∧ w.cell? ⟨b, 4, none⟩ = some (.int .i64 m) := by
  unfold It at h
  simp [World.cell?, h]
theorem It.frozen {w : World} {b d : Nat} {vn vt vv : Value} {m : Int} (h : It w b d vn vt vv m) :
    w.frozen? ⟨b, 1, none⟩ = false ∧ w.frozen? ⟨b, 2, none⟩ = false ∧ w.frozen? ⟨b, 3, none⟩ = false := by
  unfold It at h
  simp [World.frozen?, h]
theorem It.frozen5 {w : World} {b d : Nat} {vn vt vv : Value} {m : Int} (h : It w b d vn vt vv m) :
    w.frozen? ⟨b, 0, none⟩ = false ∧ w.frozen? ⟨b, 1, none⟩ = false ∧ w.frozen? ⟨b, 2, none⟩ = false ∧ w.frozen? ⟨b, 3, none⟩ = false ∧ w.frozen? ⟨b, 4, none⟩ = false := by
  unfold It at h
  simp [World.frozen?, h]
theorem It.set0 {w : World} {b d d' : Nat} {vn vt vv : Value} {m : Int} (h : It w b d vn vt vv m) : It (w.setCell ⟨b, 0, none⟩ (.int .u8 (d' : Int))) b d' vn vt vv m := by
  unfold It at h ⊢
  simp [World.setCell, Array.getElem?_modify, h]
theorem It.set4 {w : World} {b d : Nat} {vn vt vv : Value} {m m' : Int} (h : It w b d vn vt vv m) : It (w.setCell ⟨b, 4, none⟩ (.int .i64 m')) b d vn vt vv m' := by
  unfold It at h ⊢
  simp [World.setCell, Array.getElem?_modify, h]
theorem It.set1 {w : World} {b d : Nat} {vn vt vv v : Value} {m : Int} (h : It w b d vn vt vv m) : It (w.setCell ⟨b, 1, none⟩ v) b d v vt vv m := by
  unfold It at h ⊢
  simp [World.setCell, Array.getElem?_modify, h]
theorem It.set2 {w : World} {b d : Nat} {vn vt vv v : Value} {m : Int} (h : It w b d vn vt vv m) : It (w.setCell ⟨b, 2, none⟩ v) b d vn v vv m := by
  unfold It at h ⊢
  simp [World.setCell, Array.getElem?_modify, h]
theorem It.set3 {w : World} {b d : Nat} {vn vt vv v : Value} {m : Int} (h : It w b d vn vt vv m) : It (w.setCell ⟨b, 3, none⟩ v) b d vn vt v m := by
  unfold It at h ⊢
  simp [World.setCell, Array.getElem?_modify, h]

theorem halloc_size (w : World) (o : Obj) : (w.alloc o).heap.size = w.heap.size + 1 := by
  show (w.heap.push o).size = _
  simp

theorem few_any (w : World) {S1 S2 S3 : Nat → Prop} {ns : List UInt64} {ts : List (List UInt8)} {vs : List (List Int32)} {vn vt vv : Value} (d : Nat) (m : Int) (hn : Sl w S1 ns vn) (ht : Sl w S2 ts vt) (hv : Sl w S3 vs vv) :
    Calls Try.prog 13 #[itemV d vn vt vv m] w fun e w' => ∃ vn' vt' vv', e = .returned (itemV d vn' vt' vv' m) ∧ Sl w' (fun b => w.heap.size ≤ b ∧ b < w'.heap.size) (ns.take 5) vn' ∧ Sl w' (fun b => w.heap.size ≤ b ∧ b < w'.heap.size) ((ts.take 4).map fun t => t.take 40) vt' ∧ Sl w' (fun b => w.heap.size ≤ b ∧ b < w'.heap.size) ((vs.take 4).map fun v => v.take 12) vv' ∧ Below w.heap.size w w' := by
  have hn0 := hn.old
  have ht0 := ht.old
  have hv0 := hv.old
  clear hn ht hv
  obtain ⟨an, nn, cn, rfl⟩ := Sl.shape hn0
  obtain ⟨at', nt, ct, rfl⟩ := Sl.shape ht0
  obtain ⟨av, nv, cv, rfl⟩ := Sl.shape hv0
  go_enter Try.func13, Try.ntmps13
  go_wp2_with (first | ((with_reducible apply wpList_unguard); rfl) | (with_reducible refine stop_make ?_) | ((with_reducible apply len_B); assumption) | ((with_reducible apply len_BB); assumption)  | ((with_reducible apply len_N); assumption) | ((with_reducible apply len_V); assumption) | ((with_reducible apply len_VV); assumption)  | (with_reducible refine stop_builtin ?_) | (with_reducible refine stop_slice ?_) | (with_reducible refine stop_index_B ?_) | (with_reducible refine stop_index_BB ?_)  | (with_reducible refine stop_index_N ?_) | (with_reducible refine stop_index_V ?_) | (with_reducible refine stop_index_VV ?_)  | (with_reducible refine stop_str_B ?_) | (with_reducible refine stop_mark_B ?_) | (with_reducible refine stop_buildSlice ?_))
  obtain ⟨w1, hw1⟩ : ∃ w1, w1 = (w.alloc (.cells #[.int .u8 (d : Int), .slice an nn cn, .slice at' nt ct, .slice av nv cv, .int .i64 m] 36)).alloc (.cells #[.int .u8 0, .slice none 0 0, .slice none 0 0, .slice none 0 0, .int .i64 0] 36) := ⟨_, rfl⟩
  have hb1 : Below w.heap.size w w1 := by
    rw [hw1]
    exact ((Below.refl w.heap.size w).alloc (Nat.le_refl _) _).alloc (by rw [halloc_size]; omega) _
  have hs1 : w1.heap.size = w.heap.size + 2 := by rw [hw1, halloc_size, halloc_size]
  have hI1 : It w1 w.heap.size d (.slice an nn cn) (.slice at' nt ct) (.slice av nv cv) m := by
    rw [hw1]
    unfold It
    rw [heap_alloc_old _ _ (by rw [halloc_size]; omega)]
    exact heap_alloc_new w _
  have hZ1 : It w1 (w.heap.size + 1) 0 (.slice none 0 0) (.slice none 0 0) (.slice none 0 0) 0 := by
    rw [hw1]
    have := heap_alloc_new (w.alloc (.cells #[.int .u8 (d : Int), .slice an nn cn, .slice at' nt ct, .slice av nv cv, .int .i64 m] 36)) (.cells #[.int .u8 0, .slice none 0 0, .slice none 0 0, .slice none 0 0, .int .i64 0] 36)
    rw [halloc_size] at this
    exact this
  rw [← hw1]
  clear hw1
  have hn1 := hn0.below hb1 (Nat.le_refl _)
  have ht1 := ht0.below hb1 (Nat.le_refl _)
  have hv1 := hv0.below hb1 (Nat.le_refl _)
  obtain ⟨b, hb⟩ : ∃ b, b = w.heap.size := ⟨_, rfl⟩
  rw [← hb] at hI1 hZ1 ⊢
  have Hb := Lib.hid hb
  clear hb hn0 ht0 hv0
  refine Stop.go (build_N (S := fun _ => False) ([] : List UInt64) [] rfl rfl rds_N (by simp) fun q2 w2 k1 k2 k3 k4 => ?_)
  have hb2 := hb1.grown k2 hb1.size (by simp)
  have hI2 := hI1.only (Only.of_grown k2) (by simp)
  have hZ2 := hZ1.only (Only.of_grown k2) (by simp)
  have hn2 := hn1.grown0 k2
  have ht2 := ht1.grown0 k2
  have hv2 := hv1.grown0 k2
  clear k2 hb1 hI1 hZ1 hn1 ht1 hv1
  obtain ⟨c0, c1, c2, c3, c4⟩ := hI2.cells
  have hnl : ns.length ≤ 9223372036854775807 := hn2.length_le
  have htl : ts.length ≤ 9223372036854775807 := ht2.length_le
  have hvl : vs.length ≤ 9223372036854775807 := hv2.length_le
  go_wp2_with (first | ((with_reducible apply wpList_unguard); rfl) | (with_reducible refine stop_make ?_) | ((with_reducible apply len_B); assumption) | ((with_reducible apply len_BB); assumption)  | ((with_reducible apply len_N); assumption) | ((with_reducible apply len_V); assumption) | ((with_reducible apply len_VV); assumption)  | (with_reducible refine stop_builtin ?_) | (with_reducible refine stop_slice ?_) | (with_reducible refine stop_index_B ?_) | (with_reducible refine stop_index_BB ?_)  | (with_reducible refine stop_index_N ?_) | (with_reducible refine stop_index_V ?_) | (with_reducible refine stop_index_VV ?_)  | (with_reducible refine stop_str_B ?_) | (with_reducible refine stop_mark_B ?_) | (with_reducible refine stop_buildSlice ?_))
  refine Stop.go (min2 rfl rfl ?_)
  go_wp2_with (first | ((with_reducible apply wpList_unguard); rfl) | (with_reducible refine stop_make ?_) | ((with_reducible apply len_B); assumption) | ((with_reducible apply len_BB); assumption)  | ((with_reducible apply len_N); assumption) | ((with_reducible apply len_V); assumption) | ((with_reducible apply len_VV); assumption)  | (with_reducible refine stop_builtin ?_) | (with_reducible refine stop_slice ?_) | (with_reducible refine stop_index_B ?_) | (with_reducible refine stop_index_BB ?_)  | (with_reducible refine stop_index_N ?_) | (with_reducible refine stop_index_V ?_) | (with_reducible refine stop_index_VV ?_)  | (with_reducible refine stop_str_B ?_) | (with_reducible refine stop_mark_B ?_) | (with_reducible refine stop_buildSlice ?_))
  refine Stop.go (wpList_slice_h rowN hn2 rfl (by omega) (by omega) fun u hu => ?_)
  go_wp2_with (first | ((with_reducible apply wpList_unguard); rfl) | (with_reducible refine stop_make ?_) | ((with_reducible apply len_B); assumption) | ((with_reducible apply len_BB); assumption)  | ((with_reducible apply len_N); assumption) | ((with_reducible apply len_V); assumption) | ((with_reducible apply len_VV); assumption)  | (with_reducible refine stop_builtin ?_) | (with_reducible refine stop_slice ?_) | (with_reducible refine stop_index_B ?_) | (with_reducible refine stop_index_BB ?_)  | (with_reducible refine stop_index_N ?_) | (with_reducible refine stop_index_V ?_) | (with_reducible refine stop_index_VV ?_)  | (with_reducible refine stop_str_B ?_) | (with_reducible refine stop_mark_B ?_) | (with_reducible refine stop_buildSlice ?_))
  refine Stop.go (app_N (l := []) k1 hu (by simp; omega) (by omega) fun v3 w3 g1 g2 g3 => ?_)
  have g2 : w2.grownBy w3 q2.ownBlock := g2
  rw [k3] at g2
  have hb3 := hb2.grown g2 hb2.size (by rintro k e; cases e; omega)
  have hI3 := hI2.only (Only.of_grown g2) (by intro e; have e := Option.some.inj e; have := Hb.out; omega)
  have hZ3 := hZ2.only (Only.of_grown g2) (by intro e; have e := Option.some.inj e; have := Hb.out; omega)
  have ht3 := ht2.grown g2 (by rintro k h e; cases e; omega)
  have hv3 := hv2.grown g2 (by rintro k h e; cases e; omega)
  have hn3 : Sl w3 (fun k => w1.heap.size ≤ k ∧ k < w3.heap.size) (ns.take 5) v3 := by
    have e : ns.take (min (ns.length : Int) 5).toNat = ns.take 5 := by rw [List.take_eq_take_iff]; omega
    rw [List.nil_append, e] at g1
    exact g1.sl (fun _ h _ => h.elim) fun k hk => g1.ge k hk
  have hs3 := g2.size
  clear g1 g2 g3 k1 k3 hb2 hI2 hZ2 ht2 hv2 hn2 hu c0 c1 c2 c3 c4
  obtain ⟨ao, nn3, cap3, rfl⟩ := Sl.shape hn3
  obtain ⟨c0, c1, c2, c3, c4⟩ := hI3.cells
  have f1 := hI3.frozen.1
  go_wp2_with (first | ((with_reducible apply wpList_unguard); rfl) | (with_reducible refine stop_make ?_) | ((with_reducible apply len_B); assumption) | ((with_reducible apply len_BB); assumption)  | ((with_reducible apply len_N); assumption) | ((with_reducible apply len_V); assumption) | ((with_reducible apply len_VV); assumption)  | (with_reducible refine stop_builtin ?_) | (with_reducible refine stop_slice ?_) | (with_reducible refine stop_index_B ?_) | (with_reducible refine stop_index_BB ?_)  | (with_reducible refine stop_index_N ?_) | (with_reducible refine stop_index_V ?_) | (with_reducible refine stop_index_VV ?_)  | (with_reducible refine stop_str_B ?_) | (with_reducible refine stop_mark_B ?_) | (with_reducible refine stop_buildSlice ?_))
  obtain ⟨w4, hw4⟩ : ∃ w4, w4 = w3.setCell ⟨b, 1, none⟩ (.slice ao nn3 cap3) := ⟨_, rfl⟩
  have ho4 := Only.of_set w3 ⟨b, 1, none⟩ (.slice ao nn3 cap3)
  have hI4 := hI3.set1 (v := .slice ao nn3 cap3)
  rw [← hw4] at ho4 hI4 ⊢
  clear hw4
  have hb4 := below_only hb3 ho4 (by rintro k rfl; exact Nat.le_of_eq Hb.out.symm)
  have hZ4 := hZ3.only ho4 (by intro e; have e : b + 1 = b := e; omega)
  have ht4 := ht3.only ho4 (by intro k hk _ (e : k = b); have := Hb.out; omega)
  have hv4 := hv3.only ho4 (by intro k hk _ (e : k = b); have := Hb.out; omega)
  have hn4 := hn3.only ho4 (by rintro k ⟨hk, _⟩ _ (e : k = b); have := Hb.out; omega)
  have hs4 := ho4.size
  clear hI3 hZ3 ht3 hv3 hn3 ho4 hb3 c0 c1 c2 c3 c4 f1
  refine Stop.go (len_BB ht4 ?_)
  go_wp2_with (first | ((with_reducible apply wpList_unguard); rfl) | (with_reducible refine stop_make ?_) | ((with_reducible apply len_B); assumption) | ((with_reducible apply len_BB); assumption)  | ((with_reducible apply len_N); assumption) | ((with_reducible apply len_V); assumption) | ((with_reducible apply len_VV); assumption)  | (with_reducible refine stop_builtin ?_) | (with_reducible refine stop_slice ?_) | (with_reducible refine stop_index_B ?_) | (with_reducible refine stop_index_BB ?_)  | (with_reducible refine stop_index_N ?_) | (with_reducible refine stop_index_V ?_) | (with_reducible refine stop_index_VV ?_)  | (with_reducible refine stop_str_B ?_) | (with_reducible refine stop_mark_B ?_) | (with_reducible refine stop_buildSlice ?_))
  go_loopg [3, 4, 5, 22] (ts.length + 1) (fun k t3 i4 p5 i wr => ∃ (j : Nat) (D : List (List UInt8)), k = ts.length - j + 1 ∧ j ≤ ts.length ∧ i = .int .i64 j ∧ D = (ts.take (min j 4)).map (fun t => t.take 40) ∧ D.length ≤ 4 ∧ OwnG wr w4.heap.size 24 D t3 ∧ Below w4.heap.size w4 wr)
  case atStart => exact ⟨0, [], by omega, by omega, rfl, by simp, by simp, OwnG.nil _ _ _, Below.refl _ _⟩
  case round =>
    obtain ⟨j, D, hk, hj, rfl, hD, hDl, ho, hb⟩ := hrel
    have Hk := Lib.hid hk
    have HD := Lib.hid hD
    have hsr := hb.size
    clear hk hD
    by_cases hlt : j < ts.length
    · have htr := ht4.below hb (Nat.le_refl _)
      go_wp2_with (first | ((with_reducible apply wpList_unguard); rfl) | (with_reducible refine stop_make ?_) | ((with_reducible apply len_B); assumption) | ((with_reducible apply len_BB); assumption)  | ((with_reducible apply len_N); assumption) | ((with_reducible apply len_V); assumption) | ((with_reducible apply len_VV); assumption)  | (with_reducible refine stop_builtin ?_) | (with_reducible refine stop_slice ?_) | (with_reducible refine stop_index_B ?_) | (with_reducible refine stop_index_BB ?_)  | (with_reducible refine stop_index_N ?_) | (with_reducible refine stop_index_V ?_) | (with_reducible refine stop_index_VV ?_)  | (with_reducible refine stop_str_B ?_) | (with_reducible refine stop_mark_B ?_) | (with_reducible refine stop_buildSlice ?_))
      refine Stop.go (idx_BB htr rfl (by omega) (by omega) fun b5 o5 y u5 hy hu hcell => ?_)
      have Hy := Lib.hid hy
      clear hy
      by_cases hj4 : j < 4
      · go_wp2_with (first | ((with_reducible apply wpList_unguard); rfl) | (with_reducible refine stop_make ?_) | ((with_reducible apply len_B); assumption) | ((with_reducible apply len_BB); assumption)  | ((with_reducible apply len_N); assumption) | ((with_reducible apply len_V); assumption) | ((with_reducible apply len_VV); assumption)  | (with_reducible refine stop_builtin ?_) | (with_reducible refine stop_slice ?_) | (with_reducible refine stop_index_B ?_) | (with_reducible refine stop_index_BB ?_)  | (with_reducible refine stop_index_N ?_) | (with_reducible refine stop_index_V ?_) | (with_reducible refine stop_index_VV ?_)  | (with_reducible refine stop_str_B ?_) | (with_reducible refine stop_mark_B ?_) | (with_reducible refine stop_buildSlice ?_))
        refine (cut_any wr _ _ _ 40 hu (by decide) (by decide)).mono ?_
        rintro e w6 ⟨y6, rfl, hy6, hb6⟩
        rw [show (40 : Int).toNat = 40 from rfl] at hy6
        have ho6 := OwnG.below ho hb6 (Nat.le_refl _)
        have hs6 := hb6.size
        clear hcell
        go_wp2_with (first | ((with_reducible apply wpList_unguard); rfl) | (with_reducible refine stop_make ?_) | ((with_reducible apply len_B); assumption) | ((with_reducible apply len_BB); assumption)  | ((with_reducible apply len_N); assumption) | ((with_reducible apply len_V); assumption) | ((with_reducible apply len_VV); assumption)  | (with_reducible refine stop_builtin ?_) | (with_reducible refine stop_slice ?_) | (with_reducible refine stop_index_B ?_) | (with_reducible refine stop_index_BB ?_)  | (with_reducible refine stop_index_N ?_) | (with_reducible refine stop_index_V ?_) | (with_reducible refine stop_index_VV ?_)  | (with_reducible refine stop_str_B ?_) | (with_reducible refine stop_mark_B ?_) | (with_reducible refine stop_buildSlice ?_))
        refine Stop.go (push_G rowBB (ho6 : OwnG w6 _ _ _ _) (fun _ => rfl) (fun _ => rfl) hy6.sl' ?_ (by omega) (by omega) fun u' v' w7 h3 h4 h5 => ?_)
        · refine fun k hk hlt => ⟨by omega, fun e => ?_⟩
          have := (ho.ge k e).2
          omega
        have hb7 : Below w4.heap.size w4 w7 := (below_on hb hb6 hb.size).grown h4 (by omega) (fun k hk => (ho.ge k hk).1)
        go_wp2_with (first | ((with_reducible apply wpList_unguard); rfl) | (with_reducible refine stop_make ?_) | ((with_reducible apply len_B); assumption) | ((with_reducible apply len_BB); assumption)  | ((with_reducible apply len_N); assumption) | ((with_reducible apply len_V); assumption) | ((with_reducible apply len_VV); assumption)  | (with_reducible refine stop_builtin ?_) | (with_reducible refine stop_slice ?_) | (with_reducible refine stop_index_B ?_) | (with_reducible refine stop_index_BB ?_)  | (with_reducible refine stop_index_N ?_) | (with_reducible refine stop_index_V ?_) | (with_reducible refine stop_index_VV ?_)  | (with_reducible refine stop_str_B ?_) | (with_reducible refine stop_mark_B ?_) | (with_reducible refine stop_buildSlice ?_))
        go_roundg (ts.length - (j + 1) + 1)
        case measure => have := Hk.out; omega
        case rel =>
          refine ⟨j + 1, _, by omega, by omega, by go_num, ?_, ?_, h3, hb7⟩
          · rw [HD.out, show min (j + 1) 4 = j + 1 by omega, show min j 4 = j by omega, take_snoc ts j y (by simpa using Hy.out), List.map_append]
            rfl
          · have e := congrArg List.length HD.out
            simp at e ⊢
            omega
      · go_wp2_with (first | ((with_reducible apply wpList_unguard); rfl) | (with_reducible refine stop_make ?_) | ((with_reducible apply len_B); assumption) | ((with_reducible apply len_BB); assumption)  | ((with_reducible apply len_N); assumption) | ((with_reducible apply len_V); assumption) | ((with_reducible apply len_VV); assumption)  | (with_reducible refine stop_builtin ?_) | (with_reducible refine stop_slice ?_) | (with_reducible refine stop_index_B ?_) | (with_reducible refine stop_index_BB ?_)  | (with_reducible refine stop_index_N ?_) | (with_reducible refine stop_index_V ?_) | (with_reducible refine stop_index_VV ?_)  | (with_reducible refine stop_str_B ?_) | (with_reducible refine stop_mark_B ?_) | (with_reducible refine stop_buildSlice ?_))
        go_roundg (ts.length - (j + 1) + 1)
        case measure => have := Hk.out; omega
        case rel => exact ⟨j + 1, D, by omega, by omega, by go_num, by rw [HD.out, show min (j + 1) 4 = 4 by omega, show min j 4 = 4 by omega], hDl, ho, hb⟩
    · have hT : D = (ts.take 4).map fun t => t.take 40 := by
        rw [HD.out]
        congr 1
        rw [List.take_eq_take_iff]
        omega
      have hDr : Sl wr (fun k => w4.heap.size ≤ k ∧ k < wr.heap.size) D u3 := OwnG.sl ho
      have hbr := below_on hb4 hb hb4.size
      have hIr := hI4.only (Only.of_below hb) (by have := hI4.lt; omega)
      have hZr := hZ4.only (Only.of_below hb) (by have := hZ4.lt; omega)
      have hvr := hv4.below hb (Nat.le_refl _)
      have hnr := hn4.below hb (Nat.le_refl _)
      clear ho hb hI4 hZ4 hv4 hn4 ht4 hb4 HD
      obtain ⟨w5, rfl⟩ : ∃ w5, w5 = wr := ⟨_, rfl⟩
      obtain ⟨c0, c1, c2, c3, c4⟩ := hIr.cells
      go_wp2_with (first | ((with_reducible apply wpList_unguard); rfl) | (with_reducible refine stop_make ?_) | ((with_reducible apply len_B); assumption) | ((with_reducible apply len_BB); assumption)  | ((with_reducible apply len_N); assumption) | ((with_reducible apply len_V); assumption) | ((with_reducible apply len_VV); assumption)  | (with_reducible refine stop_builtin ?_) | (with_reducible refine stop_slice ?_) | (with_reducible refine stop_index_B ?_) | (with_reducible refine stop_index_BB ?_)  | (with_reducible refine stop_index_N ?_) | (with_reducible refine stop_index_V ?_) | (with_reducible refine stop_index_VV ?_)  | (with_reducible refine stop_str_B ?_) | (with_reducible refine stop_mark_B ?_) | (with_reducible refine stop_buildSlice ?_))
      go_loopg [6, 7, 8, 38] (vs.length + 1) (fun k t6 i7 p8 i wq => ∃ (j : Nat) (E : List (List Int32)), k = vs.length - j + 1 ∧ j ≤ vs.length ∧ i = .int .i64 j ∧ E = (vs.take (min j 4)).map (fun t => t.take 12) ∧ E.length ≤ 4 ∧ OwnG wq w5.heap.size 41 E t6 ∧ Below w5.heap.size w5 wq)
      case atStart => exact ⟨0, [], by omega, by omega, rfl, by simp, by simp, OwnG.nil _ _ _, Below.refl _ _⟩
      case round =>
        obtain ⟨j, E, hk, hj, rfl, hE, hEl, ho, hb⟩ := hrel
        have Hk := Lib.hid hk
        have HE := Lib.hid hE
        have hsq := hb.size
        clear hk hE c0 c1 c2 c3 c4
        by_cases hlt : j < vs.length
        · have hvq := hvr.below hb (Nat.le_refl _)
          go_wp2_with (first | ((with_reducible apply wpList_unguard); rfl) | (with_reducible refine stop_make ?_) | ((with_reducible apply len_B); assumption) | ((with_reducible apply len_BB); assumption)  | ((with_reducible apply len_N); assumption) | ((with_reducible apply len_V); assumption) | ((with_reducible apply len_VV); assumption)  | (with_reducible refine stop_builtin ?_) | (with_reducible refine stop_slice ?_) | (with_reducible refine stop_index_B ?_) | (with_reducible refine stop_index_BB ?_)  | (with_reducible refine stop_index_N ?_) | (with_reducible refine stop_index_V ?_) | (with_reducible refine stop_index_VV ?_)  | (with_reducible refine stop_str_B ?_) | (with_reducible refine stop_mark_B ?_) | (with_reducible refine stop_buildSlice ?_))
          refine Stop.go (idx_VV hvq rfl (by omega) (by omega) fun b5 o5 y u5 hy hu hcell => ?_)
          have Hy := Lib.hid hy
          clear hy
          by_cases hj4 : j < 4
          · go_wp2_with (first | ((with_reducible apply wpList_unguard); rfl) | (with_reducible refine stop_make ?_) | ((with_reducible apply len_B); assumption) | ((with_reducible apply len_BB); assumption)  | ((with_reducible apply len_N); assumption) | ((with_reducible apply len_V); assumption) | ((with_reducible apply len_VV); assumption)  | (with_reducible refine stop_builtin ?_) | (with_reducible refine stop_slice ?_) | (with_reducible refine stop_index_B ?_) | (with_reducible refine stop_index_BB ?_)  | (with_reducible refine stop_index_N ?_) | (with_reducible refine stop_index_V ?_) | (with_reducible refine stop_index_VV ?_)  | (with_reducible refine stop_str_B ?_) | (with_reducible refine stop_mark_B ?_) | (with_reducible refine stop_buildSlice ?_))
            refine (cutvec_any wr _ _ _ 12 hu (by decide) (by decide)).mono ?_
            rintro e w6 ⟨y6, rfl, hy6, hb6⟩
            rw [show (12 : Int).toNat = 12 from rfl] at hy6
            have ho6 := OwnG.below ho hb6 (Nat.le_refl _)
            have hs6 := hb6.size
            clear hcell
            go_wp2_with (first | ((with_reducible apply wpList_unguard); rfl) | (with_reducible refine stop_make ?_) | ((with_reducible apply len_B); assumption) | ((with_reducible apply len_BB); assumption)  | ((with_reducible apply len_N); assumption) | ((with_reducible apply len_V); assumption) | ((with_reducible apply len_VV); assumption)  | (with_reducible refine stop_builtin ?_) | (with_reducible refine stop_slice ?_) | (with_reducible refine stop_index_B ?_) | (with_reducible refine stop_index_BB ?_)  | (with_reducible refine stop_index_N ?_) | (with_reducible refine stop_index_V ?_) | (with_reducible refine stop_index_VV ?_)  | (with_reducible refine stop_str_B ?_) | (with_reducible refine stop_mark_B ?_) | (with_reducible refine stop_buildSlice ?_))
            refine Stop.go (push_G rowVV (ho6 : OwnG w6 _ _ _ _) (fun _ => rfl) (fun _ => rfl) hy6.sl' ?_ (by omega) (by omega) fun u' v' w7 h3 h4 h5 => ?_)
            · refine fun k hk hlt => ⟨by omega, fun e => ?_⟩
              have := (ho.ge k e).2
              omega
            have hb7 : Below w5.heap.size w5 w7 := (below_on hb hb6 hb.size).grown h4 (by omega) (fun k hk => (ho.ge k hk).1)
            go_wp2_with (first | ((with_reducible apply wpList_unguard); rfl) | (with_reducible refine stop_make ?_) | ((with_reducible apply len_B); assumption) | ((with_reducible apply len_BB); assumption)  | ((with_reducible apply len_N); assumption) | ((with_reducible apply len_V); assumption) | ((with_reducible apply len_VV); assumption)  | (with_reducible refine stop_builtin ?_) | (with_reducible refine stop_slice ?_) | (with_reducible refine stop_index_B ?_) | (with_reducible refine stop_index_BB ?_)  | (with_reducible refine stop_index_N ?_) | (with_reducible refine stop_index_V ?_) | (with_reducible refine stop_index_VV ?_)  | (with_reducible refine stop_str_B ?_) | (with_reducible refine stop_mark_B ?_) | (with_reducible refine stop_buildSlice ?_))
            go_roundg (vs.length - (j + 1) + 1)
            case measure => have := Hk.out; omega
            case rel =>
              refine ⟨j + 1, _, by omega, by omega, by go_num, ?_, ?_, h3, hb7⟩
              · rw [HE.out, show min (j + 1) 4 = j + 1 by omega, show min j 4 = j by omega, take_snoc vs j y (by simpa using Hy.out), List.map_append]
                rfl
              · have e := congrArg List.length HE.out
                simp at e ⊢
                omega
          · go_wp2_with (first | ((with_reducible apply wpList_unguard); rfl) | (with_reducible refine stop_make ?_) | ((with_reducible apply len_B); assumption) | ((with_reducible apply len_BB); assumption)  | ((with_reducible apply len_N); assumption) | ((with_reducible apply len_V); assumption) | ((with_reducible apply len_VV); assumption)  | (with_reducible refine stop_builtin ?_) | (with_reducible refine stop_slice ?_) | (with_reducible refine stop_index_B ?_) | (with_reducible refine stop_index_BB ?_)  | (with_reducible refine stop_index_N ?_) | (with_reducible refine stop_index_V ?_) | (with_reducible refine stop_index_VV ?_)  | (with_reducible refine stop_str_B ?_) | (with_reducible refine stop_mark_B ?_) | (with_reducible refine stop_buildSlice ?_))
            go_roundg (vs.length - (j + 1) + 1)
            case measure => have := Hk.out; omega
            case rel => exact ⟨j + 1, E, by omega, by omega, by go_num, by rw [HE.out, show min (j + 1) 4 = 4 by omega, show min j 4 = 4 by omega], hEl, ho, hb⟩
        · have hU : E = (vs.take 4).map fun t => t.take 12 := by
            rw [HE.out]
            congr 1
            rw [List.take_eq_take_iff]
            omega
          have hEq : Sl wr (fun k => w5.heap.size ≤ k ∧ k < wr.heap.size) E u6 := OwnG.sl ho
          have hbq := below_on hbr hb hbr.size
          have hIq := hIr.only (Only.of_below hb) (by have := hIr.lt; omega)
          have hZq := hZr.only (Only.of_below hb) (by have := hZr.lt; omega)
          have hnq := hnr.below hb (Nat.le_refl _)
          have hDq := hDr.below hb (Nat.le_refl _)
          clear ho hb hIr hZr hvr hnr hDr hbr HE
          obtain ⟨c0, c1, c2, c3, c4⟩ := hIq.cells
          obtain ⟨f1, f2, f3⟩ := hIq.frozen
          obtain ⟨z0, z1, z2, z3, z4⟩ := hZq.cells
          obtain ⟨y0, y1, y2, y3, y4⟩ := hZq.frozen5
          obtain ⟨a3, n3, k3, rfl⟩ := Sl.shape hDq
          obtain ⟨a6, n6, k6, rfl⟩ := Sl.shape hEq
          go_wp2_with (first | ((with_reducible apply wpList_unguard); rfl) | (with_reducible refine stop_make ?_) | ((with_reducible apply len_B); assumption) | ((with_reducible apply len_BB); assumption)  | ((with_reducible apply len_N); assumption) | ((with_reducible apply len_V); assumption) | ((with_reducible apply len_VV); assumption)  | (with_reducible refine stop_builtin ?_) | (with_reducible refine stop_slice ?_) | (with_reducible refine stop_index_B ?_) | (with_reducible refine stop_index_BB ?_)  | (with_reducible refine stop_index_N ?_) | (with_reducible refine stop_index_V ?_) | (with_reducible refine stop_index_VV ?_)  | (with_reducible refine stop_str_B ?_) | (with_reducible refine stop_mark_B ?_) | (with_reducible refine stop_buildSlice ?_))
          have o1 := Only.of_set wr ⟨b, 2, none⟩ (.slice a3 n3 k3)
          have Z1 := hZq.only o1 (by intro e; have e : b + 1 = b := e; omega)
          have P1 : Only (fun k => k = b ∨ k = b + 1) wr _ := o1.mono fun k _ e => .inl e
          generalize wr.setCell ⟨b, 2, none⟩ (.slice a3 n3 k3) = y1w at *
          have o2 := Only.of_set y1w ⟨b, 3, none⟩ (.slice a6 n6 k6)
          have Z2 := Z1.only o2 (by intro e; have e : b + 1 = b := e; omega)
          have P2 := P1.trans o2 (fun k _ e => .inl e)
          generalize y1w.setCell ⟨b, 3, none⟩ (.slice a6 n6 k6) = y2w at *
          have o3 := Only.of_set y2w ⟨b + 1, 0, none⟩ (.int .u8 (d : Int))
          have Z3 := Z2.set0 (d' := d)
          have P3 := P2.trans o3 (fun k _ e => .inr e)
          generalize y2w.setCell ⟨b + 1, 0, none⟩ (.int .u8 (d : Int)) = y3w at *
          have o4 := Only.of_set y3w ⟨b + 1, 1, none⟩ (.slice ao nn3 cap3)
          have Z4 := Z3.set1 (v := .slice ao nn3 cap3)
          have P4 := P3.trans o4 (fun k _ e => .inr e)
          generalize y3w.setCell ⟨b + 1, 1, none⟩ (.slice ao nn3 cap3) = y4w at *
          have o5 := Only.of_set y4w ⟨b + 1, 2, none⟩ (.slice a3 n3 k3)
          have Z5 := Z4.set2 (v := .slice a3 n3 k3)
          have P5 := P4.trans o5 (fun k _ e => .inr e)
          generalize y4w.setCell ⟨b + 1, 2, none⟩ (.slice a3 n3 k3) = y5w at *
          have o6 := Only.of_set y5w ⟨b + 1, 3, none⟩ (.slice a6 n6 k6)
          have Z6 := Z5.set3 (v := .slice a6 n6 k6)
          have P6 := P5.trans o6 (fun k _ e => .inr e)
          generalize y5w.setCell ⟨b + 1, 3, none⟩ (.slice a6 n6 k6) = y6w at *
          have o7 := Only.of_set y6w ⟨b + 1, 4, none⟩ (.int .i64 m)
          have Z7 := Z6.set4 (m' := m)
          have P7 := P6.trans o7 (fun k _ e => .inr e)
          generalize y6w.setCell ⟨b + 1, 4, none⟩ (.int .i64 m) = y7w at *
          refine bodyPost_ret (results_cell_row rfl _ y7w (b + 1) _ _ _ _ rfl Z7 Try.underlying36 rfl (by kernel_rfl)) rfl ?_
          have hs7 := P7.size
          refine ⟨_, _, _, rfl, ?_, ?_, ?_, below_only hbq P7 (by rintro k (rfl | rfl) <;> have := Hb.out <;> omega)⟩
          · exact (hnq.only P7 (by rintro k ⟨h1, h2⟩ _ e; have := Hb.out; omega)).wide fun k h hl => ⟨by have := h.1; omega, hl⟩
          · rw [← hT]; exact (hDq.only P7 (by rintro k ⟨h1, h2⟩ _ e; have := Hb.out; omega)).wide fun k h hl => ⟨by have := h.1; omega, hl⟩
          · rw [← hU]; exact (hEq.only P7 (by rintro k ⟨h1, h2⟩ _ e; have := Hb.out; omega)).wide fun k h hl => ⟨by have := h.1; omega, hl⟩
end Go.Proofs.Ytfgagfemhmcdfaa
