/- package armillarylaw02: ScrollMany. -/
import Derived.Test.YtfgagfemhmcdfaaManyKit
import Derived.Test.YtfgagfemhmcdfaaAwake
import Derived.Deep.RegionHeld3
namespace Go.Proofs.Ytfgagfemhmcdfaa
open Go Go.RowKit Go.Arm

set_option maxHeartbeats 4000000 in
theorem scrollMany_any (w : World) {S1 S2 S3 : Nat → Prop} {l : List UInt64} {t : List (List UInt8)} {v : List (List Int32)} {p q r : Value} (hp : Sl w S1 l p) (hq : Sl w S2 t q) (hr : Sl w S3 v r) :
    Calls Try.prog 4 #[p, q, r] w fun e w' => e = .returned (.bool true) ∧ Below w.heap.size w w' := by
  obtain ⟨ap, np, cp, rfl⟩ := Sl.shape hp
  obtain ⟨aq, nq, cq, rfl⟩ := Sl.shape hq
  obtain ⟨ar, nr, cr, rfl⟩ := Sl.shape hr
  go_enter Try.func4, Try.ntmps4
  go_wp2_with (first | ((with_reducible apply wpList_unguard); rfl) | (with_reducible refine stop_make ?_) | ((with_reducible apply len_B); assumption) | ((with_reducible apply len_BB); assumption)  | ((with_reducible apply len_N); assumption) | ((with_reducible apply len_V); assumption) | ((with_reducible apply len_VV); assumption)  | (with_reducible refine stop_builtin ?_) | (with_reducible refine stop_slice ?_) | (with_reducible refine stop_index_B ?_) | (with_reducible refine stop_index_BB ?_)  | (with_reducible refine stop_index_N ?_) | (with_reducible refine stop_index_V ?_) | (with_reducible refine stop_index_VV ?_)  | (with_reducible refine stop_str_B ?_) | (with_reducible refine stop_mark_B ?_) | (with_reducible refine stop_buildSlice ?_))
  refine (awake_any w).mono ?_
  rintro e w0 ⟨rfl, hb0⟩
  have hp0 := hp.old.below hb0 (Nat.le_refl _)
  have hq0 := hq.old.below hb0 (Nat.le_refl _)
  have hr0 := hr.old.below hb0 (Nat.le_refl _)
  clear hp hq hr
  go_wp2_with (first | ((with_reducible apply wpList_unguard); rfl) | (with_reducible refine stop_make ?_) | ((with_reducible apply len_B); assumption) | ((with_reducible apply len_BB); assumption)  | ((with_reducible apply len_N); assumption) | ((with_reducible apply len_V); assumption) | ((with_reducible apply len_VV); assumption)  | (with_reducible refine stop_builtin ?_) | (with_reducible refine stop_slice ?_) | (with_reducible refine stop_index_B ?_) | (with_reducible refine stop_index_BB ?_)  | (with_reducible refine stop_index_N ?_) | (with_reducible refine stop_index_V ?_) | (with_reducible refine stop_index_VV ?_)  | (with_reducible refine stop_str_B ?_) | (with_reducible refine stop_mark_B ?_) | (with_reducible refine stop_buildSlice ?_))
  refine (few_any w0 0 0 hp0 hq0 hr0).mono ?_
  rintro e w1 ⟨vn, vt, vv, rfl, hn1, ht1, hv1, hb⟩
  have hb1 := below_on hb0 hb hb0.size
  obtain ⟨NS, hNS⟩ : ∃ NS, NS = l.take 5 := ⟨_, rfl⟩
  obtain ⟨TS, hTS⟩ : ∃ TS, TS = (t.take 4).map fun t => t.take 40 := ⟨_, rfl⟩
  obtain ⟨VS, hVS⟩ : ∃ VS, VS = (v.take 4).map fun v => v.take 12 := ⟨_, rfl⟩
  have hNl : NS.length ≤ 5 := by rw [hNS, List.length_take]; omega
  have hTl : TS.length ≤ 4 := by rw [hTS, List.length_map, List.length_take]; omega
  have hVl : VS.length ≤ 4 := by rw [hVS, List.length_map, List.length_take]; omega
  have HTe : Hid (∀ t ∈ TS, t.length ≤ 40) := by
    intro t ht
    rw [hTS, List.mem_map] at ht
    obtain ⟨y, _, rfl⟩ := ht
    rw [List.length_take]; omega
  have HVe : Hid (∀ t ∈ VS, t.length ≤ 12) := by
    intro t ht
    rw [hVS, List.mem_map] at ht
    obtain ⟨y, _, rfl⟩ := ht
    rw [List.length_take]; omega
  have hEN : (encs NS).length ≤ 50 := by have := encs_len NS; omega
  have hET : (encTexts TS).length ≤ 200 := by have := encTexts_len 40 (by decide) TS HTe.out; omega
  have hEV : (encVecs VS).length ≤ 520 := by have := encVecs_len 12 (by decide) VS HVe.out; omega
  have HTe' : Hid (∀ t ∈ TS, t.length ≤ 1000) := fun t ht => by have := HTe.out t ht; omega
  have HVe' : Hid (∀ t ∈ VS, t.length ≤ 1000) := fun t ht => by have := HVe.out t ht; omega
  rw [← hNS] at hn1
  rw [← hTS] at ht1
  rw [← hVS] at hv1
  clear hNS hTS hVS hb hb0 hp0 hq0 hr0
  obtain ⟨an, nn, cn, rfl⟩ := Sl.shape hn1
  obtain ⟨at', nt, ct, rfl⟩ := Sl.shape ht1
  obtain ⟨av, nv, cv, rfl⟩ := Sl.shape hv1
  go_wp2_with (first | ((with_reducible apply wpList_unguard); rfl) | (with_reducible refine stop_make ?_) | ((with_reducible apply len_B); assumption) | ((with_reducible apply len_BB); assumption)  | ((with_reducible apply len_N); assumption) | ((with_reducible apply len_V); assumption) | ((with_reducible apply len_VV); assumption)  | (with_reducible refine stop_builtin ?_) | (with_reducible refine stop_slice ?_) | (with_reducible refine stop_index_B ?_) | (with_reducible refine stop_index_BB ?_)  | (with_reducible refine stop_index_N ?_) | (with_reducible refine stop_index_V ?_) | (with_reducible refine stop_index_VV ?_)  | (with_reducible refine stop_str_B ?_) | (with_reducible refine stop_mark_B ?_) | (with_reducible refine stop_buildSlice ?_))
  have hS := St.start w1 (.slice an nn cn) (.slice at' nt ct) (.slice av nv cv)
  generalize ((w1.alloc (.cells #[.int .u8 0, .slice an nn cn, .slice at' nt ct, .slice av nv cv, .int .i64 0] 36)).alloc (.cells #[.slice none 0 0] 27)).alloc (.cells #[.slice none 0 0] 27) = w2 at *
  obtain ⟨bx, hbx⟩ : ∃ b, b = w1.heap.size := ⟨_, rfl⟩
  obtain ⟨ga, hga⟩ : ∃ b, b = bx + 1 := ⟨_, rfl⟩
  obtain ⟨gb, hgb⟩ : ∃ b, b = ga + 1 := ⟨_, rfl⟩
  rw [← hbx, ← hga, ← hgb] at hS ⊢
  clear hbx hga hgb
  have hSd : St w1 w2.drew bx (.slice an nn cn) (.slice at' nt ct) (.slice av nv cv) ga none [] gb none [] := hS.alloc ⟨rfl, rfl, rfl, Nat.le_refl _, fun _ _ => rfl⟩
  have hcells := fun (w' : World) (h : It w' bx 0 (.slice an nn cn) (.slice at' nt ct) (.slice av nv cv) 0) => (⟨h.cells.2.1, h.cells.2.2.1, h.cells.2.2.2.1⟩ : w'.cell? ⟨bx, 1, none⟩ = some (.slice an nn cn) ∧ w'.cell? ⟨bx, 2, none⟩ = some (.slice at' nt ct) ∧ w'.cell? ⟨bx, 3, none⟩ = some (.slice av nv cv))
  have hnd := hn1.below hSd.below (Nat.le_refl _)
  go_region_held3 (fun w' => w'.cell? ⟨bx, 1, none⟩ = some (.slice an nn cn) ∧ w'.cell? ⟨bx, 2, none⟩ = some (.slice at' nt ct) ∧ w'.cell? ⟨bx, 3, none⟩ = some (.slice av nv cv))
    (first | exact hcells _ hSd.it | exact hcells _ hS3.it | exact hcells _ hS4.it | exact hcells _ hS5.it)
    (first
      | (go_at_call 11; refine (wnums_any w2.drew ga none [] _ NS _ hSd.wa.wr hnd hSd.swap.free (by simp) (by omega)).mono ?_; rintro e w3 ⟨rfl, h3, a1, a2⟩; have hS3 := hSd.writeA a1 a2; have ht3 := ht1.below hS3.below (Nat.le_refl _))
      | (go_at_call 14; refine (wtext_any w3 ga h3 _ _ TS _ hS3.wa.wr ht3 hS3.swap.free (by simp; omega) (by omega) HTe'.out).mono ?_; rintro e w4 ⟨rfl, h4, a1', a2'⟩; have hS4 := hS3.writeA a1' a2'; have hv4 := hv1.below hS4.below (Nat.le_refl _))
      | (go_at_call 15; refine (wvecs_any w4 ga h4 _ _ VS _ hS4.wa.wr hv4 hS4.swap.free (by simp; omega) (by omega) HVe'.out).mono ?_; rintro e w5 ⟨rfl, h5, a1'', a2''⟩; have hS5 := hS4.writeA a1'' a2''))
  rename_i hHeld
  obtain ⟨LA, hLA⟩ : ∃ LA, LA = [] ++ encs NS ++ encTexts TS ++ encVecs VS := ⟨_, rfl⟩
  have hLAl : LA.length ≤ 1000 := by rw [hLA]; simp; omega
  rw [← hLA] at hS5
  have HLA := Lib.hid hLA
  clear hLA a1 a2 a1' a2' a1'' a2'' hS3 hS4 hSd hS ht3 hv4 hnd hHeld
  have hn5 := hn1.below hS5.below (Nat.le_refl _)
  have c1 := hS5.it.cells.2.1
  go_wp2_with (first | ((with_reducible apply wpList_unguard); rfl) | (with_reducible refine stop_make ?_) | ((with_reducible apply len_B); assumption) | ((with_reducible apply len_BB); assumption)  | ((with_reducible apply len_N); assumption) | ((with_reducible apply len_V); assumption) | ((with_reducible apply len_VV); assumption)  | (with_reducible refine stop_builtin ?_) | (with_reducible refine stop_slice ?_) | (with_reducible refine stop_index_B ?_) | (with_reducible refine stop_index_BB ?_)  | (with_reducible refine stop_index_N ?_) | (with_reducible refine stop_index_V ?_) | (with_reducible refine stop_index_VV ?_)  | (with_reducible refine stop_str_B ?_) | (with_reducible refine stop_mark_B ?_) | (with_reducible refine stop_buildSlice ?_))
  go_loopg [11, 42] (NS.length + 1) (fun k x i wr => ∃ (j : Nat) (h' : Option Nat), k = NS.length - j + 1 ∧ j ≤ NS.length ∧ i = .int .i64 j ∧ St w1 wr bx (.slice an nn cn) (.slice at' nt ct) (.slice av nv cv) ga h5 LA gb h' (encs (NS.take j)))
  case atStart => exact ⟨0, none, by omega, by omega, rfl, by simpa [encs] using hS5⟩
  case round =>
    obtain ⟨j, h', hk, hj, rfl, hSr⟩ := hrel
    have Hk := Lib.hid hk
    clear hk c1 hn5
    have hnr := hn1.below hSr.below (Nat.le_refl _)
    have hlen : (encs (NS.take j)).length ≤ 50 := by have := encs_len (NS.take j); rw [List.length_take] at this; omega
    by_cases hlt : j < NS.length
    · go_wp2_with (first | ((with_reducible apply wpList_unguard); rfl) | (with_reducible refine stop_make ?_) | ((with_reducible apply len_B); assumption) | ((with_reducible apply len_BB); assumption)  | ((with_reducible apply len_N); assumption) | ((with_reducible apply len_V); assumption) | ((with_reducible apply len_VV); assumption)  | (with_reducible refine stop_builtin ?_) | (with_reducible refine stop_slice ?_) | (with_reducible refine stop_index_B ?_) | (with_reducible refine stop_index_BB ?_)  | (with_reducible refine stop_index_N ?_) | (with_reducible refine stop_index_V ?_) | (with_reducible refine stop_index_VV ?_)  | (with_reducible refine stop_str_B ?_) | (with_reducible refine stop_mark_B ?_) | (with_reducible refine stop_buildSlice ?_))
      refine Stop.go (idx_N hnr rfl (by omega) (by omega) fun b6 o6 y hy hcell => ?_)
      have Hy := Lib.hid hy
      clear hy
      go_wp2_with (first | ((with_reducible apply wpList_unguard); rfl) | (with_reducible refine stop_make ?_) | ((with_reducible apply len_B); assumption) | ((with_reducible apply len_BB); assumption)  | ((with_reducible apply len_N); assumption) | ((with_reducible apply len_V); assumption) | ((with_reducible apply len_VV); assumption)  | (with_reducible refine stop_builtin ?_) | (with_reducible refine stop_slice ?_) | (with_reducible refine stop_index_B ?_) | (with_reducible refine stop_index_BB ?_)  | (with_reducible refine stop_index_N ?_) | (with_reducible refine stop_index_V ?_) | (with_reducible refine stop_index_VV ?_)  | (with_reducible refine stop_str_B ?_) | (with_reducible refine stop_mark_B ?_) | (with_reducible refine stop_buildSlice ?_))
      refine Stop.go (build_N (S := fun _ => False) ([y] : List UInt64) [_] rfl rfl rds_N (by simp) fun q7 w7 k1 k2 k3 k4 => ?_)
      have hS7 := hSr.alloc (below_of_grown k2 (Nat.le_refl _) (by simp))
      have hq7 := build_flat k1 k3
      have hnew := hSr.new (w' := w7) (by omega)
      clear k1 k2 k3 hcell
      go_wp2_with (first | ((with_reducible apply wpList_unguard); rfl) | (with_reducible refine stop_make ?_) | ((with_reducible apply len_B); assumption) | ((with_reducible apply len_BB); assumption)  | ((with_reducible apply len_N); assumption) | ((with_reducible apply len_V); assumption) | ((with_reducible apply len_VV); assumption)  | (with_reducible refine stop_builtin ?_) | (with_reducible refine stop_slice ?_) | (with_reducible refine stop_index_B ?_) | (with_reducible refine stop_index_BB ?_)  | (with_reducible refine stop_index_N ?_) | (with_reducible refine stop_index_V ?_) | (with_reducible refine stop_index_VV ?_)  | (with_reducible refine stop_str_B ?_) | (with_reducible refine stop_mark_B ?_) | (with_reducible refine stop_buildSlice ?_))
      refine (wnums_any w7 gb h' _ _ [y] q7 hS7.wb.wr hq7 (by rintro b rfl; exact hnew) (by omega) (by simp)).mono ?_
      rintro e w8 ⟨rfl, h8, a1, a2⟩
      have hS8 := hS7.write a1 a2
      go_wp2_with (first | ((with_reducible apply wpList_unguard); rfl) | (with_reducible refine stop_make ?_) | ((with_reducible apply len_B); assumption) | ((with_reducible apply len_BB); assumption)  | ((with_reducible apply len_N); assumption) | ((with_reducible apply len_V); assumption) | ((with_reducible apply len_VV); assumption)  | (with_reducible refine stop_builtin ?_) | (with_reducible refine stop_slice ?_) | (with_reducible refine stop_index_B ?_) | (with_reducible refine stop_index_BB ?_)  | (with_reducible refine stop_index_N ?_) | (with_reducible refine stop_index_V ?_) | (with_reducible refine stop_index_VV ?_)  | (with_reducible refine stop_str_B ?_) | (with_reducible refine stop_mark_B ?_) | (with_reducible refine stop_buildSlice ?_))
      go_roundg (NS.length - (j + 1) + 1)
      case measure => have := Hk.out; omega
      case rel =>
        have e := flatMap_snoc (fun n : UInt64 => enc n.toNat) NS j y (by simpa using Hy.out)
        refine ⟨j + 1, h8, by omega, by omega, by go_num, ?_⟩
        have e2 : encs (NS.take (j + 1)) = encs (NS.take j) ++ encs [y] := by
          rw [show encs [y] = enc y.toNat by simp [encs]]; exact e
        rw [e2]
        exact hS8
    · rw [List.take_of_length_le (by omega)] at hSr
      obtain ⟨w6, rfl⟩ : ∃ w6, w6 = wr := ⟨_, rfl⟩
      obtain ⟨h6, rfl⟩ : ∃ h6, h6 = h' := ⟨_, rfl⟩
      have c2 := hSr.it.cells.2.2.1
      have ht6 := ht1.below hSr.below (Nat.le_refl _)
      clear hnr hlen
      go_wp2_with (first | ((with_reducible apply wpList_unguard); rfl) | (with_reducible refine stop_make ?_) | ((with_reducible apply len_B); assumption) | ((with_reducible apply len_BB); assumption)  | ((with_reducible apply len_N); assumption) | ((with_reducible apply len_V); assumption) | ((with_reducible apply len_VV); assumption)  | (with_reducible refine stop_builtin ?_) | (with_reducible refine stop_slice ?_) | (with_reducible refine stop_index_B ?_) | (with_reducible refine stop_index_BB ?_)  | (with_reducible refine stop_index_N ?_) | (with_reducible refine stop_index_V ?_) | (with_reducible refine stop_index_VV ?_)  | (with_reducible refine stop_str_B ?_) | (with_reducible refine stop_mark_B ?_) | (with_reducible refine stop_buildSlice ?_))
      go_loopg [13, 54] (TS.length + 1) (fun k x i wr => ∃ (j : Nat) (h' : Option Nat), k = TS.length - j + 1 ∧ j ≤ TS.length ∧ i = .int .i64 j ∧ St w1 wr bx (.slice an nn cn) (.slice at' nt ct) (.slice av nv cv) ga h5 LA gb h' (encs NS ++ encTexts (TS.take j)))
      case atStart => exact ⟨0, h6, by omega, by omega, rfl, by simpa [encTexts] using hSr⟩
      case round =>
        obtain ⟨j, h', hk, hj, rfl, hSr⟩ := hrel
        have Hk := Lib.hid hk
        clear hk c2 ht6
        have htr := ht1.below hSr.below (Nat.le_refl _)
        have hlen : (encs NS ++ encTexts (TS.take j)).length ≤ 250 := by
          have := encTexts_len 40 (by decide) (TS.take j) (fun t ht => HTe.out t (List.mem_of_mem_take ht))
          rw [List.length_take] at this
          rw [List.length_append]; omega
        by_cases hlt : j < TS.length
        · go_wp2_with (first | ((with_reducible apply wpList_unguard); rfl) | (with_reducible refine stop_make ?_) | ((with_reducible apply len_B); assumption) | ((with_reducible apply len_BB); assumption)  | ((with_reducible apply len_N); assumption) | ((with_reducible apply len_V); assumption) | ((with_reducible apply len_VV); assumption)  | (with_reducible refine stop_builtin ?_) | (with_reducible refine stop_slice ?_) | (with_reducible refine stop_index_B ?_) | (with_reducible refine stop_index_BB ?_)  | (with_reducible refine stop_index_N ?_) | (with_reducible refine stop_index_V ?_) | (with_reducible refine stop_index_VV ?_)  | (with_reducible refine stop_str_B ?_) | (with_reducible refine stop_mark_B ?_) | (with_reducible refine stop_buildSlice ?_))
          refine Stop.go (idx_BB htr rfl (by omega) (by omega) fun b6 o6 y u6 hy hu hcell => ?_)
          have Hy := Lib.hid hy
          have hyl : y.length ≤ 40 := HTe.out y (List.mem_of_getElem? hy)
          clear hy
          go_wp2_with (first | ((with_reducible apply wpList_unguard); rfl) | (with_reducible refine stop_make ?_) | ((with_reducible apply len_B); assumption) | ((with_reducible apply len_BB); assumption)  | ((with_reducible apply len_N); assumption) | ((with_reducible apply len_V); assumption) | ((with_reducible apply len_VV); assumption)  | (with_reducible refine stop_builtin ?_) | (with_reducible refine stop_slice ?_) | (with_reducible refine stop_index_B ?_) | (with_reducible refine stop_index_BB ?_)  | (with_reducible refine stop_index_N ?_) | (with_reducible refine stop_index_V ?_) | (with_reducible refine stop_index_VV ?_)  | (with_reducible refine stop_str_B ?_) | (with_reducible refine stop_mark_B ?_) | (with_reducible refine stop_buildSlice ?_))
          refine Stop.go (build_BB (S := (· < w1.heap.size)) [y] [u6] rfl rfl ⟨_, _, rfl, ⟨u6, rfl, hu⟩, rfl⟩ (by simp) fun q7 w7 k1 k2 k3 k4 => ?_)
          have hS7 := hSr.alloc (below_of_grown k2 (Nat.le_refl _) (by simp))
          have hq7 : Sl w7 (fun b => b < w1.heap.size ∨ b = wr.heap.size) [y] q7 := k1.sl (fun b h _ => .inl h) (fun b hb => .inr (by rw [k3] at hb; exact (Option.some.inj hb).symm))
          have hnew := hSr.new (w' := w7) (by omega)
          clear k1 k2 k3 hcell
          go_wp2_with (first | ((with_reducible apply wpList_unguard); rfl) | (with_reducible refine stop_make ?_) | ((with_reducible apply len_B); assumption) | ((with_reducible apply len_BB); assumption)  | ((with_reducible apply len_N); assumption) | ((with_reducible apply len_V); assumption) | ((with_reducible apply len_VV); assumption)  | (with_reducible refine stop_builtin ?_) | (with_reducible refine stop_slice ?_) | (with_reducible refine stop_index_B ?_) | (with_reducible refine stop_index_BB ?_)  | (with_reducible refine stop_index_N ?_) | (with_reducible refine stop_index_V ?_) | (with_reducible refine stop_index_VV ?_)  | (with_reducible refine stop_str_B ?_) | (with_reducible refine stop_mark_B ?_) | (with_reducible refine stop_buildSlice ?_))
          refine (wtext_any w7 gb h' _ _ [y] q7 hS7.wb.wr hq7 (by rintro b (h | rfl); exact hS7.free b h; exact hnew) (by omega) (by simp) (by intro t ht; simp at ht; subst ht; omega)).mono ?_
          rintro e w8 ⟨rfl, h8, a1, a2⟩
          have hS8 := hS7.write a1 a2
          go_wp2_with (first | ((with_reducible apply wpList_unguard); rfl) | (with_reducible refine stop_make ?_) | ((with_reducible apply len_B); assumption) | ((with_reducible apply len_BB); assumption)  | ((with_reducible apply len_N); assumption) | ((with_reducible apply len_V); assumption) | ((with_reducible apply len_VV); assumption)  | (with_reducible refine stop_builtin ?_) | (with_reducible refine stop_slice ?_) | (with_reducible refine stop_index_B ?_) | (with_reducible refine stop_index_BB ?_)  | (with_reducible refine stop_index_N ?_) | (with_reducible refine stop_index_V ?_) | (with_reducible refine stop_index_VV ?_)  | (with_reducible refine stop_str_B ?_) | (with_reducible refine stop_mark_B ?_) | (with_reducible refine stop_buildSlice ?_))
          go_roundg (TS.length - (j + 1) + 1)
          case measure => have := Hk.out; omega
          case rel =>
            have e := flatMap_snoc encText TS j y (by simpa using Hy.out)
            refine ⟨j + 1, h8, by omega, by omega, by go_num, ?_⟩
            have e2 : encTexts (TS.take (j + 1)) = encTexts (TS.take j) ++ encTexts [y] := by
              rw [show encTexts [y] = encText y by simp [encTexts]]; exact e
            rw [e2, ← List.append_assoc]
            exact hS8
        · rw [List.take_of_length_le (by omega)] at hSr
          obtain ⟨w9, rfl⟩ : ∃ w9, w9 = wr := ⟨_, rfl⟩
          obtain ⟨h9, rfl⟩ : ∃ h9, h9 = h' := ⟨_, rfl⟩
          clear htr hlen
          obtain ⟨F, hF⟩ : ∃ F, F = encs NS ++ encTexts TS := ⟨_, rfl⟩
          have hFl : F.length ≤ 250 := by rw [hF, List.length_append]; omega
          have hLF : LA = F ++ encVecs VS := by rw [HLA.out, hF]; simp
          rw [← hF] at hSr
          have HLF := Lib.hid hLF
          clear hF hLF
          go_wp2_with (first | ((with_reducible apply wpList_unguard); rfl) | (with_reducible refine stop_make ?_) | ((with_reducible apply len_B); assumption) | ((with_reducible apply len_BB); assumption)  | ((with_reducible apply len_N); assumption) | ((with_reducible apply len_V); assumption) | ((with_reducible apply len_VV); assumption)  | (with_reducible refine stop_builtin ?_) | (with_reducible refine stop_slice ?_) | (with_reducible refine stop_index_B ?_) | (with_reducible refine stop_index_BB ?_)  | (with_reducible refine stop_index_N ?_) | (with_reducible refine stop_index_V ?_) | (with_reducible refine stop_index_VV ?_)  | (with_reducible refine stop_str_B ?_) | (with_reducible refine stop_mark_B ?_) | (with_reducible refine stop_buildSlice ?_))
          refine (wbytes_any w9 gb h9 F hSr.wb.wr (by omega)).mono ?_
          rintro e w10 ⟨p10, rfl, hp10, hb10⟩
          have hS10 := hSr.alloc hb10
          have hp10 : Sl w10 (fun b => w9.heap.size ≤ b ∧ b < w10.heap.size) F p10 := hp10.sl (fun _ h _ => h.elim) fun b hb => hp10.ge b hb
          have hs10 := hb10.size
          have hg9 := hSr.wb.wr.lt
          have hr9 := hSr.wb.wr.row_lt
          clear hb10
          go_wp2_with (first | ((with_reducible apply wpList_unguard); rfl) | (with_reducible refine stop_make ?_) | ((with_reducible apply len_B); assumption) | ((with_reducible apply len_BB); assumption)  | ((with_reducible apply len_N); assumption) | ((with_reducible apply len_V); assumption) | ((with_reducible apply len_VV); assumption)  | (with_reducible refine stop_builtin ?_) | (with_reducible refine stop_slice ?_) | (with_reducible refine stop_index_B ?_) | (with_reducible refine stop_index_BB ?_)  | (with_reducible refine stop_index_N ?_) | (with_reducible refine stop_index_V ?_) | (with_reducible refine stop_index_VV ?_)  | (with_reducible refine stop_str_B ?_) | (with_reducible refine stop_mark_B ?_) | (with_reducible refine stop_buildSlice ?_))
          refine (copy_any w10 _ F p10 hp10 (by omega)).mono ?_
          rintro e w11 ⟨p11, rfl, hp11, hb11⟩
          have hS11 := hS10.alloc hb11
          have hK11 : Sl w11 (fun b => w10.heap.size ≤ b ∧ b < w11.heap.size) F p11 := hp11.sl (fun _ h _ => h.elim) fun b hb => hp11.ge b hb
          have hp11 := hp10.below hb11 (Nat.le_refl _)
          have hs11 := hb11.size
          clear hb11 hp10
          have c3 := hS11.it.cells.2.2.2.1
          have hv11 := hv1.below hS11.below (Nat.le_refl _)
          go_wp2_with (first | ((with_reducible apply wpList_unguard); rfl) | (with_reducible refine stop_make ?_) | ((with_reducible apply len_B); assumption) | ((with_reducible apply len_BB); assumption)  | ((with_reducible apply len_N); assumption) | ((with_reducible apply len_V); assumption) | ((with_reducible apply len_VV); assumption)  | (with_reducible refine stop_builtin ?_) | (with_reducible refine stop_slice ?_) | (with_reducible refine stop_index_B ?_) | (with_reducible refine stop_index_BB ?_)  | (with_reducible refine stop_index_N ?_) | (with_reducible refine stop_index_V ?_) | (with_reducible refine stop_index_VV ?_)  | (with_reducible refine stop_str_B ?_) | (with_reducible refine stop_mark_B ?_) | (with_reducible refine stop_buildSlice ?_))
          go_loopg [17, 70] (VS.length + 1) (fun k x i wr => ∃ (j : Nat) (h' : Option Nat), k = VS.length - j + 1 ∧ j ≤ VS.length ∧ i = .int .i64 j ∧ St w1 wr bx (.slice an nn cn) (.slice at' nt ct) (.slice av nv cv) ga h5 LA gb h' (F ++ encVecs (VS.take j)) ∧ Sl wr (fun b => w9.heap.size ≤ b ∧ b < w10.heap.size) F p10 ∧ Sl wr (fun b => w10.heap.size ≤ b ∧ b < w11.heap.size) F p11 ∧ (∀ k, h' = some k → ¬ (w9.heap.size ≤ k ∧ k < w11.heap.size)) ∧ w11.heap.size ≤ wr.heap.size)
          case atStart => exact ⟨0, h9, by omega, by omega, rfl, by simpa [encVecs] using hS11, hp11, hK11, fun k hk => by have := hr9 k hk; omega, Nat.le_refl _⟩
          case round =>
            obtain ⟨j, h', hk, hj, rfl, hSr, hpr, hKr, hgap, hsr⟩ := hrel
            have Hk := Lib.hid hk
            clear hk c3 hv11 hS11 hS10 hp11 hK11
            have hvr := hv1.below hSr.below (Nat.le_refl _)
            have hlen : (F ++ encVecs (VS.take j)).length ≤ 800 := by
              have := encVecs_len 12 (by decide) (VS.take j) (fun t ht => HVe.out t (List.mem_of_mem_take ht))
              rw [List.length_take] at this
              rw [List.length_append]; omega
            by_cases hlt : j < VS.length
            · go_wp2_with (first | ((with_reducible apply wpList_unguard); rfl) | (with_reducible refine stop_make ?_) | ((with_reducible apply len_B); assumption) | ((with_reducible apply len_BB); assumption)  | ((with_reducible apply len_N); assumption) | ((with_reducible apply len_V); assumption) | ((with_reducible apply len_VV); assumption)  | (with_reducible refine stop_builtin ?_) | (with_reducible refine stop_slice ?_) | (with_reducible refine stop_index_B ?_) | (with_reducible refine stop_index_BB ?_)  | (with_reducible refine stop_index_N ?_) | (with_reducible refine stop_index_V ?_) | (with_reducible refine stop_index_VV ?_)  | (with_reducible refine stop_str_B ?_) | (with_reducible refine stop_mark_B ?_) | (with_reducible refine stop_buildSlice ?_))
              refine Stop.go (idx_VV hvr rfl (by omega) (by omega) fun b6 o6 y u6 hy hu hcell => ?_)
              have Hy := Lib.hid hy
              have hyl : y.length ≤ 12 := HVe.out y (List.mem_of_getElem? hy)
              clear hy
              go_wp2_with (first | ((with_reducible apply wpList_unguard); rfl) | (with_reducible refine stop_make ?_) | ((with_reducible apply len_B); assumption) | ((with_reducible apply len_BB); assumption)  | ((with_reducible apply len_N); assumption) | ((with_reducible apply len_V); assumption) | ((with_reducible apply len_VV); assumption)  | (with_reducible refine stop_builtin ?_) | (with_reducible refine stop_slice ?_) | (with_reducible refine stop_index_B ?_) | (with_reducible refine stop_index_BB ?_)  | (with_reducible refine stop_index_N ?_) | (with_reducible refine stop_index_V ?_) | (with_reducible refine stop_index_VV ?_)  | (with_reducible refine stop_str_B ?_) | (with_reducible refine stop_mark_B ?_) | (with_reducible refine stop_buildSlice ?_))
              refine Stop.go (build_VV (S := (· < w1.heap.size)) [y] [u6] rfl rfl ⟨_, _, rfl, ⟨u6, rfl, hu⟩, rfl⟩ (by simp) fun q7 w7 k1 k2 k3 k4 => ?_)
              have hS7 := hSr.alloc (below_of_grown k2 (Nat.le_refl _) (by simp))
              have hq7 : Sl w7 (fun b => b < w1.heap.size ∨ b = wr.heap.size) [y] q7 := k1.sl (fun b h _ => .inl h) (fun b hb => .inr (by rw [k3] at hb; exact (Option.some.inj hb).symm))
              have hnew := hSr.new (w' := w7) (by omega)
              have hp7 := hpr.grown0 k2
              have hK7 := hKr.grown0 k2
              clear k1 k2 k3 hcell hpr hKr
              go_wp2_with (first | ((with_reducible apply wpList_unguard); rfl) | (with_reducible refine stop_make ?_) | ((with_reducible apply len_B); assumption) | ((with_reducible apply len_BB); assumption)  | ((with_reducible apply len_N); assumption) | ((with_reducible apply len_V); assumption) | ((with_reducible apply len_VV); assumption)  | (with_reducible refine stop_builtin ?_) | (with_reducible refine stop_slice ?_) | (with_reducible refine stop_index_B ?_) | (with_reducible refine stop_index_BB ?_)  | (with_reducible refine stop_index_N ?_) | (with_reducible refine stop_index_V ?_) | (with_reducible refine stop_index_VV ?_)  | (with_reducible refine stop_str_B ?_) | (with_reducible refine stop_mark_B ?_) | (with_reducible refine stop_buildSlice ?_))
              refine (wvecs_any w7 gb h' _ _ [y] q7 hS7.wb.wr hq7 (by rintro b (h | rfl); exact hS7.free b h; exact hnew) (by omega) (by simp) (by intro t ht; simp at ht; subst ht; omega)).mono ?_
              rintro e w8 ⟨rfl, h8, a1, a2⟩
              have hS8 := hS7.write a1 a2
              have hp8 := hp7.only a2.2 (by rintro b ⟨h1, h2⟩ _ (e | e); omega; have := hgap b e; omega)
              have hK8 := hK7.only a2.2 (by rintro b ⟨h1, h2⟩ _ (e | e); omega; have := hgap b e; omega)
              have hgap8 := a2.gap hgap (by omega)
              have hs8 := a2.2.size
              go_wp2_with (first | ((with_reducible apply wpList_unguard); rfl) | (with_reducible refine stop_make ?_) | ((with_reducible apply len_B); assumption) | ((with_reducible apply len_BB); assumption)  | ((with_reducible apply len_N); assumption) | ((with_reducible apply len_V); assumption) | ((with_reducible apply len_VV); assumption)  | (with_reducible refine stop_builtin ?_) | (with_reducible refine stop_slice ?_) | (with_reducible refine stop_index_B ?_) | (with_reducible refine stop_index_BB ?_)  | (with_reducible refine stop_index_N ?_) | (with_reducible refine stop_index_V ?_) | (with_reducible refine stop_index_VV ?_)  | (with_reducible refine stop_str_B ?_) | (with_reducible refine stop_mark_B ?_) | (with_reducible refine stop_buildSlice ?_))
              go_roundg (VS.length - (j + 1) + 1)
              case measure => have := Hk.out; omega
              case rel =>
                have e := flatMap_snoc encVec VS j y (by simpa using Hy.out)
                have e2 : encVecs (VS.take (j + 1)) = encVecs (VS.take j) ++ encVecs [y] := by
                  rw [show encVecs [y] = encVec y by simp [encVecs]]; exact e
                refine ⟨j + 1, h8, by omega, by omega, by go_num, ?_, hp8, hK8, hgap8, by omega⟩
                rw [e2, ← List.append_assoc]
                exact hS8
            · rw [List.take_of_length_le (by omega), ← HLF.out] at hSr
              obtain ⟨w12, rfl⟩ : ∃ w12, w12 = wr := ⟨_, rfl⟩
              clear hvr hlen
              go_wp2_with (first | ((with_reducible apply wpList_unguard); rfl) | (with_reducible refine stop_make ?_) | ((with_reducible apply len_B); assumption) | ((with_reducible apply len_BB); assumption)  | ((with_reducible apply len_N); assumption) | ((with_reducible apply len_V); assumption) | ((with_reducible apply len_VV); assumption)  | (with_reducible refine stop_builtin ?_) | (with_reducible refine stop_slice ?_) | (with_reducible refine stop_index_B ?_) | (with_reducible refine stop_index_BB ?_)  | (with_reducible refine stop_index_N ?_) | (with_reducible refine stop_index_V ?_) | (with_reducible refine stop_index_VV ?_)  | (with_reducible refine stop_str_B ?_) | (with_reducible refine stop_mark_B ?_) | (with_reducible refine stop_buildSlice ?_))
              refine (wbytes_any w12 ga h5 LA hSr.wa.wr (by omega)).mono ?_
              rintro e w13 ⟨p13, rfl, hp13, hb⟩
              have hS13 := hSr.alloc hb
              have hp13 := hp13.sl'.old
              have hx13 := hpr.below hb (by omega)
              have hK13 := hKr.below hb (by omega)
              clear hb hSr hpr hKr
              go_wp2_with (first | ((with_reducible apply wpList_unguard); rfl) | (with_reducible refine stop_make ?_) | ((with_reducible apply len_B); assumption) | ((with_reducible apply len_BB); assumption)  | ((with_reducible apply len_N); assumption) | ((with_reducible apply len_V); assumption) | ((with_reducible apply len_VV); assumption)  | (with_reducible refine stop_builtin ?_) | (with_reducible refine stop_slice ?_) | (with_reducible refine stop_index_B ?_) | (with_reducible refine stop_index_BB ?_)  | (with_reducible refine stop_index_N ?_) | (with_reducible refine stop_index_V ?_) | (with_reducible refine stop_index_VV ?_)  | (with_reducible refine stop_str_B ?_) | (with_reducible refine stop_mark_B ?_) | (with_reducible refine stop_buildSlice ?_))
              refine (wbytes_any w13 gb h' LA hS13.wb.wr (by omega)).mono ?_
              rintro e w14 ⟨p14, rfl, hp14, hb⟩
              have hS14 := hS13.alloc hb
              have hp14 := hp14.sl'.old
              have hy14 := hp13.below hb (Nat.le_refl _)
              have hx14 := hx13.below hb (Nat.le_refl _)
              have hK14 := hK13.below hb (Nat.le_refl _)
              clear hb hS13 hp13 hx13 hK13
              go_wp2_with (first | ((with_reducible apply wpList_unguard); rfl) | (with_reducible refine stop_make ?_) | ((with_reducible apply len_B); assumption) | ((with_reducible apply len_BB); assumption)  | ((with_reducible apply len_N); assumption) | ((with_reducible apply len_V); assumption) | ((with_reducible apply len_VV); assumption)  | (with_reducible refine stop_builtin ?_) | (with_reducible refine stop_slice ?_) | (with_reducible refine stop_index_B ?_) | (with_reducible refine stop_index_BB ?_)  | (with_reducible refine stop_index_N ?_) | (with_reducible refine stop_index_V ?_) | (with_reducible refine stop_index_VV ?_)  | (with_reducible refine stop_str_B ?_) | (with_reducible refine stop_mark_B ?_) | (with_reducible refine stop_buildSlice ?_))
              refine (same_any w14 _ _ _ _ p13 p14 hy14 hp14).mono ?_
              rintro e w' ⟨rfl, rfl⟩
              rw [beq_self_eq_true]
              go_wp2_with (first | ((with_reducible apply wpList_unguard); rfl) | (with_reducible refine stop_make ?_) | ((with_reducible apply len_B); assumption) | ((with_reducible apply len_BB); assumption)  | ((with_reducible apply len_N); assumption) | ((with_reducible apply len_V); assumption) | ((with_reducible apply len_VV); assumption)  | (with_reducible refine stop_builtin ?_) | (with_reducible refine stop_slice ?_) | (with_reducible refine stop_index_B ?_) | (with_reducible refine stop_index_BB ?_)  | (with_reducible refine stop_index_N ?_) | (with_reducible refine stop_index_V ?_) | (with_reducible refine stop_index_VV ?_)  | (with_reducible refine stop_str_B ?_) | (with_reducible refine stop_mark_B ?_) | (with_reducible refine stop_buildSlice ?_))
              refine (same_any w14 _ _ _ _ p10 p11 hx14 hK14).mono ?_
              rintro e w' ⟨rfl, rfl⟩
              rw [beq_self_eq_true]
              go_wp2_with (first | ((with_reducible apply wpList_unguard); rfl) | (with_reducible refine stop_make ?_) | ((with_reducible apply len_B); assumption) | ((with_reducible apply len_BB); assumption)  | ((with_reducible apply len_N); assumption) | ((with_reducible apply len_V); assumption) | ((with_reducible apply len_VV); assumption)  | (with_reducible refine stop_builtin ?_) | (with_reducible refine stop_slice ?_) | (with_reducible refine stop_index_B ?_) | (with_reducible refine stop_index_BB ?_)  | (with_reducible refine stop_index_N ?_) | (with_reducible refine stop_index_V ?_) | (with_reducible refine stop_index_VV ?_)  | (with_reducible refine stop_str_B ?_) | (with_reducible refine stop_mark_B ?_) | (with_reducible refine stop_buildSlice ?_))
              refine (wbytes_any w14 gb h' LA hS14.wb.wr (by omega)).mono ?_
              rintro e w15 ⟨p15, rfl, hp15, hb⟩
              have hS15 := hS14.alloc hb
              have hp15 := hp15.sl'.old
              have hx15 := hx14.below hb (Nat.le_refl _)
              clear hb hS14 hp14 hy14 hx14 hK14
              go_wp2_with (first | ((with_reducible apply wpList_unguard); rfl) | (with_reducible refine stop_make ?_) | ((with_reducible apply len_B); assumption) | ((with_reducible apply len_BB); assumption)  | ((with_reducible apply len_N); assumption) | ((with_reducible apply len_V); assumption) | ((with_reducible apply len_VV); assumption)  | (with_reducible refine stop_builtin ?_) | (with_reducible refine stop_slice ?_) | (with_reducible refine stop_index_B ?_) | (with_reducible refine stop_index_BB ?_)  | (with_reducible refine stop_index_N ?_) | (with_reducible refine stop_index_V ?_) | (with_reducible refine stop_index_VV ?_)  | (with_reducible refine stop_str_B ?_) | (with_reducible refine stop_mark_B ?_) | (with_reducible refine stop_buildSlice ?_))
              refine Stop.go (wpList_slice_h rowB hp15 rfl (by omega) (by rw [HLF.out, List.length_append]; omega) fun d hd => ?_)
              have e1 : LA.take (F.length : Int).toNat = F := by rw [HLF.out]; simp
              rw [e1] at hd
              clear e1
              go_wp2_with (first | ((with_reducible apply wpList_unguard); rfl) | (with_reducible refine stop_make ?_) | ((with_reducible apply len_B); assumption) | ((with_reducible apply len_BB); assumption)  | ((with_reducible apply len_N); assumption) | ((with_reducible apply len_V); assumption) | ((with_reducible apply len_VV); assumption)  | (with_reducible refine stop_builtin ?_) | (with_reducible refine stop_slice ?_) | (with_reducible refine stop_index_B ?_) | (with_reducible refine stop_index_BB ?_)  | (with_reducible refine stop_index_N ?_) | (with_reducible refine stop_index_V ?_) | (with_reducible refine stop_index_VV ?_)  | (with_reducible refine stop_str_B ?_) | (with_reducible refine stop_mark_B ?_) | (with_reducible refine stop_buildSlice ?_))
              refine (same_any w15 _ _ _ _ d p10 hd hx15).mono ?_
              rintro e w' ⟨rfl, rfl⟩
              rw [beq_self_eq_true]
              go_wp2_with (first | ((with_reducible apply wpList_unguard); rfl) | (with_reducible refine stop_make ?_) | ((with_reducible apply len_B); assumption) | ((with_reducible apply len_BB); assumption)  | ((with_reducible apply len_N); assumption) | ((with_reducible apply len_V); assumption) | ((with_reducible apply len_VV); assumption)  | (with_reducible refine stop_builtin ?_) | (with_reducible refine stop_slice ?_) | (with_reducible refine stop_index_B ?_) | (with_reducible refine stop_index_BB ?_)  | (with_reducible refine stop_index_N ?_) | (with_reducible refine stop_index_V ?_) | (with_reducible refine stop_index_VV ?_)  | (with_reducible refine stop_str_B ?_) | (with_reducible refine stop_mark_B ?_) | (with_reducible refine stop_buildSlice ?_))
              go_ret
              exact ⟨rfl, below_on hb1 hS15.below hb1.size⟩
end Go.Proofs.Ytfgagfemhmcdfaa
