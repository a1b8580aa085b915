/- bytes.Join, with nothing between. -/
import Derived.Test.YtnkbfelnggompaaDoorKit
import Derived.Test.YtnkbfelnggompaaDoorBits
namespace Go.Proofs.YtnkbfelnggompaaDoor
open Go Go.RowKit Go.Arm

theorem makeNoZero_run (w : World) (n : Nat) (hn : n ≤ 281474976710656) : ∃ cs : Array Value, (callFunc 89 #[.int .i64 (n : Int)]).run Tryd.prog w = .ok (.value (.slice (some ⟨w.heap.size, 0, none⟩) n cs.size)) (w.drew.drew.alloc (.cells cs 5)) ∧ n ≤ cs.size := by
  obtain ⟨cs, hrun, hle, _⟩ := Lib.run_makeNoZero (P := Tryd.prog) w #[3] 45 5 Tryd.underlying45 n hn
  refine ⟨cs, ?_, hle⟩
  rw [run_callFunc_extern Tryd.func89 (by kernel_rfl) (by kernel_rfl) (by kernel_rfl) (e := Extern.BytealgMakeNoZero.makeNoZero #[3] #[45]) (by kernel_rfl), hrun]
  rfl

set_option maxRecDepth 100000 in
theorem join_any (w : World) (S : Nat → Prop) (ll : List (List UInt8)) (p : Value) (hp : Sl w S ll p) (hl : ll.length ≤ 1000000) (hf : ll.flatten.length ≤ 1099511627776) :
    Calls Tryd.prog 76 #[p, .slice none 0 0] w fun e w' => ∃ v, e = .returned v ∧ OwnB w' w.heap.size ll.flatten v ∧ Below w.heap.size w w' := by
  rcases ll with _ | ⟨l0, ll⟩
  · go_enter Tryd.func76, Tryd.ntmps76
    go_wp2_with (first | ((with_reducible apply wpList_unguard); rfl) | ((with_reducible apply len_B); assumption) | ((with_reducible apply len_BB); assumption)  | (with_reducible refine stop_builtin ?_) | (with_reducible refine stop_slice ?_) | (with_reducible refine stop_index_B ?_) | (with_reducible refine stop_index_BB ?_)  | (with_reducible refine stop_str_B ?_) | (with_reducible refine stop_mark_B ?_) | (with_reducible refine stop_buildSlice ?_))
    refine Stop.go (empty_B fun v hv1 hv2 => ?_)
    have hb0 := (Below.refl w.heap.size w).alloc (Nat.le_refl _) (.cells #[] 5)
    generalize w.alloc (.cells #[] 5) = w1 at *
    go_wp2_with (first | ((with_reducible apply wpList_unguard); rfl) | ((with_reducible apply len_B); assumption) | ((with_reducible apply len_BB); assumption)  | (with_reducible refine stop_builtin ?_) | (with_reducible refine stop_slice ?_) | (with_reducible refine stop_index_B ?_) | (with_reducible refine stop_index_BB ?_)  | (with_reducible refine stop_str_B ?_) | (with_reducible refine stop_mark_B ?_) | (with_reducible refine stop_buildSlice ?_))
    go_ret
    exact ⟨v, rfl, hv1, hb0⟩
  · rcases ll with _ | ⟨l1, ll⟩
    · have hlen : (([l0] : List (List UInt8)).length : Int) = 1 := rfl
      go_enter Tryd.func76, Tryd.ntmps76
      go_wp2_with (first | ((with_reducible apply wpList_unguard); rfl) | ((with_reducible apply len_B); assumption) | ((with_reducible apply len_BB); assumption)  | (with_reducible refine stop_builtin ?_) | (with_reducible refine stop_slice ?_) | (with_reducible refine stop_index_B ?_) | (with_reducible refine stop_index_BB ?_)  | (with_reducible refine stop_str_B ?_) | (with_reducible refine stop_mark_B ?_) | (with_reducible refine stop_buildSlice ?_))
      refine Stop.go (idx_BB hp rfl (by omega) (by simp) fun b o y u hy hq hc => ?_)
      obtain rfl : l0 = y := by simpa using hy
      clear hy
      go_wp2_with (first | ((with_reducible apply wpList_unguard); rfl) | ((with_reducible apply len_B); assumption) | ((with_reducible apply len_BB); assumption)  | (with_reducible refine stop_builtin ?_) | (with_reducible refine stop_slice ?_) | (with_reducible refine stop_index_B ?_) | (with_reducible refine stop_index_BB ?_)  | (with_reducible refine stop_str_B ?_) | (with_reducible refine stop_mark_B ?_) | (with_reducible refine stop_buildSlice ?_))
      refine Stop.go (app_B (l := []) (B := w.heap.size) (Own.nil _ _ _ _) hq (by simp at hf ⊢; omega) (Nat.le_refl _) fun v' w2 h1 h2 h3 => ?_)
      go_wp2_with (first | ((with_reducible apply wpList_unguard); rfl) | ((with_reducible apply len_B); assumption) | ((with_reducible apply len_BB); assumption)  | (with_reducible refine stop_builtin ?_) | (with_reducible refine stop_slice ?_) | (with_reducible refine stop_index_B ?_) | (with_reducible refine stop_index_BB ?_)  | (with_reducible refine stop_str_B ?_) | (with_reducible refine stop_mark_B ?_) | (with_reducible refine stop_buildSlice ?_))
      go_ret
      exact ⟨v', rfl, by simpa using h1, below_of_grown h2 (Nat.le_refl _) (fun k hk => by cases hk)⟩
    · obtain ⟨lt, hlt⟩ : ∃ lt, lt = l1 :: ll := ⟨_, rfl⟩
      rw [← hlt] at hp hl hf ⊢
      have hl2 : 0 < lt.length := by rw [hlt]; simp
      clear hlt
      obtain ⟨la, hla⟩ : ∃ la, la = l0 :: lt := ⟨_, rfl⟩
      have hla2 : la.length = lt.length + 1 := by rw [hla]; simp
      rw [← hla] at hp hl hf ⊢
      have Hla := Lib.hid hla
      have Hla2 := Lib.hid hla2
      have hla3 : 2 ≤ la.length := by omega
      clear hla hla2 l1 ll
      have hz0 : ((la.length : Int) == 0) = false := beq_eq_false_iff_ne.2 (by omega)
      have hz1 : ((la.length : Int) == 1) = false := beq_eq_false_iff_ne.2 (by omega)
      obtain ⟨N, hN⟩ : ∃ N, N = la.flatten.length := ⟨_, rfl⟩
      rw [← hN] at hf
      have HN := Lib.hid hN
      clear hN
      have hsep : Sl w (fun _ => False) ([] : List UInt8) (.slice none 0 0) := Sl.nil w _
      replace hp := hp.old
      obtain ⟨cs, hcall, hcs⟩ := makeNoZero_run w N (by omega)
      go_enter Tryd.func76, Tryd.ntmps76
      go_wp2_with (first | ((with_reducible apply wpList_unguard); rfl) | ((with_reducible apply len_B); assumption) | ((with_reducible apply len_BB); assumption)  | (with_reducible refine stop_builtin ?_) | (with_reducible refine stop_slice ?_) | (with_reducible refine stop_index_B ?_) | (with_reducible refine stop_index_BB ?_)  | (with_reducible refine stop_str_B ?_) | (with_reducible refine stop_mark_B ?_) | (with_reducible refine stop_buildSlice ?_))
      go_loop [5, 44] (fun n i => ∃ k : Nat, k ≤ la.length ∧ i = .int .i64 k ∧ n = .int .i64 ((la.take k).flatten.length : Int)) (fun _ i => la.length - (intOf i).toNat)
      case atStart => exact ⟨0, Nat.zero_le _, rfl, rfl⟩
      case round =>
        obtain ⟨k, hk, rfl, rfl⟩ := hrel
        by_cases hlt : k < la.length
        · go_wp2_with (first | ((with_reducible apply wpList_unguard); rfl) | ((with_reducible apply len_B); assumption) | ((with_reducible apply len_BB); assumption)  | (with_reducible refine stop_builtin ?_) | (with_reducible refine stop_slice ?_) | (with_reducible refine stop_index_B ?_) | (with_reducible refine stop_index_BB ?_)  | (with_reducible refine stop_str_B ?_) | (with_reducible refine stop_mark_B ?_) | (with_reducible refine stop_buildSlice ?_))
          refine Stop.go (idx_BB hp rfl (by omega) (by omega) fun b o y u hy hq hc => ?_)
          have hy' : la[k]? = some y := by simpa using hy
          have hsum : (la.take k).flatten.length + y.length ≤ N := flat_take_le la k y hy' N HN.out
          have Hy := Lib.hid hy'
          clear hy hy'
          obtain ⟨m, hm⟩ : ∃ m, m = (la.take k).flatten.length := ⟨_, rfl⟩
          rw [← hm] at hsum ⊢
          have Hm := Lib.hid hm
          clear hm
          go_wp2_with (first | ((with_reducible apply wpList_unguard); rfl) | ((with_reducible apply len_B); assumption) | ((with_reducible apply len_BB); assumption)  | (with_reducible refine stop_builtin ?_) | (with_reducible refine stop_slice ?_) | (with_reducible refine stop_index_B ?_) | (with_reducible refine stop_index_BB ?_)  | (with_reducible refine stop_str_B ?_) | (with_reducible refine stop_mark_B ?_) | (with_reducible refine stop_buildSlice ?_))
          go_round
          case rel =>
            refine ⟨k + 1, by omega, by go_num, ?_⟩
            rw [take_snoc la k y Hy.out, List.flatten_append, List.length_append, ← Hm.out]
            simp
          case measure => simp [intOf]; omega
        · have hk2 : k = la.length := by omega
          rw [show ((la.take k).flatten.length : Int) = (N : Int) by rw [hk2, List.take_length, HN.out]]
          clear hk2
          go_wp2_with (first | ((with_reducible apply wpList_unguard); rfl) | ((with_reducible apply len_B); assumption) | ((with_reducible apply len_BB); assumption)  | (with_reducible refine stop_builtin ?_) | (with_reducible refine stop_slice ?_) | (with_reducible refine stop_index_B ?_) | (with_reducible refine stop_index_BB ?_)  | (with_reducible refine stop_str_B ?_) | (with_reducible refine stop_mark_B ?_) | (with_reducible refine stop_buildSlice ?_))
          refine Stop.go (wpList_slice_full (ad := ⟨w.heap.size, 0, none⟩) (n := N) rowB rfl rfl rfl hcs ?_)
          have hb0 : Below w.heap.size w ((w.alloc (.cells cs 5)).drew.drew) := ((Below.refl _ _).alloc (Nat.le_refl _) _).drew.drew
          have hg0 : ((w.alloc (.cells cs 5)).drew.drew).heap[w.heap.size]? = some (.cells cs.toList.toArray 5 (0, 0)) := by have h := heap_alloc_new w (.cells cs 5); rw [Array.toArray_toList]; exact h
          have hp1 := hp.below hb0 (Nat.le_refl _)
          generalize (w.alloc (.cells cs 5)).drew.drew = w1 at *
          clear hcall hz0 hz1
          go_wp2_with (first | ((with_reducible apply wpList_unguard); rfl) | ((with_reducible apply len_B); assumption) | ((with_reducible apply len_BB); assumption)  | (with_reducible refine stop_builtin ?_) | (with_reducible refine stop_slice ?_) | (with_reducible refine stop_index_B ?_) | (with_reducible refine stop_index_BB ?_)  | (with_reducible refine stop_str_B ?_) | (with_reducible refine stop_mark_B ?_) | (with_reducible refine stop_buildSlice ?_))
          refine Stop.go (idx_BB hp1 rfl (by omega) (by omega) fun b o y u hy hq hc => ?_)
          have hy0 : y = l0 := by rw [Hla.out] at hy; simpa using hy.symm
          subst hy0
          clear hy
          have hyN := flat_take_le la 0 y (by rw [Hla.out]; rfl) N HN.out
          simp only [List.take_zero, List.flatten_nil, List.length_nil, Nat.zero_add] at hyN
          have hcs2 : cs.toList.length = cs.size := by simp
          go_wp2_with (first | ((with_reducible apply wpList_unguard); rfl) | ((with_reducible apply len_B); assumption) | ((with_reducible apply len_BB); assumption)  | (with_reducible refine stop_builtin ?_) | (with_reducible refine stop_slice ?_) | (with_reducible refine stop_index_B ?_) | (with_reducible refine stop_index_BB ?_)  | (with_reducible refine stop_str_B ?_) | (with_reducible refine stop_mark_B ?_) | (with_reducible refine stop_buildSlice ?_))
          refine Stop.go (wpList_copyB rowB w.heap.size 0 cs.toList hg0 rfl hq (fun _ => rfl) hyN (by omega) fun w2 hg2 hgr2 => ?_)
          have hs1 := hb0.size
          have hlt1 : w.heap.size < w1.heap.size := (Array.getElem?_eq_some_iff.1 hg0).1
          have hb2 := hb0.grown hgr2 (by omega) (fun k hk => by cases hk; exact Nat.le_refl _)
          have hp2 := hp1.grown hgr2 (fun b hb e => by cases e; omega)
          have hg2' : w2.heap[w.heap.size]? = some (.cells (((la.take (0 + 1)).flatten.map fun b => Value.int .u8 (b.toNat : Int)) ++ cs.toList.drop y.length).toArray 5 (0, 0)) := by
            rw [hg2, Hla.out]; simp [splice]
          have hlen0 : (cs.toList.drop y.length).length + y.length = cs.size := by simp; omega
          have hy1 : (y.length : Int) = ((la.take (0 + 1)).flatten.length : Int) := by rw [Hla.out]; simp
          obtain ⟨A0, hA0⟩ : ∃ A0, A0 = (la.take (0 + 1)).flatten := ⟨_, rfl⟩
          rw [← hA0] at hy1 hg2'
          rw [hy1]
          have hlen0' : (cs.toList.drop y.length).length + A0.length = cs.size := by omega
          generalize cs.toList.drop y.length = R0 at *
          clear hg2 hy1 hlen0 hyN hq hc hg0 hp1 hcs2 hlt1 hgr2
          have Hg2 := Lib.hid hg2'
          have Hlen0 := Lib.hid hlen0'
          have HA0 := Lib.hid hA0
          clear hA0
          clear hg2' hlen0'
          go_wp2_with (first | ((with_reducible apply wpList_unguard); rfl) | ((with_reducible apply len_B); assumption) | ((with_reducible apply len_BB); assumption)  | (with_reducible refine stop_builtin ?_) | (with_reducible refine stop_slice ?_) | (with_reducible refine stop_index_B ?_) | (with_reducible refine stop_index_BB ?_)  | (with_reducible refine stop_str_B ?_) | (with_reducible refine stop_mark_B ?_) | (with_reducible refine stop_buildSlice ?_))
          refine Stop.go (wpList_slice_l rowBB hp2 rfl (by omega) (by omega) fun p1 hpt => ?_)
          rw [show la.drop (Int.toNat 1) = lt by rw [Hla.out]; rfl] at hpt
          have hlt3 : lt.length ≤ 1000000 := by have := Hla2.out; omega
          go_wp2_with (first | ((with_reducible apply wpList_unguard); rfl) | ((with_reducible apply len_B); assumption) | ((with_reducible apply len_BB); assumption)  | (with_reducible refine stop_builtin ?_) | (with_reducible refine stop_slice ?_) | (with_reducible refine stop_index_B ?_) | (with_reducible refine stop_index_BB ?_)  | (with_reducible refine stop_str_B ?_) | (with_reducible refine stop_mark_B ?_) | (with_reducible refine stop_buildSlice ?_))
          go_loopw [9, 72] (fun n i wr => ∃ (k : Nat) (R : List Value), k ≤ lt.length ∧ i = .int .i64 k ∧ n = .int .i64 ((la.take (k + 1)).flatten.length : Int) ∧ Hid (wr.heap[w.heap.size]? = some (.cells (((la.take (k + 1)).flatten.map fun b => Value.int .u8 (b.toNat : Int)) ++ R).toArray 5 (0, 0))) ∧ Hid (R.length + (la.take (k + 1)).flatten.length = cs.size) ∧ Below w.heap.size w wr ∧ Below w.heap.size w2 wr) (fun _ i _ => lt.length - (intOf i).toNat)
          case atStart => exact ⟨0, R0, Nat.zero_le _, rfl, by rw [← HA0.out], by rw [← HA0.out]; exact Hg2, by rw [← HA0.out]; exact Hlen0, hb2, Below.refl _ _⟩
          case round =>
            obtain ⟨k, R, hk, rfl, rfl, hg, hR, hbr, hbr2⟩ := hrel
            have hpr : Sl wr (· < w.heap.size) lt p1 := hpt.keep fun b hb _ => ⟨hbr2.block b hb, hb⟩
            by_cases hlt4 : k < lt.length
            · go_wp2_with (first | ((with_reducible apply wpList_unguard); rfl) | ((with_reducible apply len_B); assumption) | ((with_reducible apply len_BB); assumption)  | (with_reducible refine stop_builtin ?_) | (with_reducible refine stop_slice ?_) | (with_reducible refine stop_index_B ?_) | (with_reducible refine stop_index_BB ?_)  | (with_reducible refine stop_str_B ?_) | (with_reducible refine stop_mark_B ?_) | (with_reducible refine stop_buildSlice ?_))
              refine Stop.go (idx_BB hpr rfl (by omega) (by omega) fun b o z q hz hq hc => ?_)
              have hz' : la[k + 1]? = some z := by rw [Hla.out]; simpa using hz
              have hzN := flat_take_le la (k + 1) z hz' N HN.out
              have Hz := Lib.hid hz'
              clear hz hz'
              obtain ⟨A, hA⟩ : ∃ A, A = (la.take (k + 1)).flatten := ⟨_, rfl⟩
              rw [← hA] at hg hR hzN ⊢
              have HA := Lib.hid hA
              clear hA
              have hsz : w.heap.size < wr.heap.size := (Array.getElem?_eq_some_iff.1 hg.out).1
              have hRn := hR.out
              go_wp2_with (first | ((with_reducible apply wpList_unguard); rfl) | ((with_reducible apply len_B); assumption) | ((with_reducible apply len_BB); assumption)  | (with_reducible refine stop_builtin ?_) | (with_reducible refine stop_slice ?_) | (with_reducible refine stop_index_B ?_) | (with_reducible refine stop_index_BB ?_)  | (with_reducible refine stop_str_B ?_) | (with_reducible refine stop_mark_B ?_) | (with_reducible refine stop_buildSlice ?_))
              refine Stop.go (wpList_slice_from (g := w.heap.size) (o := 0) (len := N) (n := A.length) rowB rfl rfl (by omega) fun ao hao => ?_)
              go_wp2_with (first | ((with_reducible apply wpList_unguard); rfl) | ((with_reducible apply len_B); assumption) | ((with_reducible apply len_BB); assumption)  | (with_reducible refine stop_builtin ?_) | (with_reducible refine stop_slice ?_) | (with_reducible refine stop_index_B ?_) | (with_reducible refine stop_index_BB ?_)  | (with_reducible refine stop_str_B ?_) | (with_reducible refine stop_mark_B ?_) | (with_reducible refine stop_buildSlice ?_))
              refine Stop.go (wpList_copyB (l := []) (S := fun _ => False) rowB w.heap.size 0 _ hg.out rfl (Sl.nil _ _) (fun h => by simp at h) (by simp) (by simp) fun w3 hg3 hgr3 => ?_)
              have hg3' : w3.heap[w.heap.size]? = some (.cells ((A.map fun b => Value.int .u8 (b.toNat : Int)) ++ R).toArray 5 (0, 0)) := by rw [hg3]; simp [splice]
              clear hg3
              have Hg3 := Lib.hid hg3'
              clear hg3'
              have hq3 := hq.grown hgr3 (fun b hb e => by cases e; omega)
              go_wp2_with (first | ((with_reducible apply wpList_unguard); rfl) | ((with_reducible apply len_B); assumption) | ((with_reducible apply len_BB); assumption)  | (with_reducible refine stop_builtin ?_) | (with_reducible refine stop_slice ?_) | (with_reducible refine stop_index_B ?_) | (with_reducible refine stop_index_BB ?_)  | (with_reducible refine stop_str_B ?_) | (with_reducible refine stop_mark_B ?_) | (with_reducible refine stop_buildSlice ?_))
              refine Stop.go (wpList_slice_from (g := w.heap.size) (o := 0) (len := N) (n := A.length) rowB rfl rfl (by omega) fun ao2 hao2 => ?_)
              go_wp2_with (first | ((with_reducible apply wpList_unguard); rfl) | ((with_reducible apply len_B); assumption) | ((with_reducible apply len_BB); assumption)  | (with_reducible refine stop_builtin ?_) | (with_reducible refine stop_slice ?_) | (with_reducible refine stop_index_B ?_) | (with_reducible refine stop_index_BB ?_)  | (with_reducible refine stop_str_B ?_) | (with_reducible refine stop_mark_B ?_) | (with_reducible refine stop_buildSlice ?_))
              refine Stop.go (wpList_copyB rowB w.heap.size A.length _ Hg3.out rfl hq3 (fun h => by rw [hao2 (by omega)]; simp) (by omega) (by simp; omega) fun w4 hg4 hgr4 => ?_)
              have hg4' : w4.heap[w.heap.size]? = some (.cells (((A ++ z).map fun b => Value.int .u8 (b.toNat : Int)) ++ R.drop z.length).toArray 5 (0, 0)) := by
                rw [hg4]
                have := splice_end (A.map fun b => Value.int .u8 (b.toNat : Int)) R (z.map fun b => Value.int .u8 (b.toNat : Int))
                simp only [List.length_map] at this
                rw [this, List.map_append]
              clear hg4
              have Hg4 := Lib.hid hg4'
              clear hg4'
              have hs3 := hgr3.size
              have hb4 : Below w.heap.size wr w4 := ((Below.refl _ _).grown hgr3 (by omega) (fun k hk => by cases hk; exact Nat.le_refl _)).grown hgr4 (by omega) (fun k hk => by cases hk; exact Nat.le_refl _)
              go_wp2_with (first | ((with_reducible apply wpList_unguard); rfl) | ((with_reducible apply len_B); assumption) | ((with_reducible apply len_BB); assumption)  | (with_reducible refine stop_builtin ?_) | (with_reducible refine stop_slice ?_) | (with_reducible refine stop_index_B ?_) | (with_reducible refine stop_index_BB ?_)  | (with_reducible refine stop_str_B ?_) | (with_reducible refine stop_mark_B ?_) | (with_reducible refine stop_buildSlice ?_))
              go_roundw
              case rel =>
                have e : (la.take (k + 1 + 1)).flatten = A ++ z := by rw [take_snoc la (k + 1) z Hz.out, List.flatten_append, ← HA.out]; simp
                refine ⟨k + 1, R.drop z.length, by omega, by go_num, ?_, by rw [e]; exact Hg4, ?_, hbr.trans hb4, hbr2.trans hb4⟩
                · rw [e]; simp
                · rw [e]; show _ = _; simp; omega
              case measure => simp [intOf]; omega
            · go_wp2_with (first | ((with_reducible apply wpList_unguard); rfl) | ((with_reducible apply len_B); assumption) | ((with_reducible apply len_BB); assumption)  | (with_reducible refine stop_builtin ?_) | (with_reducible refine stop_slice ?_) | (with_reducible refine stop_index_B ?_) | (with_reducible refine stop_index_BB ?_)  | (with_reducible refine stop_str_B ?_) | (with_reducible refine stop_mark_B ?_) | (with_reducible refine stop_buildSlice ?_))
              go_ret
              have e : la.take (k + 1) = la := List.take_of_length_le (by have := Hla2.out; omega)
              rw [e] at hg hR
              have hN := HN.out
              obtain ⟨F, hF⟩ : ∃ F, F = la.flatten := ⟨_, rfl⟩
              rw [← hF] at hg hR hN ⊢
              have h2 := hR.out
              refine ⟨_, rfl, ⟨F.map fun b => Value.int .u8 (b.toNat : Int), rds_u8_cells.2 rfl, .inr ⟨w.heap.size, 0, N, _, by rw [← hN]; rfl, Nat.le_refl _, hg.out, by omega, by simp only [maxLen]; omega, ?_, ?_⟩⟩, hbr⟩
              · have e1 : N * Rep.sz UInt8 = N := Nat.mul_one _
                simp; omega
              · have e1 : F.length * Rep.sz UInt8 = (F.map fun b => Value.int .u8 (b.toNat : Int)).length := by rw [List.length_map]; exact Nat.mul_one _
                rw [e1, List.drop_zero]
                exact List.take_left

end Go.Proofs.YtnkbfelnggompaaDoor
