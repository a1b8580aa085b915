/- From a row's readings of its arguments to notes. -/
import Derived.Test.YtnkbfelnggompaaDoorNoteCardKit
import Derived.Test.YtnkbfelnggompaaDoorNoteHeld
namespace Go.Proofs.YtnkbfelnggompaaDoor
open Go Go.RowKit Go.Arm Go.ChangeShapes Go.WideShapes Go.ChangeAt

theorem cellsU64 : Tryd.prog.cellsOf 23 = 1 := by kernel_rfl
theorem cellsI32 : Tryd.prog.cellsOf 21 = 1 := by kernel_rfl
theorem cellsV : Tryd.prog.cellsOf 27 = 1 := by kernel_rfl
theorem cellsP : Tryd.prog.cellsOf 25 = 1 := by kernel_rfl
theorem cellsO : Tryd.prog.cellsOf 26 = 1 := by kernel_rfl
theorem cellsH : Tryd.prog.cellsOf 28 = 1 := by kernel_rfl
theorem cellsOp : Tryd.prog.cellsOf 32 = 2 := by kernel_rfl
theorem cellsHit : Tryd.prog.cellsOf 34 = 3 := by kernel_rfl
theorem cellsErr : Tryd.prog.cellsOf 24 = 1 := by kernel_rfl
theorem cellsNote : Tryd.prog.cellsOf 30 = 16 := by kernel_rfl

theorem u8_of {z : Int} (h0 : 0 ≤ z) (h1 : z ≤ 255) : ∃ x : UInt8, z = (x.toNat : Int) :=
  ⟨UInt8.ofNat z.toNat, by rw [UInt8.toNat_ofNat_of_lt' (by show z.toNat < 256; omega)]; omega⟩
theorem u64_of' {z : Int} (h0 : 0 ≤ z) (h1 : z ≤ 18446744073709551615) : ∃ x : UInt64, z = (x.toNat : Int) :=
  ⟨UInt64.ofNat z.toNat, by rw [UInt64.toNat_ofNat_of_lt' (by show z.toNat < 18446744073709551616; omega)]; omega⟩
theorem i32_of {z : Int} (h0 : -2147483648 ≤ z) (h1 : z ≤ 2147483647) : ∃ x : Int32, z = x.toInt :=
  ⟨Int32.ofInt z, (Int32.toInt_ofInt_of_le h0 (by simp; omega)).symm⟩

theorem noteV_agg' (n : NoteR) (vp vo vv vh : Value) : noteV n vp vo vv vh = .agg (noteV n vp vo vv vh).cells := rfl
section
variable {H : Type} {enc : TypeId × Value → H} {w : World} {base : Nat} {spare : Nat → Bool} {held : Bool}
theorem slice_one {t e : TypeId} {n : Nat} {cs : List Value} {y : DataW H × List MemPlace} (ht : Tryd.prog.underlying t = some (.slice e)) (h : DataW.trod enc Tryd.prog w base spare held n t cs = some y) : ∃ u, cs = [u] := by
  rcases DataW.trod_slice ht h with ⟨rfl, _⟩ | ⟨_, _, _, _, _, _, _, rfl, _⟩ <;> exact ⟨_, rfl⟩
/-- A slice of whole numbers. -/
theorem open_i32s_at {t e : TypeId} {fuel : Nat} {v : Value} {x : DataW H × List MemPlace} (ht : Tryd.prog.underlying t = some (.slice e)) (he : Tryd.prog.underlying e = some (.int .i32)) (hc : Tryd.prog.cellsOf e = 1)
    (h : DataW.trod enc Tryd.prog w base spare held fuel t [v] = some x) : ∃ l : List Int32, Sl w (· < w.heap.size) l v := by
  refine sl_open ht hc h fun n cs' y hy => ?_
  obtain ⟨z, rfl, _, hz⟩ := DataW.trod_int he hy
  have hb := bounds_i32 hz
  obtain ⟨u, rfl⟩ := i32_of hb.1 hb.2
  exact ⟨u, rfl⟩
theorem open_ints_at {t e : TypeId} {fuel : Nat} {v : Value} {x : DataW H × List MemPlace} (ht : Tryd.prog.underlying t = some (.slice e)) (he : Tryd.prog.underlying e = some (.int .i64)) (hc : Tryd.prog.cellsOf e = 1)
    (h : DataW.trod enc Tryd.prog w base spare held fuel t [v] = some x) : ∃ l : List Int, Sl w (· < w.heap.size) l v := by
  refine sl_open ht hc h fun n cs' y hy => ?_
  obtain ⟨z, rfl, _, hz⟩ := DataW.trod_int he hy
  have hb := bounds_i64 hz
  exact ⟨z, rfl, hb.1, hb.2⟩
set_option maxRecDepth 100000 in
theorem open_ops_at {fuel : Nat} {v : Value} {x : DataW H × List MemPlace} (h : DataW.trod enc Tryd.prog w base spare held fuel 26 [v] = some x) : ∃ l : List OpR, Sl w (· < w.heap.size) l v := by
  refine sl_open Tryd.underlying26 cellsOp h fun n cs' y hy => ?_
  obtain ⟨xs, n, rfl, rfl, hl, hlen, hf⟩ := DataW.trod_struct Tryd.underlying32 hy
  rw [cellsOp] at hl
  match cs', hl with
  | [c0, c1], _ =>
    match xs, hlen with
    | [y0, y1], _ =>
      have k0 : DataW.trod enc Tryd.prog w base spare held n 23 [c0] = some y0 := by simpa [cellsU64] using hf 0 _ rfl
      have k1 : DataW.trod enc Tryd.prog w base spare held n 27 [c1] = some y1 := by simpa [cellsV] using hf 1 _ rfl
      obtain ⟨z0, e0, _, hz0⟩ := DataW.trod_int Tryd.underlying23 k0
      simp only [List.cons.injEq, and_true] at e0
      subst e0
      have b0 := bounds_u64 hz0
      obtain ⟨u0, rfl⟩ := u64_of' b0.1 b0.2
      obtain ⟨vs, hvs⟩ := open_i32s_at Tryd.underlying27 Tryd.underlying21 cellsI32 k1
      exact ⟨⟨u0, vs⟩, c1, rfl, hvs⟩
set_option maxRecDepth 100000 in
theorem open_hits_at {fuel : Nat} {v : Value} {x : DataW H × List MemPlace} (h : DataW.trod enc Tryd.prog w base spare held fuel 28 [v] = some x) : ∃ l : List HitR, Sl w (· < w.heap.size) l v := by
  refine sl_open Tryd.underlying28 cellsHit h fun n cs' y hy => ?_
  obtain ⟨xs, n, rfl, rfl, hl, hlen, hf⟩ := DataW.trod_struct Tryd.underlying34 hy
  rw [cellsHit] at hl
  match cs', hl with
  | [c0, c1, c2], _ =>
    match xs, hlen with
    | [y0, y1, y2], _ =>
      have k0 : DataW.trod enc Tryd.prog w base spare held n 23 [c0] = some y0 := by simpa [cellsU64] using hf 0 _ rfl
      have k1 : DataW.trod enc Tryd.prog w base spare held n 23 [c1] = some y1 := by simpa [cellsU64] using hf 1 _ rfl
      have k2 : DataW.trod enc Tryd.prog w base spare held n 27 [c2] = some y2 := by simpa [cellsV] using hf 2 _ rfl
      obtain ⟨z0, e0, _, hz0⟩ := DataW.trod_int Tryd.underlying23 k0
      obtain ⟨z1, e1, _, hz1⟩ := DataW.trod_int Tryd.underlying23 k1
      simp only [List.cons.injEq, and_true] at e0 e1
      subst e0
      subst e1
      have b0 := bounds_u64 hz0
      have b1 := bounds_u64 hz1
      obtain ⟨u0, rfl⟩ := u64_of' b0.1 b0.2
      obtain ⟨u1, rfl⟩ := u64_of' b1.1 b1.2
      obtain ⟨vs, hvs⟩ := open_i32s_at Tryd.underlying27 Tryd.underlying21 cellsI32 k2
      exact ⟨⟨u0, u1, vs⟩, c2, rfl, hvs⟩
set_option maxRecDepth 100000 in
/-- The cells of a note. -/
theorem open_note_at {fuel : Nat} {cs : List Value} {x : DataW H × List MemPlace} (h : DataW.trod enc Tryd.prog w base spare held fuel 30 cs = some x) : ∃ (n : NoteR) (vp vo vv vh : Value), cs = (noteV n vp vo vv vh).cells.toList ∧ Nt w (· < w.heap.size) n (noteV n vp vo vv vh) := by
  obtain ⟨xs, n, rfl, rfl, hl, hlen, hf⟩ := DataW.trod_struct Tryd.underlying30 h
  rw [cellsNote] at hl
  match cs, hl with
  | [c0, c1, c2, c3, c4, c5, c6, c7, c8, c9, c10, c11, c12, c13, c14, c15], _ =>
    match xs, hlen with
    | [y0, y1, y2, y3, y4, y5, y6, y7, y8, y9, y10, y11, y12, y13, y14, y15], _ =>
      have k0 : DataW.trod enc Tryd.prog w base spare held n 5 [c0] = some y0 := by simpa [cellsU8] using hf 0 _ rfl
      have k1 : DataW.trod enc Tryd.prog w base spare held n 23 [c1] = some y1 := by simpa [cellsU64] using hf 1 _ rfl
      have k2 : DataW.trod enc Tryd.prog w base spare held n 23 [c2] = some y2 := by simpa [cellsU64] using hf 2 _ rfl
      have k3 : DataW.trod enc Tryd.prog w base spare held n 23 [c3] = some y3 := by simpa [cellsU64] using hf 3 _ rfl
      have k4 : DataW.trod enc Tryd.prog w base spare held n 23 [c4] = some y4 := by simpa [cellsU64] using hf 4 _ rfl
      have k5 : DataW.trod enc Tryd.prog w base spare held n 23 [c5] = some y5 := by simpa [cellsU64] using hf 5 _ rfl
      have k6 : DataW.trod enc Tryd.prog w base spare held n 23 [c6] = some y6 := by simpa [cellsU64] using hf 6 _ rfl
      have k7 : DataW.trod enc Tryd.prog w base spare held n 23 [c7] = some y7 := by simpa [cellsU64] using hf 7 _ rfl
      have k8 : DataW.trod enc Tryd.prog w base spare held n 3 [c8] = some y8 := by simpa [cellsInt] using hf 8 _ rfl
      have k9 : DataW.trod enc Tryd.prog w base spare held n 3 [c9] = some y9 := by simpa [cellsInt] using hf 9 _ rfl
      have k10 : DataW.trod enc Tryd.prog w base spare held n 24 [c10] = some y10 := by simpa [cellsErr] using hf 10 _ rfl
      have k11 : DataW.trod enc Tryd.prog w base spare held n 3 [c11] = some y11 := by simpa [cellsInt] using hf 11 _ rfl
      have k12 : DataW.trod enc Tryd.prog w base spare held n 25 [c12] = some y12 := by simpa [cellsP] using hf 12 _ rfl
      have k13 : DataW.trod enc Tryd.prog w base spare held n 26 [c13] = some y13 := by simpa [cellsO] using hf 13 _ rfl
      have k14 : DataW.trod enc Tryd.prog w base spare held n 27 [c14] = some y14 := by simpa [cellsV] using hf 14 _ rfl
      have k15 : DataW.trod enc Tryd.prog w base spare held n 28 [c15] = some y15 := by simpa [cellsH] using hf 15 _ rfl
      obtain ⟨z0, e0, _, hz0⟩ := DataW.trod_int Tryd.underlying5 k0
      simp only [List.cons.injEq, and_true] at e0
      subst e0
      have b0 := bounds_u8 hz0
      obtain ⟨u0, rfl⟩ := u8_of b0.1 b0.2
      obtain ⟨z1, e1, _, hz1⟩ := DataW.trod_int Tryd.underlying23 k1
      simp only [List.cons.injEq, and_true] at e1
      subst e1
      have b1 := bounds_u64 hz1
      obtain ⟨u1, rfl⟩ := u64_of' b1.1 b1.2
      obtain ⟨z2, e2, _, hz2⟩ := DataW.trod_int Tryd.underlying23 k2
      simp only [List.cons.injEq, and_true] at e2
      subst e2
      have b2 := bounds_u64 hz2
      obtain ⟨u2, rfl⟩ := u64_of' b2.1 b2.2
      obtain ⟨z3, e3, _, hz3⟩ := DataW.trod_int Tryd.underlying23 k3
      simp only [List.cons.injEq, and_true] at e3
      subst e3
      have b3 := bounds_u64 hz3
      obtain ⟨u3, rfl⟩ := u64_of' b3.1 b3.2
      obtain ⟨z4, e4, _, hz4⟩ := DataW.trod_int Tryd.underlying23 k4
      simp only [List.cons.injEq, and_true] at e4
      subst e4
      have b4 := bounds_u64 hz4
      obtain ⟨u4, rfl⟩ := u64_of' b4.1 b4.2
      obtain ⟨z5, e5, _, hz5⟩ := DataW.trod_int Tryd.underlying23 k5
      simp only [List.cons.injEq, and_true] at e5
      subst e5
      have b5 := bounds_u64 hz5
      obtain ⟨u5, rfl⟩ := u64_of' b5.1 b5.2
      obtain ⟨z6, e6, _, hz6⟩ := DataW.trod_int Tryd.underlying23 k6
      simp only [List.cons.injEq, and_true] at e6
      subst e6
      have b6 := bounds_u64 hz6
      obtain ⟨u6, rfl⟩ := u64_of' b6.1 b6.2
      obtain ⟨z7, e7, _, hz7⟩ := DataW.trod_int Tryd.underlying23 k7
      simp only [List.cons.injEq, and_true] at e7
      subst e7
      have b7 := bounds_u64 hz7
      obtain ⟨u7, rfl⟩ := u64_of' b7.1 b7.2
      obtain ⟨z8, e8, _, hz8⟩ := DataW.trod_int Tryd.underlying3 k8
      simp only [List.cons.injEq, and_true] at e8
      subst e8
      have b8 := bounds_i64 hz8
      obtain ⟨z9, e9, _, hz9⟩ := DataW.trod_int Tryd.underlying3 k9
      simp only [List.cons.injEq, and_true] at e9
      subst e9
      have b9 := bounds_i64 hz9
      obtain ⟨z10, e10, _, hz10⟩ := DataW.trod_int Tryd.underlying24 k10
      simp only [List.cons.injEq, and_true] at e10
      subst e10
      have b10 := bounds_i64 hz10
      obtain ⟨z11, e11, _, hz11⟩ := DataW.trod_int Tryd.underlying3 k11
      simp only [List.cons.injEq, and_true] at e11
      subst e11
      have b11 := bounds_i64 hz11
      obtain ⟨lp, hp⟩ := open_ints_at Tryd.underlying25 Tryd.underlying3 cellsInt k12
      obtain ⟨lo, ho⟩ := open_ops_at k13
      obtain ⟨lv, hv⟩ := open_i32s_at Tryd.underlying27 Tryd.underlying21 cellsI32 k14
      obtain ⟨lh, hh⟩ := open_hits_at k15
      exact ⟨⟨u0, u1, u2, u3, u4, u5, u6, u7, z8, z9, z10, z11, lp, lo, lv, lh⟩, c12, c13, c14, c15, rfl, c12, c13, c14, c15, rfl, hp, ho, hv, hh, b8, b9, b10, b11⟩
set_option maxRecDepth 100000 in
theorem open_note {v : Value} {d : DataW H} {p : List MemPlace} {r : Reach} {b : Nat}
    (hval : Value.okWide Tryd.prog w r b 30 v) (h : DataW.Trod enc Tryd.prog w base spare held 30 v d p) : ∃ n : NoteR, Nt w (· < w.heap.size) n v := by
  obtain ⟨fuel, h⟩ := h
  obtain ⟨cs, rfl, _⟩ := okWide_struct Tryd.underlying30 hval
  obtain ⟨n, vp, vo, vv, vh, e, hn⟩ := open_note_at h
  have e2 : Value.agg cs = noteV n vp vo vv vh := by
    rw [noteV_agg']
    have e3 : cs.toList = (noteV n vp vo vv vh).cells.toList := e
    rw [Array.toList_inj.1 e3]
  exact ⟨n, e2 ▸ hn⟩
end
end Go.Proofs.YtnkbfelnggompaaDoor
