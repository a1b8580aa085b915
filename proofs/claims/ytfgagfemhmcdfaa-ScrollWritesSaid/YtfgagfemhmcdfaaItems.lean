/- Items in memory. -/
import Derived.Test.YtfgagfemhmcdfaaScCardKit
import Derived.Test.YtfgagfemhmcdfaaFew
namespace Go.Arm
open Go.RowKit

/-- What is written, or asked. -/
structure Itm where
  d : UInt8
  ns : List UInt64
  ts : List (List UInt8)
  vs : List (List Int32)
  m : Int

instance : Rep Itm where
  sz := 5
  rd w S x cs := ∃ vn vt vv, cs = [.int .u8 (x.d.toNat : Int), vn, vt, vv, .int .i64 x.m] ∧ Sl w S x.ns vn ∧ Sl w S x.ts vt ∧ Sl w S x.vs vv ∧ -9223372036854775808 ≤ x.m ∧ x.m ≤ 9223372036854775807
  len h := by obtain ⟨_, _, _, rfl, _⟩ := h; rfl
  one h := by
    obtain ⟨_, _, _, rfl, h1, h2, h3, _⟩ := h
    obtain ⟨_, _, _, rfl⟩ := Sl.shape h1
    obtain ⟨_, _, _, rfl⟩ := Sl.shape h2
    obtain ⟨_, _, _, rfl⟩ := Sl.shape h3
    intro u hu
    simp at hu
    rcases hu with rfl | rfl | rfl | rfl | rfl <;> rfl
  keep h hk := by
    obtain ⟨vn, vt, vv, rfl, h1, h2, h3, h4⟩ := h
    exact ⟨vn, vt, vv, rfl, h1.keep hk, h2.keep hk, h3.keep hk, h4⟩
end Go.Arm
namespace Go.Proofs.Ytfgagfemhmcdfaa
open Go Go.RowKit Go.Arm Go.ChangeShapes Go.WideShapes Go.ChangeAt

theorem rowI : Row Try.prog 44 36 (.agg #[.int .u8 0, .slice none 0 0, .slice none 0 0, .slice none 0 0, .int .i64 0]) 5 88 := ⟨Try.underlying44, by kernel_rfl⟩

section
variable {ops : Array Oper} {Q : Exit → Act → World → Prop} {a : Act} {w : World} {rest : List Oper}
variable {dst : Option Tmp} {ty : TypeId} {pos : String} {after : Array Edge}
theorem len_I {x : Operand} {S : Nat → Prop} {l : List Itm} (hx : Sl w S l (a.eval x)) (h : wpList Try.prog ops Q rest (a.put dst (.int .i64 (l.length : Int))) w) :
    wpList Try.prog ops Q (⟨dst, .call ⟨.builtin .len, #[x], #[44]⟩, ty, pos, after, none⟩ :: rest) a w := wpList_len rowI.1 hx h
theorem stop_index_I {x i : Operand} (h : Stop (wpList Try.prog ops Q (⟨dst, .indexAddr 44 x i, ty, pos, after, none⟩ :: rest) a w) .mk) : wpList Try.prog ops Q (⟨dst, .indexAddr 44 x i, ty, pos, after, none⟩ :: rest) a w := h

theorem add_add2 (a : Addr) (m i : Nat) : (a.add m).add i = a.add (m + i) := by
  unfold Addr.add
  by_cases hm : m = 0
  · subst hm; simp
  · by_cases hi : i = 0
    · subst hi; simp [hm]
    · simp [hm, hi]; omega

theorem idx_I {Q : Exit → Act → World → Prop} {x i : Operand} {S : Nat → Prop} {l : List Itm} (hx : Sl w S l (a.eval x)) {k : IntKind} {n : Int} (hi : a.eval i = .int k n) (h0 : 0 ≤ n) (hn : n < l.length)
    (h : ∀ b o y vn vt vv, l[n.toNat]? = some y → Sl w S y.ns vn → Sl w S y.ts vt → Sl w S y.vs vv → -9223372036854775808 ≤ y.m → y.m ≤ 9223372036854775807 →
      w.cell? ⟨b, o, none⟩ = some (.int .u8 (y.d.toNat : Int)) → w.cell? ⟨b, o + 1, none⟩ = some vn → w.cell? ⟨b, o + 2, none⟩ = some vt → w.cell? ⟨b, o + 3, none⟩ = some vv → w.cell? ⟨b, o + 4, none⟩ = some (.int .i64 y.m) →
      wpList Try.prog ops Q rest (a.put dst (.pointer (some ⟨b, o, none⟩))) w) :
    wpList Try.prog ops Q (⟨dst, .indexAddr 44 x i, ty, pos, after, none⟩ :: rest) a w := by
  obtain ⟨ao, cap, cs, hv, _, _, hnone, hcs, _, hloc⟩ := hx
  have hlt : n.toNat < l.length := by omega
  obtain ⟨y, hy⟩ : ∃ y, l[n.toNat]? = some y := ⟨_, List.getElem?_eq_getElem hlt⟩
  obtain ⟨c, ⟨vn, vt, vv, rfl, s1, s2, s3, m1, m2⟩, hc2⟩ := rds_get n.toNat hcs hy
  have g0 := hc2 0 _ rfl
  have g1 := hc2 1 _ rfl
  have g2 := hc2 2 _ rfl
  have g3 := hc2 3 _ rfl
  have g4 := hc2 4 _ rfl
  cases ao with
  | none => have := hnone rfl; omega
  | some ad =>
    have f0 := hloc ad rfl _ _ g0
    have f1 := hloc ad rfl _ _ g1
    have f2 := hloc ad rfl _ _ g2
    have f3 := hloc ad rfl _ _ g3
    have f4 := hloc ad rfl _ _ g4
    have e5 : Rep.sz Itm = 5 := rfl
    rw [e5] at f0 f1 f2 f3 f4
    have hspot : ∃ b o, ad.add (n.toNat * 5) = ⟨b, o, none⟩ := by
      rw [Nat.add_zero] at f0
      generalize ad.add (n.toNat * 5) = q at f0
      obtain ⟨b, o, sp⟩ := q
      cases sp with
      | none => exact ⟨b, o, rfl⟩
      | some s =>
        exfalso
        unfold World.cell? at f0
        split at f0 <;> simp at f0
    obtain ⟨b, o, hq⟩ := hspot
    rw [Nat.add_zero, hq] at f0
    rw [← add_add2, hq, add_lit] at f1 f2 f3 f4
    have he : Try.prog.elem 44 = 36 := by simp [Program.elem, rowI.1]
    have hrun := run_indexAt_slice (P := Try.prog) w 44 ad l.length cap k n (by rw [he]; exact rowI.1)
    rw [if_pos ⟨h0, hn⟩, he, run_sizeOf_row rowI] at hrun
    simp only [Result.andThen, hq] at hrun
    refine wpList_plain rfl fun K hK => ?_
    unfold Oper.wp
    simp [execOp, hi, hv, hrun, Result.andThen]
    exact hK _ _ (h b o y vn vt vv hy s1 s2 s3 m1 m2 f0 f1 f2 f3 f4)
end

section
variable {H : Type} {enc : TypeId × Value → H} {w : World} {base : Nat} {spare : Nat → Bool} {held : Bool}
theorem cellsI : Try.prog.cellsOf 36 = 5 := by kernel_rfl
theorem cellsN : Try.prog.cellsOf 32 = 1 := by kernel_rfl
theorem cellsBB : Try.prog.cellsOf 33 = 1 := by kernel_rfl
theorem cellsVV : Try.prog.cellsOf 34 = 1 := by kernel_rfl
theorem cellsInt : Try.prog.cellsOf 3 = 1 := by kernel_rfl

theorem one_slice {P : Program} {t e : TypeId} {n : Nat} {cs : List Value} {y : DataW H × List MemPlace} (he : P.underlying t = some (.slice e)) (hy : DataW.trod enc P w base spare held n t cs = some y) : ∃ u, cs = [u] := by
  rcases DataW.trod_slice he hy with ⟨rfl, _⟩ | ⟨_, _, _, _, _, _, _, rfl, _⟩ <;> exact ⟨_, rfl⟩

/-- A slice of Items. -/
theorem open_items {v : Value} {d : DataW H} {p : List MemPlace} {r : Reach} {b : Nat}
    (hval : Value.okWide Try.prog w r b 44 v) (h : DataW.Trod enc Try.prog w base spare held 44 v d p) : ∃ l : List Itm, Sl w (· < w.heap.size) l v := by
  obtain ⟨fuel, h⟩ := h
  rw [slice_cells Try.underlying44 hval] at h
  refine sl_open Try.underlying44 cellsI h fun n cs' y hy => ?_
  obtain ⟨xs, n, rfl, rfl, hl, hlen, hf⟩ := DataW.trod_struct Try.underlying36 hy
  rw [cellsI] at hl
  match cs', hl with
  | [c0, c1, c2, c3, c4], _ =>
    match xs, hlen with
    | [y0, y1, y2, y3, y4], _ =>
      have k0 : DataW.trod enc Try.prog w base spare held n 5 [c0] = some y0 := by simpa [cellsU8] using hf 0 _ rfl
      have k1 : DataW.trod enc Try.prog w base spare held n 32 [c1] = some y1 := by simpa [cellsN] using hf 1 _ rfl
      have k2 : DataW.trod enc Try.prog w base spare held n 33 [c2] = some y2 := by simpa [cellsBB] using hf 2 _ rfl
      have k3 : DataW.trod enc Try.prog w base spare held n 34 [c3] = some y3 := by simpa [cellsVV] using hf 3 _ rfl
      have k4 : DataW.trod enc Try.prog w base spare held n 3 [c4] = some y4 := by simpa [cellsInt] using hf 4 _ rfl
      obtain ⟨z0, e0, _, hz0⟩ := DataW.trod_int Try.underlying5 k0
      obtain ⟨z4, e4, _, hz4⟩ := DataW.trod_int Try.underlying3 k4
      simp only [List.cons.injEq, and_true] at e0 e4
      subst e0
      subst e4
      have b0 := bounds_u8 hz0
      have b4 := bounds_i64 hz4
      obtain ⟨ns, hns⟩ := open_u64s_at Try.underlying32 Try.underlying22 cellsU64 k1
      obtain ⟨ts, hts⟩ := open_u8ss_at Try.underlying33 Try.underlying24 cellsB Try.underlying5 cellsU8 k2
      obtain ⟨vs, hvs⟩ := open_i32ss_at Try.underlying34 Try.underlying41 cellsV Try.underlying21 cellsI32 k3
      have ed : z0 = ((UInt8.ofNat z0.toNat).toNat : Int) := by
        rw [UInt8.toNat_ofNat_of_lt' (by show z0.toNat < 256; omega)]; omega
      refine ⟨⟨UInt8.ofNat z0.toNat, ns, ts, vs, z4⟩, c1, c2, c3, ?_, hns, hts, hvs, b4.1, b4.2⟩
      simp only
      rw [← ed]
end
end Go.Proofs.Ytfgagfemhmcdfaa
