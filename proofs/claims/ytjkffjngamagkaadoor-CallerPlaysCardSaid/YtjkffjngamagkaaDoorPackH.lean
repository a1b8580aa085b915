/- PackH: several texts in one. -/
import Derived.Test.YtjkffjngamagkaaDoorPackA
import Derived.ProofKit
import Derived.OpenShut
import Derived.Carry
import Derived.Deep.Slices
import Derived.Test.YtjkffjngamagkaaDoorPackB
import Derived.Test.YtjkffjngamagkaaDoorPackC
import Derived.Test.YtjkffjngamagkaaDoorCards
import Derived.Test.YtjkffjngamagkaaDoorTie
import Derived.Deep.DeepHandedRow
import Derived.Lib.LaidTab
import Derived.Stop.LaidErr
/- From a row's readings of its arguments to the lists that the walks speak of; whatever the program. -/
namespace Go.Arm
open Go.RowKit Go.ChangeShapes Go.WideShapes Go.Deep
section
variable {H : Type} {enc : TypeId × Value → H} {P : Program} {w : World} {base : Nat} {spare : Nat → Bool} {held : Bool}
theorem sl_open {α : Type} [Rep α] {t e : TypeId} {fuel : Nat} {v : Value} {x : DataW H × List MemPlace} (ht : P.underlying t = some (.slice e)) (hc : P.cellsOf e = Rep.sz α)
  (h : DataW.trod enc P w base spare held fuel t [v] = some x)
  (hel : ∀ n cs' y, DataW.trod enc P w base spare held n e cs' = some y → ∃ x : α, Rep.rd w (· < w.heap.size) x cs') :
  ∃ l : List α, Sl w (· < w.heap.size) l v := by
 rcases open_slice ht h with ⟨hcs, _⟩ | ⟨a, len, cap, m, n, D, Pl, hcs, hb, hl, hm, hmm, _, hx⟩
 ·obtain rfl : v = .slice none 0 0 := by simpa using hcs
  exact ⟨[], Sl.nil _ _⟩
 ·obtain rfl : v = .slice (some a) len cap := by simpa using hcs
  have hlm : len ≤ m := by rw [hmm]; split <;> omega
  have all : ∀ k, k ≤ len → ∃ (l : List α) (cs : List Value), l.length = k ∧ rds w (· < w.heap.size) l cs ∧ ∀ j u, cs[j]? = some u → w.cell? (a.add j) = some u := by
   intro k
   induction k with
   | zero => intro _; exact ⟨[], [], rfl, rfl, fun j u hu => by simp at hu⟩
   | succ k ih =>
    intro hk
    obtain ⟨l, cs, h1, h2, h3⟩ := ih (by omega)
    obtain ⟨c, g1, g2⟩ := hx k (by omega)
    obtain ⟨y, hy⟩ := hel _ _ _ g2
    obtain ⟨_, g3, g4⟩ := World.cells?_some g1
    have hcl : cs.length = k * P.cellsOf e := by rw [rds_len h2, h1, hc]
    refine ⟨l ++ [y], cs ++ c, by simp [h1], rds_append h2 ⟨c, [], by simp, hy, rfl⟩, fun j u hu => ?_⟩
    by_cases hj : j < cs.length
    ·rw [List.getElem?_append_left hj] at hu
     exact h3 j u hu
    ·rw [List.getElem?_append_right (by omega)] at hu
     have hjl := (List.getElem?_eq_some_iff.1 hu).1
     have := g4 (j - cs.length) (by omega)
     rw [hu, add_add, show k * P.cellsOf e + (j - cs.length) = j by omega] at this
     exact this
  obtain ⟨l, cs, h1, h2, h3⟩ := all len (Nat.le_refl _)
  have hloc : located w (some a) cs := fun a' ha => by
   obtain rfl := Option.some.inj ha
   exact h3
  refine ⟨l, some a, cap, cs, by rw [h1], by omega, hm, by simp, h2, fun a' ha hne => ?_, hloc⟩
  obtain rfl := Option.some.inj ha
  exact located_lt hloc hne
theorem slice_cells {e : TypeId} {t : TypeId} {v : Value} {r : Reach} {b : Nat} (ht : P.underlying t = some (.slice e)) (hval : Value.okWide P w r b t v) : v.cells.toList = [v] := by
 obtain ⟨a, len, cap, rfl⟩ := okWide_slice ht hval
 rfl
end
end Go.Arm
/- What all cards of the seat share: the two tables as a row lists them, and a world for the witness. -/
namespace Go.Proofs.YtjkffjngamagkaaDoor
open Go Go.RowKit Go.Arm Go.ChangeShapes Go.WideShapes Go.ChangeAt
theorem own : ownKnob Tryd.prog.godebug = none := by kernel_rfl
theorem laidOut : laidOutB Tryd.prog = true := by kernel_rfl
theorem gNib : Tryd.prog.globalNamed "armillary/seal.nibble" = some 1 := by kernel_rfl
theorem gNibType : (Tryd.prog.globals[1]?).map (·.type) = some 202 := by kernel_rfl
theorem gSort : Tryd.prog.globalNamed "armillary/note.sorts" = some 0 := by kernel_rfl
theorem gSortType : (Tryd.prog.globals[0]?).map (·.type) = some 126 := by kernel_rfl
theorem cellsTab : Tryd.prog.cellsOf 202 = 16 := by kernel_rfl
theorem cellsU8 : Tryd.prog.cellsOf 5 = 1 := by kernel_rfl
theorem cellsU32 : Tryd.prog.cellsOf 47 = 1 := by kernel_rfl
theorem cellsStr : Tryd.prog.cellsOf 9 = 1 := by kernel_rfl
theorem cellsInt : Tryd.prog.cellsOf 3 = 1 := by kernel_rfl
theorem cellsSort : Tryd.prog.cellsOf 125 = 2 := by kernel_rfl
def nibs : List Int := (List.range 16).map fun i => ((nib i).toNat : Int)
theorem nib_laid {W : World} (h : laidMetH Tryd.prog [("armillary/seal.nibble", Rows.laid_armillary_seal_nibble), ("armillary/note.sorts", Rows.laid_armillary_note_sorts)] W) : Nib W := by
 have e : (Rows.laid_armillary_seal_nibble : DataW Unit) = Lib.tabData .u32 nibs := by kernel_rfl
 rw [e] at h
 have t : Lib.TabIs Tryd.prog W "armillary/seal.nibble" .u32 nibs := Lib.tabIs_of_head (rest := [("armillary/note.sorts", Rows.laid_armillary_note_sorts)]) gNib gNibType Tryd.underlying202 Tryd.underlying47 cellsU32 cellsTab h
 intro i hi
 have := t.cell gNib i (by simpa [nibs] using hi)
 rw [this]
 simp [nibs, hi]
def sortData {H : Type} : DataW H := .agg ((List.range 23).map fun k => .agg [.lit (.string (sortName k)), .lit (.int .i64 (sortMask k : Int))])
theorem trod_array {H : Type} {enc : TypeId × Value → H} {P : Program} {w : World} {base : Nat} {sp : Nat → Bool} {held : Bool} {fuel : Nat} {t e : TypeId} {n : Nat} {cs : List Value} {x : DataW H × List MemPlace}
  (ht : P.underlying t = some (.array n e)) (h : DataW.trod enc P w base sp held fuel t cs = some x) :
  ∃ (xs : List (DataW H × List MemPlace)) (m : Nat), x.1 = .agg (xs.map (·.1)) ∧ xs.length = n ∧ ∀ i, i < n → ∃ y, xs[i]? = some y ∧ DataW.trod enc P w base sp held m e ((cs.drop (i * P.cellsOf e)).take (P.cellsOf e)) = some y := by
 cases fuel with
 | zero => simp [DataW.trod] at h
 | succ fuel =>
  simp only [DataW.trod, ht] at h
  split at h
  ·obtain ⟨xs, hm, hx⟩ := Option.map_eq_some_iff.1 h
   refine ⟨xs, fuel, by rw [← hx], by simpa using Lib.mapM_length hm, fun i hi => ?_⟩
   obtain ⟨b, hb, hf⟩ := Lib.mapM_at hm i i (by simp [hi])
   exact ⟨b, hb, hf⟩
  ·cases h
theorem srt_laid {W : World} (h : laidMetH Tryd.prog [("armillary/seal.nibble", Rows.laid_armillary_seal_nibble), ("armillary/note.sorts", Rows.laid_armillary_note_sorts)] W) : Srt W := by
 have h2 : laidMet Tryd.prog [("armillary/note.sorts", Rows.laid_armillary_note_sorts)] W := laidMet.tail (x := ("armillary/seal.nibble", Rows.laid_armillary_seal_nibble)) h
 have e : (Rows.laid_armillary_note_sorts : DataW Unit) = sortData := by kernel_rfl
 rw [e] at h2
 obtain ⟨ps, ⟨g', t', cs, fuel, p, q, hg', ht', hvar, hd, _, _⟩, _⟩ := h2
 obtain rfl := Option.some.inj (gSort.symm.trans hg')
 obtain rfl := Option.some.inj (gSortType.symm.trans ht')
 obtain ⟨xs, m, hx, hl, hf⟩ := trod_array Tryd.underlying126 hd
 intro k hk
 obtain ⟨y, hy, hty⟩ := hf k hk
 rw [cellsSort] at hty
 have hy1 : y.1 = .agg [.lit (.string (sortName k)), .lit (.int .i64 (sortMask k : Int))] := by
  have h1 : (xs.map (·.1))[k]? = some y.1 := by simp [hy]
  have h2 : xs.map (·.1) = (List.range 23).map fun k => (.agg [.lit (.string (sortName k)), .lit (.int .i64 (sortMask k : Int))] : DataW Unit) := by
   have := hx
   simp only [sortData] at this
   exact (DataW.agg.inj this).symm
  rw [h2] at h1
  simp [hk] at h1
  exact h1.symm
 obtain ⟨ys, n, rfl, rfl, hcl, hyl, hyf⟩ := DataW.trod_struct Tryd.underlying125 hty
 have k0 : DataW.trod (fun _ => ()) Tryd.prog W 0 (fun _ => true) false n 9 (((cs.toList.drop (k * 2)).take 2).take 1) = ys[0]? := by simpa [cellsStr] using hyf 0 _ rfl
 have k1 : DataW.trod (fun _ => ()) Tryd.prog W 0 (fun _ => true) false n 3 ((((cs.toList.drop (k * 2)).take 2).drop 1).take 1) = ys[1]? := by simpa [cellsInt] using hyf 1 _ rfl
 match ys, hyl with
 | [y0, y1], _ =>
  obtain ⟨s, hs1, hs2, _⟩ := DataW.trod_string Tryd.underlying9 k0
  obtain ⟨z, hz1, hz2, _⟩ := DataW.trod_int Tryd.underlying3 k1
  simp only [hs2, hz2, List.map_cons, List.map_nil, DataW.agg.injEq, List.cons.injEq, DataW.lit.injEq, Lit.string.injEq, Lit.int.injEq, true_and, and_true] at hy1
  have c0 : cs[k * 2]? = some (.string s) := by
   have := congrArg (·[0]?) hs1
   simpa [List.getElem?_take, List.getElem?_drop] using this
  have c1 : cs[k * 2 + 1]? = some (.int .i64 z) := by
   have := congrArg (·[0]?) hz1
   simpa [List.getElem?_take, List.getElem?_drop] using this
  refine ⟨?_, ?_⟩
  ·rw [World.var?_cell gSort hvar, c0, ← hy1.1]
  ·rw [World.var?_cell gSort hvar, c1, hy1.2]
def layNib : Obj → Obj
 | .cells _ t frozen => .cells #[.int .u32 0, .int .u32 498536548, .int .u32 997073096, .int .u32 651767980, .int .u32 1994146192, .int .u32 1802195444, .int .u32 1303535960, .int .u32 1342533948, .int .u32 3988292384, .int .u32 4027552580, .int .u32 3604390888, .int .u32 3412177804, .int .u32 2607071920, .int .u32 2262029012, .int .u32 2685067896, .int .u32 3183342108] t frozen
 | o => o
def laySort : Obj → Obj
 | .cells _ t frozen => .cells #[.string ⟨#[]⟩, .int .i64 0, .string ⟨#[65, 115, 107]⟩, .int .i64 4098, .string ⟨#[82, 101, 112, 108, 121]⟩, .int .i64 518, .string ⟨#[80, 114, 101, 112, 97, 114, 101]⟩, .int .i64 6153, .string ⟨#[86, 111, 116, 101]⟩, .int .i64 513, .string ⟨#[68, 101, 99, 105, 100, 101]⟩, .int .i64 517, .string ⟨#[65, 99, 107]⟩, .int .i64 1, .string ⟨#[80, 114, 111, 98, 101]⟩, .int .i64 1, .string ⟨#[81, 117, 101, 114, 121]⟩, .int .i64 8672, .string ⟨#[76, 111, 111, 107]⟩, .int .i64 8692, .string ⟨#[83, 101, 101, 110]⟩, .int .i64 16928, .string ⟨#[82, 101, 115, 117, 108, 116]⟩, .int .i64 16932, .string ⟨#[80, 114, 101, 112, 97, 114, 101, 100]⟩, .int .i64 6153, .string ⟨#[67, 111, 109, 109, 105, 116, 116, 101, 100]⟩, .int .i64 5, .string ⟨#[65, 98, 111, 114, 116, 101, 100]⟩, .int .i64 1, .string ⟨#[83, 119, 101, 112, 116]⟩, .int .i64 16, .string ⟨#[69, 112, 111, 99, 104]⟩, .int .i64 16, .string ⟨#[67, 111, 109, 109, 105, 116]⟩, .int .i64 2055, .string ⟨#[69, 110, 100]⟩, .int .i64 1, .string ⟨#[66, 101, 103, 105, 110]⟩, .int .i64 7179, .string ⟨#[89, 101, 115]⟩, .int .i64 1025, .string ⟨#[65, 99, 107, 101, 100]⟩, .int .i64 1025, .string ⟨#[71, 111, 110, 101]⟩, .int .i64 1] t frozen
 | o => o
noncomputable def laidWorld (os : Os) : World :=
 { World.holding Tryd.prog os ⟨#[], #[], []⟩ with heap := ((World.holding Tryd.prog os ⟨#[], #[], []⟩).heap.modify 1 layNib).modify 0 laySort }
end Go.Proofs.YtjkffjngamagkaaDoor
/- From a row's readings of its arguments to notes. -/
namespace Go.Proofs.YtjkffjngamagkaaDoor
open Go Go.RowKit Go.Arm Go.ChangeShapes Go.WideShapes Go.ChangeAt
theorem cellsU64 : Tryd.prog.cellsOf 26 = 1 := by kernel_rfl
theorem cellsI32 : Tryd.prog.cellsOf 21 = 1 := by kernel_rfl
theorem cellsV : Tryd.prog.cellsOf 30 = 1 := by kernel_rfl
theorem cellsP : Tryd.prog.cellsOf 28 = 1 := by kernel_rfl
theorem cellsO : Tryd.prog.cellsOf 29 = 1 := by kernel_rfl
theorem cellsH : Tryd.prog.cellsOf 31 = 1 := by kernel_rfl
theorem cellsOp : Tryd.prog.cellsOf 63 = 2 := by kernel_rfl
theorem cellsHit : Tryd.prog.cellsOf 114 = 3 := by kernel_rfl
theorem cellsErr : Tryd.prog.cellsOf 27 = 1 := by kernel_rfl
theorem cellsNote : Tryd.prog.cellsOf 36 = 16 := by kernel_rfl
theorem u8_of {z : Int} (h0 : 0 ≤ z) (h1 : z ≤ 255) : ∃ x : UInt8, z = (x.toNat : Int) :=
 ⟨UInt8.ofNat z.toNat, by rw [UInt8.toNat_ofNat_of_lt' (by show z.toNat < 256; omega)]; omega⟩
theorem u64_of' {z : Int} (h0 : 0 ≤ z) (h1 : z ≤ 18446744073709551615) : ∃ x : UInt64, z = (x.toNat : Int) :=
 ⟨UInt64.ofNat z.toNat, by rw [UInt64.toNat_ofNat_of_lt' (by show z.toNat < 18446744073709551616; omega)]; omega⟩
theorem i32_of {z : Int} (h0 : -2147483648 ≤ z) (h1 : z ≤ 2147483647) : ∃ x : Int32, z = x.toInt :=
 ⟨Int32.ofInt z, (Int32.toInt_ofInt_of_le h0 (by simp; omega)).symm⟩
section
variable {H : Type} {enc : TypeId × Value → H} {w : World} {base : Nat} {spare : Nat → Bool} {held : Bool}
theorem open_i32s_at {t e : TypeId} {fuel : Nat} {v : Value} {x : DataW H × List MemPlace} (ht : Tryd.prog.underlying t = some (.slice e)) (he : Tryd.prog.underlying e = some (.int .i32)) (hc : Tryd.prog.cellsOf e = 1)
  (h : DataW.trod enc Tryd.prog w base spare held fuel t [v] = some x) : ∃ l : List Int32, Sl w (· < w.heap.size) l v := by
 refine sl_open ht hc h fun n cs' y hy => ?_
 obtain ⟨z, rfl, _, hz⟩ := DataW.trod_int he hy
 have hb := bounds_i32 hz
 obtain ⟨u, rfl⟩ := i32_of hb.1 hb.2
 exact ⟨u, rfl⟩
theorem open_ints_at {t e : TypeId} {fuel : Nat} {v : Value} {x : DataW H × List MemPlace} (ht : Tryd.prog.underlying t = some (.slice e)) (he : Tryd.prog.underlying e = some (.int .i64)) (hc : Tryd.prog.cellsOf e = 1)
  (h : DataW.trod enc Tryd.prog w base spare held fuel t [v] = some x) : ∃ l : List Int, Sl w (· < w.heap.size) l v := by
 refine sl_open ht hc h fun n cs' y hy => ?_
 obtain ⟨z, rfl, _, hz⟩ := DataW.trod_int he hy
 have hb := bounds_i64 hz
 exact ⟨z, rfl, hb.1, hb.2⟩
set_option maxRecDepth 100000 in
theorem open_ops_at {fuel : Nat} {v : Value} {x : DataW H × List MemPlace} (h : DataW.trod enc Tryd.prog w base spare held fuel 29 [v] = some x) : ∃ l : List OpR, Sl w (· < w.heap.size) l v := by
 refine sl_open Tryd.underlying29 cellsOp h fun n cs' y hy => ?_
 obtain ⟨xs, n, rfl, rfl, hl, hlen, hf⟩ := DataW.trod_struct Tryd.underlying63 hy
 rw [cellsOp] at hl
 match cs', hl with
 | [c0, c1], _ =>
  match xs, hlen with
  | [y0, y1], _ =>
   have k0 : DataW.trod enc Tryd.prog w base spare held n 26 [c0] = some y0 := by simpa [cellsU64] using hf 0 _ rfl
   have k1 : DataW.trod enc Tryd.prog w base spare held n 30 [c1] = some y1 := by simpa [cellsV] using hf 1 _ rfl
   obtain ⟨z0, e0, _, hz0⟩ := DataW.trod_int Tryd.underlying26 k0
   simp only [List.cons.injEq, and_true] at e0
   subst e0
   have b0 := bounds_u64 hz0
   obtain ⟨u0, rfl⟩ := u64_of' b0.1 b0.2
   obtain ⟨vs, hvs⟩ := open_i32s_at Tryd.underlying30 Tryd.underlying21 cellsI32 k1
   exact ⟨⟨u0, vs⟩, c1, rfl, hvs⟩
set_option maxRecDepth 100000 in
theorem open_hits_at {fuel : Nat} {v : Value} {x : DataW H × List MemPlace} (h : DataW.trod enc Tryd.prog w base spare held fuel 31 [v] = some x) : ∃ l : List HitR, Sl w (· < w.heap.size) l v := by
 refine sl_open Tryd.underlying31 cellsHit h fun n cs' y hy => ?_
 obtain ⟨xs, n, rfl, rfl, hl, hlen, hf⟩ := DataW.trod_struct Tryd.underlying114 hy
 rw [cellsHit] at hl
 match cs', hl with
 | [c0, c1, c2], _ =>
  match xs, hlen with
  | [y0, y1, y2], _ =>
   have k0 : DataW.trod enc Tryd.prog w base spare held n 26 [c0] = some y0 := by simpa [cellsU64] using hf 0 _ rfl
   have k1 : DataW.trod enc Tryd.prog w base spare held n 26 [c1] = some y1 := by simpa [cellsU64] using hf 1 _ rfl
   have k2 : DataW.trod enc Tryd.prog w base spare held n 30 [c2] = some y2 := by simpa [cellsV] using hf 2 _ rfl
   obtain ⟨z0, e0, _, hz0⟩ := DataW.trod_int Tryd.underlying26 k0
   obtain ⟨z1, e1, _, hz1⟩ := DataW.trod_int Tryd.underlying26 k1
   simp only [List.cons.injEq, and_true] at e0 e1
   subst e0
   subst e1
   have b0 := bounds_u64 hz0
   have b1 := bounds_u64 hz1
   obtain ⟨u0, rfl⟩ := u64_of' b0.1 b0.2
   obtain ⟨u1, rfl⟩ := u64_of' b1.1 b1.2
   obtain ⟨vs, hvs⟩ := open_i32s_at Tryd.underlying30 Tryd.underlying21 cellsI32 k2
   exact ⟨⟨u0, u1, vs⟩, c2, rfl, hvs⟩
set_option maxRecDepth 100000 in
theorem open_note_at {fuel : Nat} {cs : List Value} {x : DataW H × List MemPlace} (h : DataW.trod enc Tryd.prog w base spare held fuel 36 cs = some x) : ∃ (n : NoteR) (vp vo vv vh : Value), cs = (noteV n vp vo vv vh).cells.toList ∧ Nt w (· < w.heap.size) n (noteV n vp vo vv vh) := by
 obtain ⟨xs, n, rfl, rfl, hl, hlen, hf⟩ := DataW.trod_struct Tryd.underlying36 h
 rw [cellsNote] at hl
 match cs, hl with
 | [c0, c1, c2, c3, c4, c5, c6, c7, c8, c9, c10, c11, c12, c13, c14, c15], _ =>
  match xs, hlen with
  | [y0, y1, y2, y3, y4, y5, y6, y7, y8, y9, y10, y11, y12, y13, y14, y15], _ =>
   have k0 : DataW.trod enc Tryd.prog w base spare held n 5 [c0] = some y0 := by simpa [cellsU8] using hf 0 _ rfl
   have k1 : DataW.trod enc Tryd.prog w base spare held n 26 [c1] = some y1 := by simpa [cellsU64] using hf 1 _ rfl
   have k2 : DataW.trod enc Tryd.prog w base spare held n 26 [c2] = some y2 := by simpa [cellsU64] using hf 2 _ rfl
   have k3 : DataW.trod enc Tryd.prog w base spare held n 26 [c3] = some y3 := by simpa [cellsU64] using hf 3 _ rfl
   have k4 : DataW.trod enc Tryd.prog w base spare held n 26 [c4] = some y4 := by simpa [cellsU64] using hf 4 _ rfl
   have k5 : DataW.trod enc Tryd.prog w base spare held n 26 [c5] = some y5 := by simpa [cellsU64] using hf 5 _ rfl
   have k6 : DataW.trod enc Tryd.prog w base spare held n 26 [c6] = some y6 := by simpa [cellsU64] using hf 6 _ rfl
   have k7 : DataW.trod enc Tryd.prog w base spare held n 26 [c7] = some y7 := by simpa [cellsU64] using hf 7 _ rfl
   have k8 : DataW.trod enc Tryd.prog w base spare held n 3 [c8] = some y8 := by simpa [cellsInt] using hf 8 _ rfl
   have k9 : DataW.trod enc Tryd.prog w base spare held n 3 [c9] = some y9 := by simpa [cellsInt] using hf 9 _ rfl
   have k10 : DataW.trod enc Tryd.prog w base spare held n 27 [c10] = some y10 := by simpa [cellsErr] using hf 10 _ rfl
   have k11 : DataW.trod enc Tryd.prog w base spare held n 3 [c11] = some y11 := by simpa [cellsInt] using hf 11 _ rfl
   have k12 : DataW.trod enc Tryd.prog w base spare held n 28 [c12] = some y12 := by simpa [cellsP] using hf 12 _ rfl
   have k13 : DataW.trod enc Tryd.prog w base spare held n 29 [c13] = some y13 := by simpa [cellsO] using hf 13 _ rfl
   have k14 : DataW.trod enc Tryd.prog w base spare held n 30 [c14] = some y14 := by simpa [cellsV] using hf 14 _ rfl
   have k15 : DataW.trod enc Tryd.prog w base spare held n 31 [c15] = some y15 := by simpa [cellsH] using hf 15 _ rfl
   obtain ⟨z0, e0, _, hz0⟩ := DataW.trod_int Tryd.underlying5 k0
   simp only [List.cons.injEq, and_true] at e0
   subst e0
   have b0 := bounds_u8 hz0
   obtain ⟨u0, rfl⟩ := u8_of b0.1 b0.2
   obtain ⟨z1, e1, _, hz1⟩ := DataW.trod_int Tryd.underlying26 k1
   simp only [List.cons.injEq, and_true] at e1
   subst e1
   have b1 := bounds_u64 hz1
   obtain ⟨u1, rfl⟩ := u64_of' b1.1 b1.2
   obtain ⟨z2, e2, _, hz2⟩ := DataW.trod_int Tryd.underlying26 k2
   simp only [List.cons.injEq, and_true] at e2
   subst e2
   have b2 := bounds_u64 hz2
   obtain ⟨u2, rfl⟩ := u64_of' b2.1 b2.2
   obtain ⟨z3, e3, _, hz3⟩ := DataW.trod_int Tryd.underlying26 k3
   simp only [List.cons.injEq, and_true] at e3
   subst e3
   have b3 := bounds_u64 hz3
   obtain ⟨u3, rfl⟩ := u64_of' b3.1 b3.2
   obtain ⟨z4, e4, _, hz4⟩ := DataW.trod_int Tryd.underlying26 k4
   simp only [List.cons.injEq, and_true] at e4
   subst e4
   have b4 := bounds_u64 hz4
   obtain ⟨u4, rfl⟩ := u64_of' b4.1 b4.2
   obtain ⟨z5, e5, _, hz5⟩ := DataW.trod_int Tryd.underlying26 k5
   simp only [List.cons.injEq, and_true] at e5
   subst e5
   have b5 := bounds_u64 hz5
   obtain ⟨u5, rfl⟩ := u64_of' b5.1 b5.2
   obtain ⟨z6, e6, _, hz6⟩ := DataW.trod_int Tryd.underlying26 k6
   simp only [List.cons.injEq, and_true] at e6
   subst e6
   have b6 := bounds_u64 hz6
   obtain ⟨u6, rfl⟩ := u64_of' b6.1 b6.2
   obtain ⟨z7, e7, _, hz7⟩ := DataW.trod_int Tryd.underlying26 k7
   simp only [List.cons.injEq, and_true] at e7
   subst e7
   have b7 := bounds_u64 hz7
   obtain ⟨u7, rfl⟩ := u64_of' b7.1 b7.2
   obtain ⟨z8, e8, _, hz8⟩ := DataW.trod_int Tryd.underlying3 k8
   simp only [List.cons.injEq, and_true] at e8
   subst e8
   have b8 := bounds_i64 hz8
   obtain ⟨z9, e9, _, hz9⟩ := DataW.trod_int Tryd.underlying3 k9
   simp only [List.cons.injEq, and_true] at e9
   subst e9
   have b9 := bounds_i64 hz9
   obtain ⟨z10, e10, _, hz10⟩ := DataW.trod_int Tryd.underlying27 k10
   simp only [List.cons.injEq, and_true] at e10
   subst e10
   have b10 := bounds_i64 hz10
   obtain ⟨z11, e11, _, hz11⟩ := DataW.trod_int Tryd.underlying3 k11
   simp only [List.cons.injEq, and_true] at e11
   subst e11
   have b11 := bounds_i64 hz11
   obtain ⟨lp, hp⟩ := open_ints_at Tryd.underlying28 Tryd.underlying3 cellsInt k12
   obtain ⟨lo, ho⟩ := open_ops_at k13
   obtain ⟨lv, hv⟩ := open_i32s_at Tryd.underlying30 Tryd.underlying21 cellsI32 k14
   obtain ⟨lh, hh⟩ := open_hits_at k15
   exact ⟨⟨u0, u1, u2, u3, u4, u5, u6, u7, z8, z9, z10, z11, lp, lo, lv, lh⟩, c12, c13, c14, c15, rfl, c12, c13, c14, c15, rfl, hp, ho, hv, hh, b8, b9, b10, b11⟩
end
end Go.Proofs.YtjkffjngamagkaaDoor
