/- From a row's reading of its argument to a script. -/
import Derived.Test.YtjkffjngamagkaaDoorPackH
import Derived.Test.YtjkffjngamagkaaDoorCalOp
namespace Go.Proofs.YtjkffjngamagkaaDoor
open Go Go.RowKit Go.Arm Go.ChangeShapes Go.WideShapes Go.ChangeAt
theorem cellsScr : Tryd.prog.cellsOf 73 = 18 := by kernel_rfl
section
variable {H : Type} {enc : TypeId × Value → H} {w : World} {base : Nat} {spare : Nat → Bool} {held : Bool}
set_option maxRecDepth 100000 in
theorem open_script_at {fuel : Nat} {v : Value} {x : DataW H × List MemPlace} (h : DataW.trod enc Tryd.prog w base spare held fuel 67 [v] = some x) : ∃ l : List OpC, Sl w (· < w.heap.size) l v := by
 refine sl_open Tryd.underlying67 cellsScr h fun n cs' y hy => ?_
 obtain ⟨xs, n, rfl, rfl, hl, hlen, hf⟩ := DataW.trod_struct Tryd.underlying73 hy
 rw [cellsScr] at hl
 match cs', hl with
 | c0 :: c1 :: cn, hl =>
  match xs, hlen with
  | [y0, y1, y2], _ =>
   have hln : cn.length = 16 := by simpa using hl
   have k0 : DataW.trod enc Tryd.prog w base spare held n 5 [c0] = some y0 := by simpa [cellsU8] using hf 0 _ rfl
   have k1 : DataW.trod enc Tryd.prog w base spare held n 3 [c1] = some y1 := by simpa [cellsInt] using hf 1 _ rfl
   have k2 : DataW.trod enc Tryd.prog w base spare held n 36 cn = some y2 := by simpa [cellsNote, List.take_of_length_le (Nat.le_of_eq hln)] using hf 2 _ rfl
   obtain ⟨z0, e0, _, hz0⟩ := DataW.trod_int Tryd.underlying5 k0
   obtain ⟨z1, e1, _, hz1⟩ := DataW.trod_int Tryd.underlying3 k1
   simp only [List.cons.injEq, and_true] at e0 e1
   subst e0
   subst e1
   have b0 := bounds_u8 hz0
   obtain ⟨u0, rfl⟩ := u8_of b0.1 b0.2
   have b1 := bounds_i64 hz1
   obtain ⟨m, vp, vo, vv, vh, rfl, hn⟩ := open_note_at k2
   exact ⟨⟨u0, z1, m⟩, _, hn, rfl, b1⟩
set_option maxRecDepth 100000 in
theorem open_script {v : Value} {d : DataW H} {p : List MemPlace} {r : Reach} {b : Nat}
  (hval : Value.okWide Tryd.prog w r b 67 v) (h : DataW.Trod enc Tryd.prog w base spare held 67 v d p) : ∃ l : List OpC, Sl w (· < w.heap.size) l v := by
 obtain ⟨fuel, h⟩ := h
 rw [slice_cells Tryd.underlying67 hval] at h
 exact open_script_at h
end
end Go.Proofs.YtjkffjngamagkaaDoor
