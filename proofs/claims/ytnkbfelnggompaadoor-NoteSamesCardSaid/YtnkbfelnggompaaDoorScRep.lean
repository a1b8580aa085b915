/- Numbers and vectors in memory; the laws of XBase at their slices. -/
import Derived.Test.YtnkbfelnggompaaDoorScKit
namespace Go.Arm
open Go.RowKit

instance : Rep UInt64 where
  sz := 1
  rd _ _ x cs := cs = [.int .u64 (x.toNat : Int)]
  len h := by subst h; rfl
  one h := by subst h; intro u hu; simp at hu; subst hu; rfl
  keep h _ := h

instance : Rep Int32 where
  sz := 1
  rd _ _ x cs := cs = [.int .i32 x.toInt]
  len h := by subst h; rfl
  one h := by subst h; intro u hu; simp at hu; subst hu; rfl
  keep h _ := h
end Go.Arm
namespace Go.Proofs.YtnkbfelnggompaaDoor
open Go Go.RowKit Go.Arm

theorem rowN : Row Tryd.prog 127 23 (.int .u64 0) 1 8 := ⟨Tryd.underlying127, by kernel_rfl⟩
theorem rowV : Row Tryd.prog 27 21 (.int .i32 0) 1 4 := ⟨Tryd.underlying27, by kernel_rfl⟩
theorem rowVV : Row Tryd.prog 129 27 (.slice none 0 0) 1 24 := ⟨Tryd.underlying129, by kernel_rfl⟩

section
variable {ops : Array Oper} {Q : Exit → Act → World → Prop} {a : Act} {w : World} {rest : List Oper}
variable {dst : Option Tmp} {ty : TypeId} {pos : String} {after : Array Edge}

theorem len_N {x : Operand} {S : Nat → Prop} {l : List UInt64} (hx : Sl w S l (a.eval x)) (h : wpList Tryd.prog ops Q rest (a.put dst (.int .i64 (l.length : Int))) w) :
    wpList Tryd.prog ops Q (⟨dst, .call ⟨.builtin .len, #[x], #[127]⟩, ty, pos, after, none⟩ :: rest) a w := wpList_len rowN.1 hx h
theorem len_V {x : Operand} {S : Nat → Prop} {l : List Int32} (hx : Sl w S l (a.eval x)) (h : wpList Tryd.prog ops Q rest (a.put dst (.int .i64 (l.length : Int))) w) :
    wpList Tryd.prog ops Q (⟨dst, .call ⟨.builtin .len, #[x], #[27]⟩, ty, pos, after, none⟩ :: rest) a w := wpList_len rowV.1 hx h
theorem len_VV {x : Operand} {S : Nat → Prop} {l : List (List Int32)} (hx : Sl w S l (a.eval x)) (h : wpList Tryd.prog ops Q rest (a.put dst (.int .i64 (l.length : Int))) w) :
    wpList Tryd.prog ops Q (⟨dst, .call ⟨.builtin .len, #[x], #[129]⟩, ty, pos, after, none⟩ :: rest) a w := wpList_len rowVV.1 hx h

theorem stop_index_N {x i : Operand} (h : Stop (wpList Tryd.prog ops Q (⟨dst, .indexAddr 127 x i, ty, pos, after, none⟩ :: rest) a w) .mk) : wpList Tryd.prog ops Q (⟨dst, .indexAddr 127 x i, ty, pos, after, none⟩ :: rest) a w := h
theorem stop_index_V {x i : Operand} (h : Stop (wpList Tryd.prog ops Q (⟨dst, .indexAddr 27 x i, ty, pos, after, none⟩ :: rest) a w) .mk) : wpList Tryd.prog ops Q (⟨dst, .indexAddr 27 x i, ty, pos, after, none⟩ :: rest) a w := h
theorem stop_index_VV {x i : Operand} (h : Stop (wpList Tryd.prog ops Q (⟨dst, .indexAddr 129 x i, ty, pos, after, none⟩ :: rest) a w) .mk) : wpList Tryd.prog ops Q (⟨dst, .indexAddr 129 x i, ty, pos, after, none⟩ :: rest) a w := h

theorem idx_N {Q : Exit → Act → World → Prop} {x i : Operand} {S : Nat → Prop} {l : List UInt64} (hx : Sl w S l (a.eval x)) {k : IntKind} {n : Int} (hi : a.eval i = .int k n) (h0 : 0 ≤ n) (hn : n < l.length)
    (h : ∀ b o y, l[n.toNat]? = some y → w.cell? ⟨b, o, none⟩ = some (.int .u64 (y.toNat : Int)) → wpList Tryd.prog ops Q rest (a.put dst (.pointer (some ⟨b, o, none⟩))) w) :
    wpList Tryd.prog ops Q (⟨dst, .indexAddr 127 x i, ty, pos, after, none⟩ :: rest) a w :=
  wpList_index1 rowN rfl hx hi h0 hn fun b o u y h1 h2 h3 => h b o y h1 (by have h2 : [u] = [Value.int .u64 (y.toNat : Int)] := h2; simp at h2; rw [← h2]; exact h3)
theorem idx_V {Q : Exit → Act → World → Prop} {x i : Operand} {S : Nat → Prop} {l : List Int32} (hx : Sl w S l (a.eval x)) {k : IntKind} {n : Int} (hi : a.eval i = .int k n) (h0 : 0 ≤ n) (hn : n < l.length)
    (h : ∀ b o y, l[n.toNat]? = some y → w.cell? ⟨b, o, none⟩ = some (.int .i32 y.toInt) → wpList Tryd.prog ops Q rest (a.put dst (.pointer (some ⟨b, o, none⟩))) w) :
    wpList Tryd.prog ops Q (⟨dst, .indexAddr 27 x i, ty, pos, after, none⟩ :: rest) a w :=
  wpList_index1 rowV rfl hx hi h0 hn fun b o u y h1 h2 h3 => h b o y h1 (by have h2 : [u] = [Value.int .i32 y.toInt] := h2; simp at h2; rw [← h2]; exact h3)
theorem idx_VV {Q : Exit → Act → World → Prop} {x i : Operand} {S : Nat → Prop} {l : List (List Int32)} (hx : Sl w S l (a.eval x)) {k : IntKind} {n : Int} (hi : a.eval i = .int k n) (h0 : 0 ≤ n) (hn : n < l.length)
    (h : ∀ b o y u, l[n.toNat]? = some y → Sl w S y u → w.cell? ⟨b, o, none⟩ = some u → wpList Tryd.prog ops Q rest (a.put dst (.pointer (some ⟨b, o, none⟩))) w) :
    wpList Tryd.prog ops Q (⟨dst, .indexAddr 129 x i, ty, pos, after, none⟩ :: rest) a w :=
  wpList_index1 rowVV rfl hx hi h0 hn fun b o u y h1 h2 h3 => by
    obtain ⟨v, hv, h4⟩ := h2
    simp at hv; subst hv
    exact h b o y u h1 h4 h3

/-- []uint64{x, ..} -/
theorem build_N {Q : Exit → Act → World → Prop} {n : Nat} {ps : Array (Nat × Operand)} {S : Nat → Prop} (l : List UInt64) (vs : List Value) (hps : (ps.toList.map fun x => (x.1, a.eval x.2)) = vs.zipIdx.map fun x => (x.2, x.1)) (hn : n = vs.length)
    (hvs : rds w S l vs) (hl : l.length ≤ 16777216)
    (h : ∀ v w', Own w' w.heap.size 23 S l v → w.grownBy w' none → v.ownBlock = some w.heap.size → w'.heap.size = w.heap.size + 1 → wpList Tryd.prog ops Q rest (a.put dst v) w') :
    wpList Tryd.prog ops Q (⟨dst, .buildSlice 127 n ps, ty, pos, after, none⟩ :: rest) a w :=
  wpList_build1 rowN rfl l vs hps hn hvs hl h
/-- []int32{x, ..} -/
theorem build_V {Q : Exit → Act → World → Prop} {n : Nat} {ps : Array (Nat × Operand)} {S : Nat → Prop} (l : List Int32) (vs : List Value) (hps : (ps.toList.map fun x => (x.1, a.eval x.2)) = vs.zipIdx.map fun x => (x.2, x.1)) (hn : n = vs.length)
    (hvs : rds w S l vs) (hl : l.length ≤ 16777216)
    (h : ∀ v w', Own w' w.heap.size 21 S l v → w.grownBy w' none → v.ownBlock = some w.heap.size → w'.heap.size = w.heap.size + 1 → wpList Tryd.prog ops Q rest (a.put dst v) w') :
    wpList Tryd.prog ops Q (⟨dst, .buildSlice 27 n ps, ty, pos, after, none⟩ :: rest) a w :=
  wpList_build1 rowV rfl l vs hps hn hvs hl h
/-- [][]int32{x, ..} -/
theorem build_VV {Q : Exit → Act → World → Prop} {n : Nat} {ps : Array (Nat × Operand)} {S : Nat → Prop} (l : List (List Int32)) (vs : List Value) (hps : (ps.toList.map fun x => (x.1, a.eval x.2)) = vs.zipIdx.map fun x => (x.2, x.1)) (hn : n = vs.length)
    (hvs : rds w S l vs) (hl : l.length ≤ 16777216)
    (h : ∀ v w', Own w' w.heap.size 27 S l v → w.grownBy w' none → v.ownBlock = some w.heap.size → w'.heap.size = w.heap.size + 1 → wpList Tryd.prog ops Q rest (a.put dst v) w') :
    wpList Tryd.prog ops Q (⟨dst, .buildSlice 129 n ps, ty, pos, after, none⟩ :: rest) a w :=
  wpList_build1 rowVV rfl l vs hps hn hvs hl h
end

theorem rds_N {w : World} {S : Nat → Prop} {l : List UInt64} : rds w S l (l.map fun x => Value.int .u64 (x.toNat : Int)) := by
  induction l with
  | nil => rfl
  | cons x l ih => exact ⟨[_], _, rfl, rfl, ih⟩
theorem rds_V {w : World} {S : Nat → Prop} {l : List Int32} : rds w S l (l.map fun x => Value.int .i32 x.toInt) := by
  induction l with
  | nil => rfl
  | cons x l ih => exact ⟨[_], _, rfl, rfl, ih⟩
end Go.Proofs.YtnkbfelnggompaaDoor
