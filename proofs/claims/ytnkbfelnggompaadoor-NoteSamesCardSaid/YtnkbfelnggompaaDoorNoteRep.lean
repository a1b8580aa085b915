/- Notes, their parts, ops and hits, in memory; the laws of slices at their types. -/
import Derived.Test.YtnkbfelnggompaaDoorVecs
namespace Go.Arm
open Go.RowKit

structure OpR where
  id : UInt64
  vec : List Int32
structure HitR where
  id : UInt64
  dist : UInt64
  vec : List Int32
/-- What is told, or written down. -/
structure NoteR where
  kind : UInt8
  txn : UInt64
  batch : UInt64
  stamp : UInt64
  after : UInt64
  mark : UInt64
  query : UInt64
  id : UInt64
  k : Int
  ef : Int
  code : Int
  who : Int
  parts : List Int
  ops : List OpR
  vec : List Int32
  hits : List HitR

def I64 (x : Int) : Prop := -9223372036854775808 ≤ x ∧ x ≤ 9223372036854775807

instance : Rep Int where
  sz := 1
  rd _ _ x cs := cs = [.int .i64 x] ∧ I64 x
  len h := by obtain ⟨rfl, _⟩ := h; rfl
  one h := by obtain ⟨rfl, _⟩ := h; intro u hu; simp at hu; subst hu; rfl
  keep h _ := h

instance : Rep OpR where
  sz := 2
  rd w S x cs := ∃ v, cs = [.int .u64 (x.id.toNat : Int), v] ∧ Sl w S x.vec v
  len h := by obtain ⟨_, rfl, _⟩ := h; rfl
  one h := by
    obtain ⟨_, rfl, h1⟩ := h
    obtain ⟨_, _, _, rfl⟩ := Sl.shape h1
    intro u hu
    simp at hu
    rcases hu with rfl | rfl <;> rfl
  keep h hk := by
    obtain ⟨v, rfl, h1⟩ := h
    exact ⟨v, rfl, h1.keep hk⟩

instance : Rep HitR where
  sz := 3
  rd w S x cs := ∃ v, cs = [.int .u64 (x.id.toNat : Int), .int .u64 (x.dist.toNat : Int), v] ∧ Sl w S x.vec v
  len h := by obtain ⟨_, rfl, _⟩ := h; rfl
  one h := by
    obtain ⟨_, rfl, h1⟩ := h
    obtain ⟨_, _, _, rfl⟩ := Sl.shape h1
    intro u hu
    simp at hu
    rcases hu with rfl | rfl | rfl <;> rfl
  keep h hk := by
    obtain ⟨v, rfl, h1⟩ := h
    exact ⟨v, rfl, h1.keep hk⟩

theorem add_add2 (a : Addr) (m i : Nat) : (a.add m).add i = a.add (m + i) := by
  unfold Addr.add
  by_cases hm : m = 0
  · subst hm; simp
  · by_cases hi : i = 0
    · subst hi; simp [hm]
    · simp [hm, hi]; omega

/-- &x[i], whatever the elements' cells. -/
theorem wpList_indexR {P : Program} {ops : Array Oper} {Q : Exit → Act → World → Prop} {a : Act} {w : World} {rest : List Oper} {dst : Option Tmp} {ty : TypeId} {pos : String} {after : Array Edge}
    {α : Type} [Rep α] {x i : Operand} {t e : TypeId} {z : Value} {bytes : Nat} {S : Nat → Prop} {l : List α} (hr : Row P t e z (Rep.sz α) bytes) (hsz : 0 < Rep.sz α) (hx : Sl w S l (a.eval x)) {k : IntKind} {n : Int} (hi : a.eval i = .int k n) (h0 : 0 ≤ n) (hn : n < l.length)
    (h : ∀ b o y cs, l[n.toNat]? = some y → Rep.rd w S y cs → (∀ j u, cs[j]? = some u → w.cell? ⟨b, o + j, none⟩ = some u) → wpList P ops Q rest (a.put dst (.pointer (some ⟨b, o, none⟩))) w) :
    wpList P ops Q (⟨dst, .indexAddr t x i, ty, pos, after, none⟩ :: rest) a w := by
  obtain ⟨ao, cap, cs, hv, _, _, hnone, hcs, _, hloc⟩ := hx
  have hlt : n.toNat < l.length := by omega
  obtain ⟨y, hy⟩ : ∃ y, l[n.toNat]? = some y := ⟨_, List.getElem?_eq_getElem hlt⟩
  obtain ⟨c, hc1, hc2⟩ := rds_get n.toNat hcs hy
  have hlen := Rep.len hc1
  obtain ⟨u0, hu0⟩ : ∃ u, c[0]? = some u := ⟨_, List.getElem?_eq_getElem (by omega)⟩
  cases ao with
  | none => have := hnone rfl; omega
  | some ad =>
    have f0 := hloc ad rfl _ _ (hc2 0 _ hu0)
    have hspot : ∃ b o, ad.add (n.toNat * Rep.sz α) = ⟨b, o, none⟩ := by
      rw [Nat.add_zero] at f0
      generalize ad.add (n.toNat * Rep.sz α) = q at f0
      obtain ⟨b, o, sp⟩ := q
      cases sp with
      | none => exact ⟨b, o, rfl⟩
      | some s =>
        exfalso
        unfold World.cell? at f0
        split at f0 <;> simp at f0
    obtain ⟨b, o, hq⟩ := hspot
    have he : P.elem t = e := by simp [Program.elem, hr.1]
    have hrun := run_indexAt_slice (P := P) w t ad l.length cap k n (by rw [he]; exact hr.1)
    rw [if_pos ⟨h0, hn⟩, he, run_sizeOf_row hr] at hrun
    simp only [Result.andThen, hq] at hrun
    refine wpList_plain rfl fun K hK => ?_
    unfold Oper.wp
    simp [execOp, hi, hv, hrun, Result.andThen]
    refine hK _ _ (h b o y c hy hc1 fun j u hu => ?_)
    have := hloc ad rfl _ _ (hc2 j u hu)
    rwa [← add_add2, hq, add_lit] at this
end Go.Arm
namespace Go.Proofs.YtnkbfelnggompaaDoor
open Go Go.RowKit Go.Arm

theorem rowP : Row Tryd.prog 25 3 (.int .i64 0) 1 8 := ⟨Tryd.underlying25, by kernel_rfl⟩
theorem rowO : Row Tryd.prog 26 32 (.agg #[.int .u64 0, .slice none 0 0]) 2 32 := ⟨Tryd.underlying26, by kernel_rfl⟩
theorem rowH : Row Tryd.prog 28 34 (.agg #[.int .u64 0, .int .u64 0, .slice none 0 0]) 3 40 := ⟨Tryd.underlying28, by kernel_rfl⟩

section
variable {ops : Array Oper} {Q : Exit → Act → World → Prop} {a : Act} {w : World} {rest : List Oper}
variable {dst : Option Tmp} {ty : TypeId} {pos : String} {after : Array Edge}
theorem len_P {x : Operand} {S : Nat → Prop} {l : List Int} (hx : Sl w S l (a.eval x)) (h : wpList Tryd.prog ops Q rest (a.put dst (.int .i64 (l.length : Int))) w) :
    wpList Tryd.prog ops Q (⟨dst, .call ⟨.builtin .len, #[x], #[25]⟩, ty, pos, after, none⟩ :: rest) a w := wpList_len rowP.1 hx h
theorem stop_index_P {x i : Operand} (h : Stop (wpList Tryd.prog ops Q (⟨dst, .indexAddr 25 x i, ty, pos, after, none⟩ :: rest) a w) .mk) : wpList Tryd.prog ops Q (⟨dst, .indexAddr 25 x i, ty, pos, after, none⟩ :: rest) a w := h
theorem len_O {x : Operand} {S : Nat → Prop} {l : List OpR} (hx : Sl w S l (a.eval x)) (h : wpList Tryd.prog ops Q rest (a.put dst (.int .i64 (l.length : Int))) w) :
    wpList Tryd.prog ops Q (⟨dst, .call ⟨.builtin .len, #[x], #[26]⟩, ty, pos, after, none⟩ :: rest) a w := wpList_len rowO.1 hx h
theorem stop_index_O {x i : Operand} (h : Stop (wpList Tryd.prog ops Q (⟨dst, .indexAddr 26 x i, ty, pos, after, none⟩ :: rest) a w) .mk) : wpList Tryd.prog ops Q (⟨dst, .indexAddr 26 x i, ty, pos, after, none⟩ :: rest) a w := h
theorem len_H {x : Operand} {S : Nat → Prop} {l : List HitR} (hx : Sl w S l (a.eval x)) (h : wpList Tryd.prog ops Q rest (a.put dst (.int .i64 (l.length : Int))) w) :
    wpList Tryd.prog ops Q (⟨dst, .call ⟨.builtin .len, #[x], #[28]⟩, ty, pos, after, none⟩ :: rest) a w := wpList_len rowH.1 hx h
theorem stop_index_H {x i : Operand} (h : Stop (wpList Tryd.prog ops Q (⟨dst, .indexAddr 28 x i, ty, pos, after, none⟩ :: rest) a w) .mk) : wpList Tryd.prog ops Q (⟨dst, .indexAddr 28 x i, ty, pos, after, none⟩ :: rest) a w := h

theorem idx_P {Q : Exit → Act → World → Prop} {x i : Operand} {S : Nat → Prop} {l : List Int} (hx : Sl w S l (a.eval x)) {k : IntKind} {n : Int} (hi : a.eval i = .int k n) (h0 : 0 ≤ n) (hn : n < l.length)
    (h : ∀ b o y, l[n.toNat]? = some y → I64 y → w.cell? ⟨b, o, none⟩ = some (.int .i64 y) → wpList Tryd.prog ops Q rest (a.put dst (.pointer (some ⟨b, o, none⟩))) w) :
    wpList Tryd.prog ops Q (⟨dst, .indexAddr 25 x i, ty, pos, after, none⟩ :: rest) a w :=
  wpList_indexR rowP (by decide) hx hi h0 hn fun b o y cs hy hr hc => by
    obtain ⟨rfl, h6⟩ := hr
    exact h b o y hy h6 (hc 0 _ rfl)
theorem idx_O {Q : Exit → Act → World → Prop} {x i : Operand} {S : Nat → Prop} {l : List OpR} (hx : Sl w S l (a.eval x)) {k : IntKind} {n : Int} (hi : a.eval i = .int k n) (h0 : 0 ≤ n) (hn : n < l.length)
    (h : ∀ b o y v, l[n.toNat]? = some y → Sl w S y.vec v → w.cell? ⟨b, o, none⟩ = some (.int .u64 (y.id.toNat : Int)) → w.cell? ⟨b, o + 1, none⟩ = some v → wpList Tryd.prog ops Q rest (a.put dst (.pointer (some ⟨b, o, none⟩))) w) :
    wpList Tryd.prog ops Q (⟨dst, .indexAddr 26 x i, ty, pos, after, none⟩ :: rest) a w :=
  wpList_indexR rowO (by decide) hx hi h0 hn fun b o y cs hy hr hc => by
    obtain ⟨v, rfl, h1⟩ := hr
    exact h b o y v hy h1 (hc 0 _ rfl) (hc 1 _ rfl)
theorem idx_H {Q : Exit → Act → World → Prop} {x i : Operand} {S : Nat → Prop} {l : List HitR} (hx : Sl w S l (a.eval x)) {k : IntKind} {n : Int} (hi : a.eval i = .int k n) (h0 : 0 ≤ n) (hn : n < l.length)
    (h : ∀ b o y v, l[n.toNat]? = some y → Sl w S y.vec v → w.cell? ⟨b, o, none⟩ = some (.int .u64 (y.id.toNat : Int)) → w.cell? ⟨b, o + 1, none⟩ = some (.int .u64 (y.dist.toNat : Int)) → w.cell? ⟨b, o + 2, none⟩ = some v → wpList Tryd.prog ops Q rest (a.put dst (.pointer (some ⟨b, o, none⟩))) w) :
    wpList Tryd.prog ops Q (⟨dst, .indexAddr 28 x i, ty, pos, after, none⟩ :: rest) a w :=
  wpList_indexR rowH (by decide) hx hi h0 hn fun b o y cs hy hr hc => by
    obtain ⟨v, rfl, h1⟩ := hr
    exact h b o y v hy h1 (hc 0 _ rfl) (hc 1 _ rfl) (hc 2 _ rfl)
end
end Go.Proofs.YtnkbfelnggompaaDoor
