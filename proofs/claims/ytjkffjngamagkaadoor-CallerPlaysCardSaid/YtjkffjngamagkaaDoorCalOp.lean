/- armillarylaw19: scripts in memory; one step of a script. -/
import Derived.Test.YtjkffjngamagkaaDoorCal9
namespace Go.Arm
open Go.RowKit
structure OpC where
 act : UInt8
 src : Int
 note : NoteR
def CallR.step (c : CallR) (o : OpC) : CallR :=
 if o.act.toNat % 11 ≤ 2 then c.put (fewN o.note).batch (fewN o.note).ops
 else if o.act.toNat % 11 ≤ 4 then c.ask (fewN o.note)
 else c.hearN o.src (fewN o.note)
theorem CallR.Ok.step {c : CallR} (h : c.Ok) (o : OpC) : (c.step o).Ok := by
 unfold CallR.step
 split
 ·exact h.put _ _
 ·split
  ·exact h.ask _
  ·exact h.hearN _ _
end Go.Arm
namespace Go.Proofs.YtjkffjngamagkaaDoor
open Go Go.RowKit Go.Arm
instance : Rep OpC where
 sz := 18
 rd w S x cs := ∃ V, Nt w S x.note V ∧ cs = .int .u8 (x.act.toNat : Int) :: .int .i64 x.src :: V.cells.toList ∧ I64 x.src
 len h := by
  obtain ⟨V, ⟨_, _, _, _, rfl, _⟩, rfl, _⟩ := h
  rfl
 one {w S x cs} h := by
  obtain ⟨V, ⟨vp, vo, vv, vh, rfl, h1, h2, h3, h4, _⟩, rfl, _⟩ := h
  have := noteV_one x.note (Sl.slv h1) (Sl.slv h2) (Sl.slv h3) (Sl.slv h4)
  intro u hu
  simp only [List.mem_cons] at hu
  rcases hu with rfl | rfl | hu
  ·rfl
  ·rfl
  ·exact (Array.all_eq_true_iff_forall_mem.1 this) u (by simpa using hu)
 keep h hk := by
  obtain ⟨V, h1, h2, h3⟩ := h
  exact ⟨V, h1.keep hk, h2, h3⟩
theorem rowC : Row Tryd.prog 67 73 (.agg #[.int .u8 0, .int .i64 0, .int .u8 0, .int .u64 0, .int .u64 0, .int .u64 0, .int .u64 0, .int .u64 0, .int .u64 0, .int .u64 0, .int .i64 0, .int .i64 0, .int .i64 0, .int .i64 0, .slice none 0 0, .slice none 0 0, .slice none 0 0, .slice none 0 0]) 18 208 := ⟨Tryd.underlying67, by kernel_rfl⟩
section
variable {ops : Array Oper} {Q : Exit → Act → World → Prop} {a : Act} {w : World} {rest : List Oper}
variable {dst : Option Tmp} {ty : TypeId} {pos : String} {after : Array Edge}
theorem len_C {x : Operand} {S : Nat → Prop} {l : List OpC} (hx : Sl w S l (a.eval x)) (h : wpList Tryd.prog ops Q rest (a.put dst (.int .i64 (l.length : Int))) w) :
  wpList Tryd.prog ops Q (⟨dst, .call ⟨.builtin .len, #[x], #[67]⟩, ty, pos, after, none⟩ :: rest) a w := wpList_len rowC.1 hx h
theorem idx_C {Q : Exit → Act → World → Prop} {x i : Operand} {S : Nat → Prop} {l : List OpC} (hx : Sl w S l (a.eval x)) {k : IntKind} {n : Int} (hi : a.eval i = .int k n) (h0 : 0 ≤ n) (hn : n < l.length)
  (h : ∀ b o y vp vo vv vh, l[n.toNat]? = some y → Nt w S y.note (noteV y.note vp vo vv vh) → I64 y.src → (∀ j u, (.int .u8 (y.act.toNat : Int) :: .int .i64 y.src :: (noteV y.note vp vo vv vh).cells.toList : List Value)[j]? = some u → w.cell? ⟨b, o + j, none⟩ = some u) → wpList Tryd.prog ops Q rest (a.put dst (.pointer (some ⟨b, o, none⟩))) w) :
  wpList Tryd.prog ops Q (⟨dst, .indexAddr 67 x i, ty, pos, after, none⟩ :: rest) a w :=
 wpList_indexR rowC (by show 0 < 18; decide) hx hi h0 hn fun b o y cs hy hr hc => by
  obtain ⟨V, hV, rfl, h6⟩ := hr
  obtain ⟨vp, vo, vv, vh, rfl, _⟩ := id hV
  exact h b o y vp vo vv vh hy hV h6 hc
end
end Go.Proofs.YtjkffjngamagkaaDoor
