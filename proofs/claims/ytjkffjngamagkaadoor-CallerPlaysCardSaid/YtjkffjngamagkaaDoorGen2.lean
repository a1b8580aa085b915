/- Loads of a struct that lies within a block; rows of pointers. -/
import Derived.Test.YtjkffjngamagkaaDoorGen
import Derived.Test.YtjkffjngamagkaaDoorCal
namespace Go.Arm
open Go.RowKit
section
variable {P : Program} {ops : Array Oper} {Q : Exit → Act → World → Prop} {a : Act} {w : World} {rest : List Oper}
variable {dst : Option Tmp} {ty : TypeId} {pos : String} {after : Array Edge}
theorem run_load_cells {t : TypeId} {d : TypeDesc} {ds : List Value} {g o : Nat} (hu : P.underlying t = some d) (hd : (match d with | .struct _ | .array _ _ => true | _ => false) = true) (hi : (P.info? t).map (·.size) = some ds.length) (w : World)
  (h : ∀ j v, ds[j]? = some v → w.cell? ⟨g, o + j, none⟩ = some v) : (Instr.loadAt t (.pointer (some ⟨g, o, none⟩))).run P w = .ok (.agg ds.toArray) w := by
 obtain ⟨inf, hi1, hi2⟩ := Option.map_eq_some_iff.1 hi
 have hl : (loadCells ⟨g, o, none⟩ ds.length).run P w = .ok ds.toArray w := run_loadCells_list (P := P) w ⟨g, o, none⟩ ds fun j v hv => by rw [add_lit]; exact h j v hv
 have ha : (isAgg t).run P w = .ok true w := by
  unfold isAgg
  rw [Sem.run_bind, run_underlying hu w]
  cases d <;> simp_all
 simp only [Instr.loadAt, Instr.sureAddr, Sem.run_bind, Sem.run_pure, Result.andThen_ok, loadVar, ha, if_true, sizeOf, typeInfo]
 simp [hi1, hi2, hl]
theorem run_load_sub {t T : TypeId} {d : TypeDesc} {cs : Array Value} {g o : Nat} (ds : List Value) (hu : P.underlying t = some d) (hd : (match d with | .struct _ | .array _ _ => true | _ => false) = true) (hi : (P.info? t).map (·.size) = some ds.length)
  (hs : (cs.toList.drop o).take ds.length = ds) (w : World) (hg : Blk w g T cs) : (Instr.loadAt t (.pointer (some ⟨g, o, none⟩))).run P w = .ok (.agg ds.toArray) w :=
 run_load_cells hu hd hi w fun j v hv => by
  rw [hg.cell (o + j), ← Array.getElem?_toList]
  have hl := (List.getElem?_eq_some_iff.1 hv).1
  rw [← hs, List.getElem?_take, if_pos hl, List.getElem?_drop] at hv
  exact hv
theorem blk_load_sub {t T : TypeId} {d : TypeDesc} {cs : Array Value} {g o : Nat} {x : Operand} (ds : List Value) (hu : P.underlying t = some d) (hd : (match d with | .struct _ | .array _ _ => true | _ => false) = true) (hi : (P.info? t).map (·.size) = some ds.length)
  (hg : Blk w g T cs) (hx : a.eval x = .pointer (some ⟨g, o, none⟩)) (hs : (cs.toList.drop o).take ds.length = ds) (h : wpList P ops Q rest (a.put dst (.agg ds.toArray)) w) :
  wpList P ops Q (⟨dst, .load t x, ty, pos, after, none⟩ :: rest) a w := by
 refine wpList_plain rfl fun K hK => ?_
 have hrun := run_load_sub (P := P) ds hu hd hi hs w hg
 unfold Oper.wp
 simp only [execOp, hx, Sem.run_bind, hrun, Result.andThen_ok, Sem.run_pure]
 exact hK _ _ h
theorem blk_yields_sub {S : World → Prop} {t T : TypeId} {d : TypeDesc} {cs : Array Value} {g o : Nat} {x : Operand} {gd : Option (Nat × Bool)} (ds : List Value) (hu : P.underlying t = some d) (hd : (match d with | .struct _ | .array _ _ => true | _ => false) = true) (hi : (P.info? t).map (·.size) = some ds.length)
  (hw : Region.wanted ⟨dst, .load t x, ty, pos, after, gd⟩ (yielded ops a.tmps) = true) (hx : a.eval x = .pointer (some ⟨g, o, none⟩)) (hs : (cs.toList.drop o).take ds.length = ds) (hg : ∀ w, S w → Blk w g T cs) :
  YieldsIf P ops S ⟨dst, .load t x, ty, pos, after, gd⟩ (.agg ds.toArray) a := by
 refine .inl ⟨hw, fun w hS => ?_⟩
 have hrun := run_load_sub (P := P) ds hu hd hi hs w (hg w hS)
 simp only [execOp, hx, Sem.run_bind, hrun, Result.andThen_ok, Sem.run_pure]
end
theorem rds_ptr {w w' : World} {S S' : Nat → Prop} : ∀ {l : List Nat} {cs : List Value}, rds w S l cs → rds w' S' l cs
 | [], _, h => h
 | _ :: _, _, h => by
  obtain ⟨c, d, rfl, h1, h2⟩ := h
  exact ⟨c, d, rfl, h1, rds_ptr h2⟩
end Go.Arm
namespace Go.Arm
open Go.RowKit
theorem own_type {α : Type} [Rep α] {w : World} {B : Nat} {e : TypeId} {S : Nat → Prop} {l : List α} {v : Value} (h : Own w B e S l v) {k : Nat} (hk : v.ownBlock = some k) : ∃ cur, w.heap[k]? = some (.cells cur e (0, 0)) := by
 obtain ⟨cs, _, h2⟩ := h
 rcases h2 with ⟨rfl, _⟩ | ⟨g, o, cap, cur, rfl, _, hh, _⟩
 ·cases hk
 ·cases hk; exact ⟨cur, hh⟩
end Go.Arm
namespace Go.Arm
open Go.RowKit
theorem blk_ne {w : World} {k k' : Nat} {t t' : TypeId} {cs cs' : Array Value} {fr fr' : Nat × Nat} (h : w.heap[k]? = some (.cells cs t fr)) (h' : w.heap[k']? = some (.cells cs' t' fr')) (ht : t ≠ t') : k ≠ k' := by
 rintro rfl
 rw [h] at h'
 simp at h'
 exact ht h'.2.1
theorem own_ne {α : Type} [Rep α] {w : World} {B : Nat} {e : TypeId} {S : Nat → Prop} {l : List α} {v : Value} (h : Own w B e S l v) {k : Nat} {t : TypeId} {cs : Array Value} (hb : Blk w k t cs) (ht : e ≠ t) : v.ownBlock ≠ some k := by
 intro e1
 obtain ⟨cur, hr⟩ := own_type h e1
 exact blk_ne hr hb ht rfl
theorem own_ne2 {α β : Type} [Rep α] [Rep β] {w : World} {B B' : Nat} {e e' : TypeId} {S S' : Nat → Prop} {l : List α} {l' : List β} {v v' : Value} (h : Own w B e S l v) (h' : Own w B' e' S' l' v') (ht : e ≠ e') {k : Nat} (hk : v.ownBlock = some k) : v'.ownBlock ≠ some k := by
 intro e1
 obtain ⟨cur, hr⟩ := own_type h hk
 obtain ⟨cur', hr'⟩ := own_type h' e1
 exact blk_ne hr hr' ht rfl
end Go.Arm
namespace Go.Arm
open Go.RowKit
section
variable {P : Program} {ops : Array Oper} {Q : Exit → Act → World → Prop} {a : Act} {w : World} {rest : List Oper}
variable {dst : Option Tmp} {ty : TypeId} {pos : String} {after : Array Edge}
theorem cell_load {t : TypeId} {b o : Nat} {x : Operand} {v : Value} (ht : One P t) (hc : w.cell? ⟨b, o, none⟩ = some v) (hx : a.eval x = .pointer (some ⟨b, o, none⟩)) (h : wpList P ops Q rest (a.put dst v) w) :
  wpList P ops Q (⟨dst, .load t x, ty, pos, after, none⟩ :: rest) a w := by
 refine wpList_plain rfl fun K hK => ?_
 have hrun : (Instr.loadAt t (.pointer (some ⟨b, o, none⟩))).run P w = .ok v w := by
  simp only [Instr.loadAt, Instr.sureAddr, Sem.run_bind, Sem.run_pure, Result.andThen_ok, loadVar, ht.2 w, Bool.false_eq_true, if_false]
  simp [hc]
 unfold Oper.wp
 simp only [execOp, hx, Sem.run_bind, hrun, Result.andThen_ok, Sem.run_pure]
 exact hK _ _ h
theorem cells_load {t : TypeId} {d : TypeDesc} {b o : Nat} {x : Operand} (ds : List Value) (hu : P.underlying t = some d) (hd : (match d with | .struct _ | .array _ _ => true | _ => false) = true) (hi : (P.info? t).map (·.size) = some ds.length)
  (hx : a.eval x = .pointer (some ⟨b, o, none⟩)) (hc : ∀ j v, ds[j]? = some v → w.cell? ⟨b, o + j, none⟩ = some v) (h : wpList P ops Q rest (a.put dst (.agg ds.toArray)) w) :
  wpList P ops Q (⟨dst, .load t x, ty, pos, after, none⟩ :: rest) a w := by
 refine wpList_plain rfl fun K hK => ?_
 have hrun := run_load_cells (P := P) hu hd hi w hc
 unfold Oper.wp
 simp only [execOp, hx, Sem.run_bind, hrun, Result.andThen_ok, Sem.run_pure]
 exact hK _ _ h
end
theorem cells3 {w : World} {b o : Nat} {x0 x1 x2 : Value} (h0 : w.cell? ⟨b, o, none⟩ = some x0) (h1 : w.cell? ⟨b, o + 1, none⟩ = some x1) (h2 : w.cell? ⟨b, o + 2, none⟩ = some x2) : ∀ j v, [x0, x1, x2][j]? = some v → w.cell? ⟨b, o + j, none⟩ = some v := by
 intro j v h
 match j, h with
 | 0, h => simp at h; subst h; exact h0
 | 1, h => simp at h; subst h; exact h1
 | 2, h => simp at h; subst h; exact h2
end Go.Arm
