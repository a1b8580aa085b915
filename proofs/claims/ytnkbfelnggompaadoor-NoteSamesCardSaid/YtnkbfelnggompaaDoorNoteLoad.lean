/- A note in a block of its own is loaded, stored and boxed as one value. -/
import Derived.Test.YtnkbfelnggompaaDoorNoteRBox
import Derived.Test.YtnkbfelnggompaaDoorNotePk
import Derived.Test.YtnkbfelnggompaaDoorDrawn
import Derived.Laws.Rows
import Derived.Laws.Tables
namespace Go.Arm
open Go.RowKit
section
variable {P : Program} {ops : Array Oper} {Q : Exit → Act → World → Prop} {a : Act} {w : World} {rest : List Oper}
variable {dst : Option Tmp} {ty : TypeId} {pos : String} {after : Array Edge}
/-- A block that holds one struct is loaded whole. -/
theorem run_load_blk {t : TypeId} {cs : Array Value} {g : Nat} {d : TypeDesc} (hu : P.underlying t = some d) (hd : (match d with | .struct _ | .array _ _ => true | _ => false) = true) (hi : (P.info? t).map (·.size) = some cs.size) (w : World) (hg : w.heap[g]? = some (.cells cs t (0, 0))) :
    (Instr.loadAt t (.pointer (some ⟨g, 0, none⟩))).run P w = .ok (.agg cs) w := by
  simp only [Instr.loadAt, Instr.sureAddr, Sem.run_bind, Sem.run_pure, Result.andThen_ok, run_loadVar_row w g t t cs (0, 0) d hg hu hd hi]
theorem run_store_blk {t : TypeId} {old cs : Array Value} {g : Nat} (hi : (P.info? t).map (·.size) = some cs.size) (ho : old.size = cs.size) (h1 : cs.all (·.oneCell') = true) (w : World) (hg : w.heap[g]? = some (.cells old t (0, 0))) :
    (Instr.storeAt t (.pointer (some ⟨g, 0, none⟩)) (.agg cs)).run P w = .ok () (w.setRow g cs) := by
  simp only [Instr.storeAt, Instr.sureAddr, Sem.run_bind, Sem.run_pure, Result.andThen_ok, run_storeVar_row w g t t old cs hg hi ho h1]
theorem only_setRow (w : World) (g : Nat) (cs : Array Value) : Only (fun k => k = g) w (w.setRow g cs) :=
  ⟨rfl, rfl, rfl, by simp, fun k _ hf => setRow_other w g k cs hf⟩
end
end Go.Arm
namespace Go.Proofs.YtnkbfelnggompaaDoor
open Go Go.RowKit Go.Arm
theorem size_alloc' (w : World) (o : Obj) : (w.alloc o).heap.size = w.heap.size + 1 := by
  show (w.heap.push o).size = _
  exact Array.size_push _
/-- The values of the four slices are slices. -/
def SlV (v : Value) : Prop := ∃ ao n c, v = .slice ao n c
theorem Sl.slv {α : Type} [Rep α] {w : World} {S : Nat → Prop} {l : List α} {v : Value} (h : Sl w S l v) : SlV v := Sl.shape h
theorem noteV_one (n : NoteR) {vp vo vv vh : Value} (h1 : SlV vp) (h2 : SlV vo) (h3 : SlV vv) (h4 : SlV vh) : (noteV n vp vo vv vh).cells.all (·.oneCell') = true := by
  obtain ⟨_, _, _, rfl⟩ := h1
  obtain ⟨_, _, _, rfl⟩ := h2
  obtain ⟨_, _, _, rfl⟩ := h3
  obtain ⟨_, _, _, rfl⟩ := h4
  simp [noteV, Value.cells, Value.oneCell']
theorem noteV_agg (n : NoteR) (vp vo vv vh : Value) : noteV n vp vo vv vh = .agg (noteV n vp vo vv vh).cells := rfl
section
variable {ops : Array Oper} {Q : Exit → Act → World → Prop} {a : Act} {w : World} {rest : List Oper}
variable {dst : Option Tmp} {ty : TypeId} {pos : String} {after : Array Edge}

theorem Box.row {w : World} {b : Nat} {n : NoteR} {vp vo vv vh : Value} : Box w b n vp vo vv vh ↔ w.heap[b]? = some (.cells (noteV n vp vo vv vh).cells 38 (0, 0)) := Iff.rfl
theorem run_load_N {b : Nat} {n : NoteR} {vp vo vv vh : Value} (w : World) (hb : Box w b n vp vo vv vh) : (Instr.loadAt 38 (.pointer (some ⟨b, 0, none⟩))).run Tryd.prog w = .ok (noteV n vp vo vv vh) w := by
  rw [noteV_agg]
  exact run_load_blk (P := Tryd.prog) Tryd.underlying38 rfl (by kernel_rfl) w hb
/-- *p of a note -/
theorem load_N {Q : Exit → Act → World → Prop} {x : Operand} {b : Nat} {n : NoteR} {vp vo vv vh : Value} (hb : Box w b n vp vo vv vh) (hx : a.eval x = .pointer (some ⟨b, 0, none⟩)) (h : wpList Tryd.prog ops Q rest (a.put dst (noteV n vp vo vv vh)) w) :
    wpList Tryd.prog ops Q (⟨dst, .load 38 x, ty, pos, after, none⟩ :: rest) a w := by
  refine wpList_plain rfl fun K hK => ?_
  have hrun := run_load_N w hb
  unfold Oper.wp
  simp only [execOp, hx, Sem.run_bind, hrun, Result.andThen_ok, Sem.run_pure]
  exact hK _ _ h
theorem yields_N {S : World → Prop} {x : Operand} {g : Option (Nat × Bool)} {b : Nat} {n : NoteR} {vp vo vv vh : Value} (hw : Region.wanted ⟨dst, .load 38 x, ty, pos, after, g⟩ (yielded ops a.tmps) = true) (hx : a.eval x = .pointer (some ⟨b, 0, none⟩)) (hb : ∀ w, S w → Box w b n vp vo vv vh) : YieldsIf Tryd.prog ops S ⟨dst, .load 38 x, ty, pos, after, g⟩ (noteV n vp vo vv vh) a := by
  refine .inl ⟨hw, fun w hS => ?_⟩
  have hrun := run_load_N w (hb w hS)
  simp only [execOp, hx, Sem.run_bind, hrun, Result.andThen_ok, Sem.run_pure]
theorem Box.stored {w : World} {b : Nat} {n m : NoteR} {vp vo vv vh up uo uv uh : Value} (h : Box w b n vp vo vv vh) : Box (w.setRow b (noteV m up uo uv uh).cells) b m up uo uv uh := by
  rw [Box.row] at h ⊢
  exact setRow_heap w b _ _ _ _ h
theorem run_store_N {b : Nat} {n m : NoteR} {vp vo vv vh up uo uv uh : Value} (w : World) (hb : Box w b n vp vo vv vh) (h1 : SlV up) (h2 : SlV uo) (h3 : SlV uv) (h4 : SlV uh) : (Instr.storeAt 38 (.pointer (some ⟨b, 0, none⟩)) (noteV m up uo uv uh)).run Tryd.prog w = .ok () (w.setRow b (noteV m up uo uv uh).cells) := by
  conv => lhs; rw [noteV_agg]
  exact run_store_blk (P := Tryd.prog) (old := (noteV n vp vo vv vh).cells) (cs := (noteV m up uo uv uh).cells) (by kernel_rfl) rfl (noteV_one m h1 h2 h3 h4) w hb
/-- *p = v of a note -/
theorem store_N {Q : Exit → Act → World → Prop} {x y : Operand} {b : Nat} {n m : NoteR} {vp vo vv vh up uo uv uh : Value} (hb : Box w b n vp vo vv vh) (hx : a.eval x = .pointer (some ⟨b, 0, none⟩)) (hy : a.eval y = noteV m up uo uv uh) (h1 : SlV up) (h2 : SlV uo) (h3 : SlV uv) (h4 : SlV uh)
    (h : ∀ w', Box w' b m up uo uv uh → Only (fun k => k = b) w w' → w'.heap.size = w.heap.size → wpList Tryd.prog ops Q rest (a.put dst undef) w') :
    wpList Tryd.prog ops Q (⟨dst, .store 38 x y, ty, pos, after, none⟩ :: rest) a w := by
  refine wpList_plain rfl fun K hK => ?_
  have hrun := run_store_N (m := m) w hb h1 h2 h3 h4
  unfold Oper.wp
  simp only [execOp, hx, hy, Sem.run_bind, hrun, Result.andThen_ok, Sem.run_pure]
  exact hK _ _ (h _ hb.stored (only_setRow w b _) (by simp))
theorem step_store_N {K : Act → World → Prop} {Q : Exit → Act → World → Prop} {E : Prop} {x y : Operand} {b : Nat} {n m : NoteR} {vp vo vv vh up uo uv uh : Value} (hb : Box w b n vp vo vv vh) (hx : a.eval x = .pointer (some ⟨b, 0, none⟩)) (hy : a.eval y = noteV m up uo uv uh) (h1 : SlV up) (h2 : SlV uo) (h3 : SlV uv) (h4 : SlV uh)
    (h : ∀ w', Box w' b m up uo uv uh → Only (fun k => k = b) w w' → w'.heap.size = w.heap.size → K (a.put dst undef) w') :
    if Region.wanted ⟨dst, .store 38 x y, ty, pos, after, none⟩ (yielded ops a.tmps) = true then Oper.wp Tryd.prog ⟨dst, .store 38 x y, ty, pos, after, none⟩ a w K Q else E := by
  rw [if_pos (by simp [Region.wanted])]
  have hrun := run_store_N (m := m) w hb h1 h2 h3 h4
  unfold Oper.wp
  simp only [execOp, hx, hy, Sem.run_bind, hrun, Result.andThen_ok, Sem.run_pure]
  exact h _ hb.stored (only_setRow w b _) (by simp)
/-- A note's block is made. -/
theorem box_N {Q : Exit → Act → World → Prop} {x : Operand} {n : NoteR} {vp vo vv vh : Value} (hx : a.eval x = noteV n vp vo vv vh)
    (h : ∀ g w', Box w' g n vp vo vv vh → w.heap.size ≤ g → Below w.heap.size w w' → wpList Tryd.prog ops Q rest (a.put dst (.pointer (some ⟨g, 0, none⟩))) w') :
    wpList Tryd.prog ops Q (⟨dst, .box 38 x, ty, pos, after, none⟩ :: rest) a w := by
  refine wpList_plain rfl fun K hK => ?_
  have hrun : (Instr.box 38 (noteV n vp vo vv vh)).run Tryd.prog w = .ok (.pointer (some ⟨w.heap.size, 0, none⟩)) (w.alloc (.cells (noteV n vp vo vv vh).cells 38)) := by
    simp [Instr.box, newVar, newRow]
  unfold Oper.wp
  simp only [execOp, hx, Sem.run_bind, hrun, Result.andThen_ok, Sem.run_pure]
  exact hK _ _ (h _ _ (Box.new w n vp vo vv vh) (Nat.le_refl _) ((Below.refl _ _).alloc (Nat.le_refl _) _))
theorem stop_load_N {x : Operand} (h : Stop (wpList Tryd.prog ops Q (⟨dst, .load 38 x, ty, pos, after, none⟩ :: rest) a w) .mk) : wpList Tryd.prog ops Q (⟨dst, .load 38 x, ty, pos, after, none⟩ :: rest) a w := h
theorem stop_store_N {x y : Operand} (h : Stop (wpList Tryd.prog ops Q (⟨dst, .store 38 x y, ty, pos, after, none⟩ :: rest) a w) .mk) : wpList Tryd.prog ops Q (⟨dst, .store 38 x y, ty, pos, after, none⟩ :: rest) a w := h
theorem stop_box_N {x : Operand} (h : Stop (wpList Tryd.prog ops Q (⟨dst, .box 38 x, ty, pos, after, none⟩ :: rest) a w) .mk) : wpList Tryd.prog ops Q (⟨dst, .box 38 x, ty, pos, after, none⟩ :: rest) a w := h
theorem stop_alloc_N (h : Stop (wpList Tryd.prog ops Q (⟨dst, .alloc 38, ty, pos, after, none⟩ :: rest) a w) .mk) : wpList Tryd.prog ops Q (⟨dst, .alloc 38, ty, pos, after, none⟩ :: rest) a w := h
theorem stop_build_N {ps : Array (Nat × Operand)} (h : Stop (wpList Tryd.prog ops Q (⟨dst, .build 38 ps, ty, pos, after, none⟩ :: rest) a w) .mk) : wpList Tryd.prog ops Q (⟨dst, .build 38 ps, ty, pos, after, none⟩ :: rest) a w := h

theorem RBox.row {w : World} {b : Nat} {n : NoteR} {vp vo vv vh : Value} : RBox w b n vp vo vv vh ↔ w.heap[b]? = some (.cells (noteV n vp vo vv vh).cells 30 (0, 0)) := Iff.rfl
theorem run_load_R {b : Nat} {n : NoteR} {vp vo vv vh : Value} (w : World) (hb : RBox w b n vp vo vv vh) : (Instr.loadAt 30 (.pointer (some ⟨b, 0, none⟩))).run Tryd.prog w = .ok (noteV n vp vo vv vh) w := by
  rw [noteV_agg]
  exact run_load_blk (P := Tryd.prog) Tryd.underlying30 rfl (by kernel_rfl) w hb
/-- *p of a note -/
theorem load_R {Q : Exit → Act → World → Prop} {x : Operand} {b : Nat} {n : NoteR} {vp vo vv vh : Value} (hb : RBox w b n vp vo vv vh) (hx : a.eval x = .pointer (some ⟨b, 0, none⟩)) (h : wpList Tryd.prog ops Q rest (a.put dst (noteV n vp vo vv vh)) w) :
    wpList Tryd.prog ops Q (⟨dst, .load 30 x, ty, pos, after, none⟩ :: rest) a w := by
  refine wpList_plain rfl fun K hK => ?_
  have hrun := run_load_R w hb
  unfold Oper.wp
  simp only [execOp, hx, Sem.run_bind, hrun, Result.andThen_ok, Sem.run_pure]
  exact hK _ _ h
theorem yields_R {S : World → Prop} {x : Operand} {g : Option (Nat × Bool)} {b : Nat} {n : NoteR} {vp vo vv vh : Value} (hw : Region.wanted ⟨dst, .load 30 x, ty, pos, after, g⟩ (yielded ops a.tmps) = true) (hx : a.eval x = .pointer (some ⟨b, 0, none⟩)) (hb : ∀ w, S w → RBox w b n vp vo vv vh) : YieldsIf Tryd.prog ops S ⟨dst, .load 30 x, ty, pos, after, g⟩ (noteV n vp vo vv vh) a := by
  refine .inl ⟨hw, fun w hS => ?_⟩
  have hrun := run_load_R w (hb w hS)
  simp only [execOp, hx, Sem.run_bind, hrun, Result.andThen_ok, Sem.run_pure]
theorem RBox.stored {w : World} {b : Nat} {n m : NoteR} {vp vo vv vh up uo uv uh : Value} (h : RBox w b n vp vo vv vh) : RBox (w.setRow b (noteV m up uo uv uh).cells) b m up uo uv uh := by
  rw [RBox.row] at h ⊢
  exact setRow_heap w b _ _ _ _ h
theorem run_store_R {b : Nat} {n m : NoteR} {vp vo vv vh up uo uv uh : Value} (w : World) (hb : RBox w b n vp vo vv vh) (h1 : SlV up) (h2 : SlV uo) (h3 : SlV uv) (h4 : SlV uh) : (Instr.storeAt 30 (.pointer (some ⟨b, 0, none⟩)) (noteV m up uo uv uh)).run Tryd.prog w = .ok () (w.setRow b (noteV m up uo uv uh).cells) := by
  conv => lhs; rw [noteV_agg]
  exact run_store_blk (P := Tryd.prog) (old := (noteV n vp vo vv vh).cells) (cs := (noteV m up uo uv uh).cells) (by kernel_rfl) rfl (noteV_one m h1 h2 h3 h4) w hb
/-- *p = v of a note -/
theorem store_R {Q : Exit → Act → World → Prop} {x y : Operand} {b : Nat} {n m : NoteR} {vp vo vv vh up uo uv uh : Value} (hb : RBox w b n vp vo vv vh) (hx : a.eval x = .pointer (some ⟨b, 0, none⟩)) (hy : a.eval y = noteV m up uo uv uh) (h1 : SlV up) (h2 : SlV uo) (h3 : SlV uv) (h4 : SlV uh)
    (h : ∀ w', RBox w' b m up uo uv uh → Only (fun k => k = b) w w' → w'.heap.size = w.heap.size → wpList Tryd.prog ops Q rest (a.put dst undef) w') :
    wpList Tryd.prog ops Q (⟨dst, .store 30 x y, ty, pos, after, none⟩ :: rest) a w := by
  refine wpList_plain rfl fun K hK => ?_
  have hrun := run_store_R (m := m) w hb h1 h2 h3 h4
  unfold Oper.wp
  simp only [execOp, hx, hy, Sem.run_bind, hrun, Result.andThen_ok, Sem.run_pure]
  exact hK _ _ (h _ hb.stored (only_setRow w b _) (by simp))
theorem step_store_R {K : Act → World → Prop} {Q : Exit → Act → World → Prop} {E : Prop} {x y : Operand} {b : Nat} {n m : NoteR} {vp vo vv vh up uo uv uh : Value} (hb : RBox w b n vp vo vv vh) (hx : a.eval x = .pointer (some ⟨b, 0, none⟩)) (hy : a.eval y = noteV m up uo uv uh) (h1 : SlV up) (h2 : SlV uo) (h3 : SlV uv) (h4 : SlV uh)
    (h : ∀ w', RBox w' b m up uo uv uh → Only (fun k => k = b) w w' → w'.heap.size = w.heap.size → K (a.put dst undef) w') :
    if Region.wanted ⟨dst, .store 30 x y, ty, pos, after, none⟩ (yielded ops a.tmps) = true then Oper.wp Tryd.prog ⟨dst, .store 30 x y, ty, pos, after, none⟩ a w K Q else E := by
  rw [if_pos (by simp [Region.wanted])]
  have hrun := run_store_R (m := m) w hb h1 h2 h3 h4
  unfold Oper.wp
  simp only [execOp, hx, hy, Sem.run_bind, hrun, Result.andThen_ok, Sem.run_pure]
  exact h _ hb.stored (only_setRow w b _) (by simp)
/-- A note's block is made. -/
theorem box_R {Q : Exit → Act → World → Prop} {x : Operand} {n : NoteR} {vp vo vv vh : Value} (hx : a.eval x = noteV n vp vo vv vh)
    (h : ∀ g w', RBox w' g n vp vo vv vh → w.heap.size ≤ g → Below w.heap.size w w' → wpList Tryd.prog ops Q rest (a.put dst (.pointer (some ⟨g, 0, none⟩))) w') :
    wpList Tryd.prog ops Q (⟨dst, .box 30 x, ty, pos, after, none⟩ :: rest) a w := by
  refine wpList_plain rfl fun K hK => ?_
  have hrun : (Instr.box 30 (noteV n vp vo vv vh)).run Tryd.prog w = .ok (.pointer (some ⟨w.heap.size, 0, none⟩)) (w.alloc (.cells (noteV n vp vo vv vh).cells 30)) := by
    simp [Instr.box, newVar, newRow]
  unfold Oper.wp
  simp only [execOp, hx, Sem.run_bind, hrun, Result.andThen_ok, Sem.run_pure]
  exact hK _ _ (h _ _ (RBox.new w n vp vo vv vh) (Nat.le_refl _) ((Below.refl _ _).alloc (Nat.le_refl _) _))
theorem stop_load_R {x : Operand} (h : Stop (wpList Tryd.prog ops Q (⟨dst, .load 30 x, ty, pos, after, none⟩ :: rest) a w) .mk) : wpList Tryd.prog ops Q (⟨dst, .load 30 x, ty, pos, after, none⟩ :: rest) a w := h
theorem stop_store_R {x y : Operand} (h : Stop (wpList Tryd.prog ops Q (⟨dst, .store 30 x y, ty, pos, after, none⟩ :: rest) a w) .mk) : wpList Tryd.prog ops Q (⟨dst, .store 30 x y, ty, pos, after, none⟩ :: rest) a w := h
theorem stop_box_R {x : Operand} (h : Stop (wpList Tryd.prog ops Q (⟨dst, .box 30 x, ty, pos, after, none⟩ :: rest) a w) .mk) : wpList Tryd.prog ops Q (⟨dst, .box 30 x, ty, pos, after, none⟩ :: rest) a w := h
theorem stop_alloc_R (h : Stop (wpList Tryd.prog ops Q (⟨dst, .alloc 30, ty, pos, after, none⟩ :: rest) a w) .mk) : wpList Tryd.prog ops Q (⟨dst, .alloc 30, ty, pos, after, none⟩ :: rest) a w := h
theorem stop_build_R {ps : Array (Nat × Operand)} (h : Stop (wpList Tryd.prog ops Q (⟨dst, .build 30 ps, ty, pos, after, none⟩ :: rest) a w) .mk) : wpList Tryd.prog ops Q (⟨dst, .build 30 ps, ty, pos, after, none⟩ :: rest) a w := h
end
end Go.Proofs.YtnkbfelnggompaaDoor
