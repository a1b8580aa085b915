/- Drawn regions in which several operations that make memory may come up: each in turn. -/
import Derived.Test.YtjkffjngamagkaaDoorGen2
namespace Go.Arm
open Go.RowKit
section
variable {P : Program} {ops : Array Oper} {Q : Exit → Act → World → Prop} {md : Region.Mode} {T T' T2 : World → Prop} {d : Nat} {a : Act} {w : World}
variable {dst : Option Tmp} {ty : TypeId} {pos : String} {after : Array Edge} {K : Act → World → Prop} {E : Prop}
/-- More may be held from here on. -/
theorem wpAnyD_stronger (T' : World → Prop) (h : ∀ w, T' w → T w) : ∀ (fuel : Nat) (listed : Array Bool) (a : Act) (w : World), wpAnyD P md ops Q T' d T2 fuel listed a w → wpAnyD P md ops Q T d T2 fuel listed a w
  | 0, _, _, _, hk => hk
  | fuel + 1, _, _, _, hk => ⟨hk.1, fun i hi => wpOp_mono (fun a' w' h' => ⟨⟨h _ h'.1.1, h'.1.2⟩, wpAnyD_stronger T' h fuel _ a' w' h'.2⟩) (hk.2 i hi)⟩
/-- Several operations may come up. -/
theorem wpAnyD_branch {rs : List Nat} {fuel : Nat} {listed : Array Bool} (hr : Region.ready md ops listed = rs) (hne : rs ≠ [])
    (h : ∀ i ∈ rs, wpOp P ops Q i (fun a' w' => heldD T d T2 (listed.setIfInBounds i true) w' ∧ wpAnyD P md ops Q T d T2 fuel (listed.setIfInBounds i true) a' w') a w) : wpAnyD P md ops Q T d T2 (fuel + 1) listed a w :=
  ⟨fun h0 => absurd (hr.symm.trans h0) hne, fun j hj => h j (hr ▸ hj)⟩
theorem wpAnyD_op {i : Nat} {o : Oper} {fuel : Nat} {listed : Array Bool} (ho : ops[i]? = some o)
    (h : ∀ K : Act → World → Prop, (∀ a' w', T w' → T2 w' → wpAnyD P md ops Q T d T2 fuel (listed.setIfInBounds i true) a' w' → K a' w') → if Region.wanted o (yielded ops a.tmps) = true then Oper.wp P o a w K Q else K (a.put o.dst undef) w) :
    wpOp P ops Q i (fun a' w' => heldD T d T2 (listed.setIfInBounds i true) w' ∧ wpAnyD P md ops Q T d T2 fuel (listed.setIfInBounds i true) a' w') a w :=
  wpOp_step ho fun K' hK => h K' fun a' w' h1 h2 h3 => hK a' w' ⟨⟨h1, fun _ => h2⟩, h3⟩
theorem step_blk_alloc {t : TypeId} {cs : Array Value} {z : Value} (hz : ∀ w : World, (zeroValue t).run P w = .ok z w) (hc : z.cells = cs)
    (h : ∀ g w', Blk w' g t cs → w.heap.size ≤ g → Below w.heap.size w w' → K (a.put dst (.pointer (some ⟨g, 0, none⟩))) w') :
    if Region.wanted ⟨dst, .alloc t, ty, pos, after, none⟩ (yielded ops a.tmps) = true then Oper.wp P ⟨dst, .alloc t, ty, pos, after, none⟩ a w K Q else E := by
  rw [if_pos (by simp [Region.wanted])]
  have hrun : (Instr.alloc t true (.tuple #[])).run P w = .ok (.pointer (some ⟨w.heap.size, 0, none⟩)) (w.alloc (.cells cs t)) := by
    simp [Instr.alloc, newVar, newRow, hz, hc]
  unfold Oper.wp
  simp only [execOp, Sem.run_bind, hrun, Result.andThen_ok, Sem.run_pure]
  exact h _ _ (Blk.new w t cs) (Nat.le_refl _) ((Below.refl _ _).alloc (Nat.le_refl _) _)
theorem step_blk_store_all {t : TypeId} {cs cs' : Array Value} {g : Nat} {x y : Operand} (hg : Blk w g t cs) (hx : a.eval x = .pointer (some ⟨g, 0, none⟩)) (hy : a.eval y = .agg cs') (hi : (P.info? t).map (·.size) = some cs'.size) (ho : cs.size = cs'.size) (h1 : cs'.all (·.oneCell') = true)
    (h : ∀ w', Blk w' g t cs' → Only (fun k => k = g) w w' → w'.heap.size = w.heap.size → K (a.put dst undef) w') :
    if Region.wanted ⟨dst, .store t x y, ty, pos, after, none⟩ (yielded ops a.tmps) = true then Oper.wp P ⟨dst, .store t x y, ty, pos, after, none⟩ a w K Q else E := by
  rw [if_pos (by simp [Region.wanted])]
  have hrun := run_store_all (P := P) hi ho h1 w hg
  unfold Oper.wp
  simp only [execOp, hx, hy, Sem.run_bind, hrun, Result.andThen_ok, Sem.run_pure]
  exact h _ (hg.row _) (only_row w g _) (by simp)
/-- &x[i] in whatever world. -/
theorem Sl.index_runS {α : Type} [Rep α] {t e : TypeId} {z : Value} {bytes : Nat} {S : Nat → Prop} {l : List α} {v : Value} (hx : Sl w S l v) (hr : Row P t e z (Rep.sz α) bytes) (hsz : 0 < Rep.sz α) (k : IntKind) (n : Int) (h0 : 0 ≤ n) (hn : n < l.length) :
    ∃ b o y cs, l[n.toNat]? = some y ∧ (∀ w', (Instr.indexAt t v (.int k n)).run P w' = .ok (.pointer (some ⟨b, o, none⟩)) w') ∧ Rep.rd w S y cs ∧ (∀ j u, cs[j]? = some u → w.cell? ⟨b, o + j, none⟩ = some u) ∧ S b := by
  obtain ⟨ao, cap, cs, rfl, _, _, hnone, hcs, hS, hloc⟩ := hx
  have hlt : n.toNat < l.length := by omega
  obtain ⟨y, hy⟩ : ∃ y, l[n.toNat]? = some y := ⟨_, List.getElem?_eq_getElem hlt⟩
  obtain ⟨c, hc1, hc2⟩ := rds_get n.toNat hcs hy
  have hlen := Rep.len hc1
  obtain ⟨u0, hu0⟩ : ∃ u, c[0]? = some u := ⟨_, List.getElem?_eq_getElem (by omega)⟩
  cases ao with
  | none => have := hnone rfl; omega
  | some ad =>
    have f0 := hloc ad rfl _ _ (hc2 0 _ hu0)
    have hne : cs ≠ [] := by rintro rfl; have := hc2 0 _ hu0; simp at this
    have hSb := hS ad rfl hne
    have hspot : ∃ b o, ad.add (n.toNat * Rep.sz α) = ⟨b, o, none⟩ := by
      rw [Nat.add_zero] at f0
      generalize ad.add (n.toNat * Rep.sz α) = q at f0
      obtain ⟨b, o, sp⟩ := q
      cases sp with
      | none => exact ⟨b, o, rfl⟩
      | some s =>
        exfalso
        unfold World.cell? at f0
        split at f0 <;> simp at f0
    obtain ⟨b, o, hq⟩ := hspot
    have hbb : b = ad.block := by have := Addr.add_block ad (n.toNat * Rep.sz α); rw [hq] at this; exact this
    have he : P.elem t = e := by simp [Program.elem, hr.1]
    refine ⟨b, o, y, c, hy, fun w' => ?_, hc1, fun j u hu => ?_, hbb ▸ hSb⟩
    · have hrun := run_indexAt_slice (P := P) w' t ad l.length cap k n (by rw [he]; exact hr.1)
      rw [if_pos ⟨h0, hn⟩, he, run_sizeOf_row hr] at hrun
      simp only [Result.andThen, hq] at hrun
      exact hrun
    · have := hloc ad rfl _ _ (hc2 j u hu)
      rwa [← add_add2, hq, add_lit] at this
theorem yields_index {S : World → Prop} {g : Option (Nat × Bool)} {t : TypeId} {x i : Operand} {v : Value} {k : IntKind} {n : Int} {b o : Nat} (hw : Region.wanted ⟨dst, .indexAddr t x i, ty, pos, after, g⟩ (yielded ops a.tmps) = true) (hx : a.eval x = v) (hi : a.eval i = .int k n)
    (hrun : ∀ w', (Instr.indexAt t v (.int k n)).run P w' = .ok (.pointer (some ⟨b, o, none⟩)) w') : YieldsIf P ops S ⟨dst, .indexAddr t x i, ty, pos, after, g⟩ (.pointer (some ⟨b, o, none⟩)) a := by
  refine .inl ⟨hw, fun w _ => ?_⟩
  simp only [execOp, hx, hi, Sem.run_bind, hrun, Result.andThen_ok, Sem.run_pure]
theorem yields_cells {S : World → Prop} {t : TypeId} {de : TypeDesc} {g o : Nat} {x : Operand} {gd : Option (Nat × Bool)} (ds : List Value) (hu : P.underlying t = some de) (hd : (match de with | .struct _ | .array _ _ => true | _ => false) = true) (hi : (P.info? t).map (·.size) = some ds.length)
    (hw : Region.wanted ⟨dst, .load t x, ty, pos, after, gd⟩ (yielded ops a.tmps) = true) (hx : a.eval x = .pointer (some ⟨g, o, none⟩)) (hc : ∀ w, S w → ∀ j v, ds[j]? = some v → w.cell? ⟨g, o + j, none⟩ = some v) :
    YieldsIf P ops S ⟨dst, .load t x, ty, pos, after, gd⟩ (.agg ds.toArray) a := by
  refine .inl ⟨hw, fun w hS => ?_⟩
  have hrun := run_load_cells (P := P) hu hd hi w (hc w hS)
  simp only [execOp, hx, Sem.run_bind, hrun, Result.andThen_ok, Sem.run_pure]
end
/-- Cells that lie in a block of old. -/
theorem cells_below {w w' : World} {b o : Nat} {ds : List Value} (h : ∀ j v, ds[j]? = some v → w.cell? ⟨b, o + j, none⟩ = some v) {B : Nat} (hb : Below B w w') (hB : b < B) : ∀ j v, ds[j]? = some v → w'.cell? ⟨b, o + j, none⟩ = some v := fun j v hj => by
  rw [cell?_same (w := w) (hb.block b hB)]; exact h j v hj
theorem cells_only {w w' : World} {b o : Nat} {ds : List Value} (h : ∀ j v, ds[j]? = some v → w.cell? ⟨b, o + j, none⟩ = some v) {F : Nat → Prop} (ho : Only F w w') (hl : b < w.heap.size) (hF : ¬ F b) : ∀ j v, ds[j]? = some v → w'.cell? ⟨b, o + j, none⟩ = some v := fun j v hj => by
  rw [cell?_same (w := w) (ho.block b hl hF)]; exact h j v hj
end Go.Arm
