/- Slices of one element of many cells; laws at a step; elements of a row that are read and written, whatever their cells. -/
import Derived.Test.YtjkffjngamagkaaDoorPackE
import Derived.Test.YtjkffjngamagkaaDoorPackF
import Derived.Test.YtjkffjngamagkaaDoorStop
namespace Go.Arm
open Go.RowKit
theorem fold_set (off : Nat) : ∀ (vs : List Value) (k : Nat) (cells : Array Value), off + k + vs.length ≤ cells.size →
  ((vs.zipIdx k).foldl (fun cs (x : Value × Nat) => cs.setIfInBounds (off + x.2) x.1) cells).toList = cells.toList.take (off + k) ++ vs ++ cells.toList.drop (off + k + vs.length)
 | [], k, cells, h => by simp
 | v :: vs, k, cells, h => by
  simp only [List.length_cons] at h
  rw [List.zipIdx_cons, List.foldl_cons, fold_set off vs (k + 1) _ (by simp; omega)]
  have hlt : off + k < cells.toList.length := by simp; omega
  have e1 : (cells.setIfInBounds (off + k) v).toList = cells.toList.set (off + k) v := by simp
  rw [e1, show off + (k + 1) = off + k + 1 by omega, List.set_eq_take_append_cons_drop, if_pos hlt]
  have l1 : (cells.toList.take (off + k)).length = off + k := by rw [List.length_take]; omega
  have t1 : (cells.toList.take (off + k) ++ v :: cells.toList.drop (off + k + 1)).take (off + k + 1) = cells.toList.take (off + k) ++ [v] := by
   rw [List.take_append, l1, List.take_of_length_le (by omega), show off + k + 1 - (off + k) = 1 by omega]
   rfl
  have t2 : (cells.toList.take (off + k) ++ v :: cells.toList.drop (off + k + 1)).drop (off + k + 1 + vs.length) = cells.toList.drop (off + k + (v :: vs).length) := by
   rw [List.drop_append, l1, List.drop_of_length_le (by omega), show off + k + 1 + vs.length - (off + k) = vs.length + 1 by omega, List.drop_succ_cons, List.drop_drop, List.nil_append]
   congr 1
   simp only [List.length_cons]; omega
  rw [t1, t2]
  simp
theorem run_buildSlice_one {P : Program} {t e : TypeId} {z : Value} {sz bytes : Nat} (hr : Row P t e z sz bytes) (_ : z.cells.size = sz) (h0 : 0 < sz) (h1 : sz ≤ 1000) (w : World) (v : Value) (hv : v.cells.size = sz) :
  (Instr.buildSlice t 1 #[(0, v)]).run P w = .ok (.slice (some ⟨w.heap.size, 0, none⟩) 1 1) (w.alloc (.cells v.cells e)) := by
 have hsz := fun w => run_sizeOf_row hr w
 obtain ⟨ht, hinfo⟩ := hr
 obtain ⟨inf, hi, hi2⟩ := Option.map_eq_some_iff.1 hinfo
 simp only [Prod.mk.injEq] at hi2
 have hzv : ∀ w, (zeroValue e).run P w = .ok z w := by intro w; simp [zeroValue, typeInfo, hi, hi2.1]
 have key : ∀ cells : Array Value, cells.size = sz → Instr.fill (fun i => some (i * sz, sz)) cells [(0, v)] = some v.cells := by
  intro cells hc
  have hf := fold_set 0 v.cells.toList 0 cells (by simp; omega)
  have hcond : ¬ (v.cells.size ≠ sz ∨ v.cells.size > cells.size) := by omega
  simp only [Instr.fill, Nat.zero_mul, Nat.zero_add, ne_eq, gt_iff_lt, Bool.or_eq_true, decide_eq_true_eq]
  rw [if_neg (by simpa using hcond)]
  congr 1
  apply Array.toList_inj.1
  have e : v.cells.zipIdx = (v.cells.toList.zipIdx).toArray := by
   apply Array.toList_inj.1
   simp
  rw [e]
  simp only [List.foldl_toArray', List.size_toArray]
  simp only [Nat.zero_add, Array.length_toList] at hf
  rw [hf]
  simp [hc, hv]
 simp only [Instr.buildSlice, Sem.run_bind, run_underlying ht, Result.andThen_ok, hsz, Nat.one_mul]
 rw [if_neg (by omega)]
 simp only [show sz ≠ 0 by omega, if_false, Sem.run_bind, Sem.run_pure, Result.andThen_ok, hzv]
 rw [key _ (by simp)]
 simp [newRow]
section
variable {P : Program} {ops : Array Oper} {Q : Exit → Act → World → Prop} {a : Act} {w : World} {rest : List Oper}
variable {dst : Option Tmp} {ty : TypeId} {pos : String} {after : Array Edge}
theorem wpList_lit1 {α : Type} [Rep α] {t e : TypeId} {z : Value} {bytes : Nat} (hr : Row P t e z (Rep.sz α) bytes) (hz : z.cells.size = Rep.sz α) (h0 : 0 < Rep.sz α) (h1 : Rep.sz α ≤ 1000) {x : Operand} {v : Value} {S : Nat → Prop} (y : α)
  (hx : a.eval x = v) (hy : Rep.rd w S y v.cells.toList)
  (h : ∀ u w', Own w' w.heap.size e S [y] u → w.grownBy w' none → u.ownBlock = some w.heap.size → w'.heap.size = w.heap.size + 1 → wpList P ops Q rest (a.put dst u) w') :
  wpList P ops Q (⟨dst, .buildSlice t 1 #[(0, x)], ty, pos, after, none⟩ :: rest) a w := by
 have hlen := Rep.len hy
 have hlen' : v.cells.size = Rep.sz α := by simpa using hlen
 have hrun := run_buildSlice_one hr hz h0 h1 w v hlen'
 refine wpList_plain rfl fun K hK => ?_
 unfold Oper.wp
 simp only [execOp, List.map_toArray, List.map_cons, List.map_nil, hx, Sem.run_bind, hrun, Result.andThen_ok, Sem.run_pure]
 refine hK _ _ (h _ _ ?_ (World.grownBy_alloc w _ none) rfl (by simp))
 refine ⟨v.cells.toList, ⟨v.cells.toList, [], by simp, Rep.keep hy fun b hb hlt => ⟨Below.heap_alloc _ _ _ hlt, hb⟩, rfl⟩, .inr ⟨w.heap.size, 0, 1, v.cells, rfl, Nat.le_refl _, heap_alloc_new w _, Nat.le_refl _, by unfold maxLen; omega, by omega, ?_⟩⟩
 rw [List.drop_zero, List.length_singleton, Nat.one_mul, List.take_of_length_le (by omega)]
theorem step_lit1 {K : Act → World → Prop} {E : Prop} {α : Type} [Rep α] {t e : TypeId} {z : Value} {bytes : Nat} (hr : Row P t e z (Rep.sz α) bytes) (hz : z.cells.size = Rep.sz α) (h0 : 0 < Rep.sz α) (h1 : Rep.sz α ≤ 1000) {x : Operand} {v : Value} {S : Nat → Prop} (y : α)
  (hx : a.eval x = v) (hy : Rep.rd w S y v.cells.toList)
  (h : ∀ u w', Own w' w.heap.size e S [y] u → w.grownBy w' none → u.ownBlock = some w.heap.size → w'.heap.size = w.heap.size + 1 → K (a.put dst u) w') :
  if Region.wanted ⟨dst, .buildSlice t 1 #[(0, x)], ty, pos, after, none⟩ (yielded ops a.tmps) = true then Oper.wp P ⟨dst, .buildSlice t 1 #[(0, x)], ty, pos, after, none⟩ a w K Q else E :=
 step_of_list rfl (fun a' w' => ∃ u, a' = a.put dst u ∧ Own w' w.heap.size e S [y] u ∧ w.grownBy w' none ∧ u.ownBlock = some w.heap.size ∧ w'.heap.size = w.heap.size + 1)
  (fun _ _ hQ => wpList_lit1 hr hz h0 h1 y hx hy fun u _ g1 g2 g3 g4 => hQ _ _ ⟨u, rfl, g1, g2, g3, g4⟩)
  fun _ _ ⟨u, e, g1, g2, g3, g4⟩ => e ▸ h u _ g1 g2 g3 g4
theorem step_append {K : Act → World → Prop} {E : Prop} {α : Type} [Rep α] {s x : Operand} {t e : TypeId} {z : Value} {bytes : Nat} {B : Nat} {S S' : Nat → Prop} {l m : List α} (hr : Row P t e z (Rep.sz α) bytes) (hz : z.cells.size = Rep.sz α) (hsz : 0 < Rep.sz α)
  (hs : Own w B e S l (a.eval s)) (hx : Sl w S' m (a.eval x)) (hSS : ∀ y cs, rds w S' (y : List α) cs → rds w S y cs) (hS : ∀ b, S b → b < w.heap.size → (a.eval s).ownBlock ≠ some b)
  (h63 : l.length + m.length ≤ maxLen) (hbytes : (l.length + m.length) * bytes ≤ 140737488355328) (hB : B ≤ w.heap.size)
  (h : ∀ v' w', Own w' B e S (l ++ m) v' → w.grownBy w' (a.eval s).ownBlock → (v'.ownBlock = (a.eval s).ownBlock ∨ ∃ g, v'.ownBlock = some g ∧ w.heap.size ≤ g) → K (a.put dst v') w') :
  if Region.wanted ⟨dst, .call ⟨.builtin .append, #[s, x], #[t, t]⟩, ty, pos, after, none⟩ (yielded ops a.tmps) = true then
   Oper.wp P ⟨dst, .call ⟨.builtin .append, #[s, x], #[t, t]⟩, ty, pos, after, none⟩ a w K Q else E :=
 step_of_list rfl (fun a' w' => ∃ v', a' = a.put dst v' ∧ Own w' B e S (l ++ m) v' ∧ w.grownBy w' (a.eval s).ownBlock ∧ (v'.ownBlock = (a.eval s).ownBlock ∨ ∃ g, v'.ownBlock = some g ∧ w.heap.size ≤ g))
  (fun _ _ hQ => wpList_append hr hz hsz hs hx hSS hS h63 hbytes hB fun v' _ g1 g2 g3 => hQ _ _ ⟨v', rfl, g1, g2, g3⟩)
  fun _ _ ⟨v', e, g1, g2, g3⟩ => e ▸ h v' _ g1 g2 g3
theorem step_appendG {K : Act → World → Prop} {E : Prop} {α : Type} [Rep α] {s x : Operand} {t e : TypeId} {z : Value} {bytes : Nat} {B : Nat} {S' : Nat → Prop} {l m : List α} (hr : Row P t e z (Rep.sz α) bytes) (hz : z.cells.size = Rep.sz α) (hsz : 0 < Rep.sz α)
  (hs : OwnG w B e l (a.eval s)) (hx : Sl w S' m (a.eval x)) (hS : ∀ b, S' b → b < w.heap.size → B ≤ b ∧ (a.eval s).ownBlock ≠ some b)
  (h63 : l.length + m.length ≤ maxLen) (hbytes : (l.length + m.length) * bytes ≤ 140737488355328) (hB : B ≤ w.heap.size)
  (h : ∀ v' w', OwnG w' B e (l ++ m) v' → w.grownBy w' (a.eval s).ownBlock → (v'.ownBlock = (a.eval s).ownBlock ∨ ∃ g, v'.ownBlock = some g ∧ w.heap.size ≤ g) → K (a.put dst v') w') :
  if Region.wanted ⟨dst, .call ⟨.builtin .append, #[s, x], #[t, t]⟩, ty, pos, after, none⟩ (yielded ops a.tmps) = true then
   Oper.wp P ⟨dst, .call ⟨.builtin .append, #[s, x], #[t, t]⟩, ty, pos, after, none⟩ a w K Q else E :=
 step_of_list rfl (fun a' w' => ∃ v', a' = a.put dst v' ∧ OwnG w' B e (l ++ m) v' ∧ w.grownBy w' (a.eval s).ownBlock ∧ (v'.ownBlock = (a.eval s).ownBlock ∨ ∃ g, v'.ownBlock = some g ∧ w.heap.size ≤ g))
  (fun _ _ hQ => wpList_appendG hr hz hsz hs hx hS h63 hbytes hB fun v' _ g1 g2 g3 => hQ _ _ ⟨v', rfl, g1, g2, g3⟩)
  fun _ _ ⟨v', e, g1, g2, g3⟩ => e ▸ h v' _ g1 g2 g3
end
end Go.Arm
