/- What this seat's program says of its types; the laws of XBase at them. -/
import Derived.Test.YtnkbfelnggompaaDoorRows
import Derived.Test.YtnkbfelnggompaaDoorBase
namespace Go.Proofs.YtnkbfelnggompaaDoor
open Go Go.RowKit Go.Arm

theorem rowB : Row Tryd.prog 45 5 (.int .u8 0) 1 1 := ⟨Tryd.underlying45, by kernel_rfl⟩
theorem rowBB : Row Tryd.prog 130 45 (.slice none 0 0) 1 24 := ⟨Tryd.underlying130, by kernel_rfl⟩

/-- Bytes that the call has made. -/
abbrev OwnB (w : World) (B : Nat) (l : List UInt8) (v : Value) : Prop := Own w B 5 (fun _ => False) l v

section
variable {ops : Array Oper} {Q : Exit → Act → World → Prop} {a : Act} {w : World} {rest : List Oper}
variable {dst : Option Tmp} {ty : TypeId} {pos : String} {after : Array Edge}

theorem len_B {x : Operand} {S : Nat → Prop} {l : List UInt8} (hx : Sl w S l (a.eval x)) (h : wpList Tryd.prog ops Q rest (a.put dst (.int .i64 (l.length : Int))) w) :
    wpList Tryd.prog ops Q (⟨dst, .call ⟨.builtin .len, #[x], #[45]⟩, ty, pos, after, none⟩ :: rest) a w := wpList_len rowB.1 hx h
theorem len_BB {x : Operand} {S : Nat → Prop} {l : List (List UInt8)} (hx : Sl w S l (a.eval x)) (h : wpList Tryd.prog ops Q rest (a.put dst (.int .i64 (l.length : Int))) w) :
    wpList Tryd.prog ops Q (⟨dst, .call ⟨.builtin .len, #[x], #[130]⟩, ty, pos, after, none⟩ :: rest) a w := wpList_len rowBB.1 hx h

theorem stop_index_B {x i : Operand} (h : Stop (wpList Tryd.prog ops Q (⟨dst, .indexAddr 45 x i, ty, pos, after, none⟩ :: rest) a w) .mk) : wpList Tryd.prog ops Q (⟨dst, .indexAddr 45 x i, ty, pos, after, none⟩ :: rest) a w := h
theorem stop_index_BB {x i : Operand} (h : Stop (wpList Tryd.prog ops Q (⟨dst, .indexAddr 130 x i, ty, pos, after, none⟩ :: rest) a w) .mk) : wpList Tryd.prog ops Q (⟨dst, .indexAddr 130 x i, ty, pos, after, none⟩ :: rest) a w := h
theorem stop_str_B {x : Operand} (h : Stop (wpList Tryd.prog ops Q (⟨dst, .convert 45 9 x, ty, pos, after, none⟩ :: rest) a w) .mk) : wpList Tryd.prog ops Q (⟨dst, .convert 45 9 x, ty, pos, after, none⟩ :: rest) a w := h

/-- []byte{} -/
theorem empty_B {Q : Exit → Act → World → Prop} (h : ∀ v, OwnB (w.alloc (.cells #[] 5)) w.heap.size [] v → Sl (w.alloc (.cells #[] 5)) (· = w.heap.size) ([] : List UInt8) v → wpList Tryd.prog ops Q rest (a.put dst v) (w.alloc (.cells #[] 5))) :
    wpList Tryd.prog ops Q (⟨dst, .buildSlice 45 0 #[], ty, pos, after, none⟩ :: rest) a w := by
  refine wpList_plain rfl fun K hK => ?_
  go_simp
  have ho := Own.made (α := UInt8) w 5 (fun _ => False) w.heap.size (Nat.le_refl _)
  exact hK _ _ (h _ ho (ho.sl (fun _ h => h.elim) (by intro b hb; cases hb; rfl)))

theorem stop_mark_B {x : Operand} (h : Stop (wpList Tryd.prog ops Q (⟨dst, .convert 45 45 x, ty, pos, after, none⟩ :: rest) a w) .mk) : wpList Tryd.prog ops Q (⟨dst, .convert 45 45 x, ty, pos, after, none⟩ :: rest) a w := h
theorem mark_B {Q : Exit → Act → World → Prop} {x : Operand} {S : Nat → Prop} {l : List UInt8} {g : Nat} (hx : Sl w S l (a.eval x)) (hg : (a.eval x).ownBlock = some g)
    (h : ∀ w', Sl w' S l (a.eval x) → w.grownBy w' (some g) → w'.heap.size = w.heap.size → wpList Tryd.prog ops Q rest (a.put dst (a.eval x)) w') :
    wpList Tryd.prog ops Q (⟨dst, .convert 45 45 x, ty, pos, after, none⟩ :: rest) a w := wpList_mark Tryd.underlying45 Tryd.underlying5 hx hg h

theorem str_B {Q : Exit → Act → World → Prop} {x : Operand} {S : Nat → Prop} {l : List UInt8} (hx : Sl w S l (a.eval x)) (h : wpList Tryd.prog ops Q rest (a.put dst (.string ⟨l.toArray⟩)) w) :
    wpList Tryd.prog ops Q (⟨dst, .convert 45 9 x, ty, pos, after, none⟩ :: rest) a w := by
  refine wpList_plain rfl fun K hK => ?_
  have hrun := run_convert_sl (P := Tryd.prog) Tryd.underlying45 Tryd.underlying5 Tryd.underlying9 hx
  unfold Oper.wp
  simp [execOp, hrun, Result.andThen]
  exact hK _ _ h

/-- append(s, x...) of bytes to a row of the call's own. -/
theorem app_B {Q : Exit → Act → World → Prop} {s x : Operand} {B : Nat} {S : Nat → Prop} {l m : List UInt8} (hs : OwnB w B l (a.eval s)) (hx : Sl w S m (a.eval x))
    (hl : l.length + m.length ≤ 140737488355328) (hB : B ≤ w.heap.size)
    (h : ∀ v' w', OwnB w' B (l ++ m) v' → w.grownBy w' (a.eval s).ownBlock → (v'.ownBlock = (a.eval s).ownBlock ∨ ∃ g, v'.ownBlock = some g ∧ w.heap.size ≤ g) → wpList Tryd.prog ops Q rest (a.put dst v') w') :
    wpList Tryd.prog ops Q (⟨dst, .call ⟨.builtin .append, #[s, x], #[45, 45]⟩, ty, pos, after, none⟩ :: rest) a w :=
  wpList_append rowB rfl (by decide) hs hx (fun _ _ h => rds_u8 h) (fun _ h => h.elim) (by simp only [maxLen]; omega) (by omega) hB h

theorem idx_B {Q : Exit → Act → World → Prop} {x i : Operand} {S : Nat → Prop} {l : List UInt8} (hx : Sl w S l (a.eval x)) {k : IntKind} {n : Int} (hi : a.eval i = .int k n) (h0 : 0 ≤ n) (hn : n < l.length)
    (h : ∀ b o y, l[n.toNat]? = some y → w.cell? ⟨b, o, none⟩ = some (.int .u8 (y.toNat : Int)) → wpList Tryd.prog ops Q rest (a.put dst (.pointer (some ⟨b, o, none⟩))) w) :
    wpList Tryd.prog ops Q (⟨dst, .indexAddr 45 x i, ty, pos, after, none⟩ :: rest) a w :=
  wpList_index1 rowB rfl hx hi h0 hn fun b o u y h1 h2 h3 => h b o y h1 (by have h2 : [u] = [Value.int .u8 (y.toNat : Int)] := h2; simp at h2; rw [← h2]; exact h3)
theorem idx_BB {Q : Exit → Act → World → Prop} {x i : Operand} {S : Nat → Prop} {l : List (List UInt8)} (hx : Sl w S l (a.eval x)) {k : IntKind} {n : Int} (hi : a.eval i = .int k n) (h0 : 0 ≤ n) (hn : n < l.length)
    (h : ∀ b o y u, l[n.toNat]? = some y → Sl w S y u → w.cell? ⟨b, o, none⟩ = some u → wpList Tryd.prog ops Q rest (a.put dst (.pointer (some ⟨b, o, none⟩))) w) :
    wpList Tryd.prog ops Q (⟨dst, .indexAddr 130 x i, ty, pos, after, none⟩ :: rest) a w :=
  wpList_index1 rowBB rfl hx hi h0 hn fun b o u y h1 h2 h3 => by
    obtain ⟨v, hv, h4⟩ := h2
    simp at hv; subst hv
    exact h b o y u h1 h4 h3

/-- []byte{x, ..} -/
theorem build_B {Q : Exit → Act → World → Prop} {n : Nat} {ps : Array (Nat × Operand)} (l : List UInt8) (vs : List Value) (hps : (ps.toList.map fun x => (x.1, a.eval x.2)) = vs.zipIdx.map fun x => (x.2, x.1)) (hn : n = vs.length)
    (hvs : vs = l.map fun b => Value.int .u8 (b.toNat : Int)) (hl : l.length ≤ 16777216)
    (h : ∀ v w', OwnB w' w.heap.size l v → w.grownBy w' none → v.ownBlock = some w.heap.size → w'.heap.size = w.heap.size + 1 → wpList Tryd.prog ops Q rest (a.put dst v) w') :
    wpList Tryd.prog ops Q (⟨dst, .buildSlice 45 n ps, ty, pos, after, none⟩ :: rest) a w :=
  wpList_build1 rowB rfl l vs hps hn (rds_u8_cells.2 hvs) hl h

/-- [][]byte{x, ..} -/
theorem build_BB {Q : Exit → Act → World → Prop} {n : Nat} {ps : Array (Nat × Operand)} {S : Nat → Prop} (l : List (List UInt8)) (vs : List Value) (hps : (ps.toList.map fun x => (x.1, a.eval x.2)) = vs.zipIdx.map fun x => (x.2, x.1)) (hn : n = vs.length)
    (hvs : rds w S l vs) (hl : l.length ≤ 16777216)
    (h : ∀ v w', Own w' w.heap.size 45 S l v → w.grownBy w' none → v.ownBlock = some w.heap.size → w'.heap.size = w.heap.size + 1 → wpList Tryd.prog ops Q rest (a.put dst v) w') :
    wpList Tryd.prog ops Q (⟨dst, .buildSlice 130 n ps, ty, pos, after, none⟩ :: rest) a w :=
  wpList_build1 rowBB rfl l vs hps hn hvs hl h

abbrev OwnBB (w : World) (B : Nat) (l : List (List UInt8)) (v : Value) : Prop := OwnR w B 45 l v

/-- append(s, x...) of [][]byte -/
theorem app_BB {Q : Exit → Act → World → Prop} {s x : Operand} {B : Nat} {S' : Nat → Prop} {l m : List (List UInt8)} (hs : OwnBB w B l (a.eval s)) (hx : Sl w S' m (a.eval x)) (hS : ∀ b, S' b → b < w.heap.size → (a.eval s).ownBlock ≠ some b)
    (hl : (l.length + m.length) * 24 ≤ 140737488355328) (hB : B ≤ w.heap.size)
    (h : ∀ v' w', OwnBB w' B (l ++ m) v' → w.grownBy w' (a.eval s).ownBlock → (v'.ownBlock = (a.eval s).ownBlock ∨ ∃ g, v'.ownBlock = some g ∧ w.heap.size ≤ g) → wpList Tryd.prog ops Q rest (a.put dst v') w') :
    wpList Tryd.prog ops Q (⟨dst, .call ⟨.builtin .append, #[s, x], #[130, 130]⟩, ty, pos, after, none⟩ :: rest) a w :=
  wpList_appendR rowBB rfl (by decide) hs hx hS (by simp only [maxLen]; omega) hl hB h

/-- append(s, u): the slice literal of one element, then the append. -/
theorem push_BB {Q : Exit → Act → World → Prop} {s x : Operand} {i : Tmp} {B : Nat} {S : Nat → Prop} {l : List (List UInt8)} {y : List UInt8} {ty2 : TypeId} {pos2 : String} {after2 : Array Edge}
    (hs : OwnBB w B l (a.eval s)) (hsi : ∀ v, (a.put (some i) v).eval s = a.eval s) (hi : ∀ v, (a.put (some i) v).eval (.tmp i) = v) (hx : Sl w S y (a.eval x)) (hS : ∀ b, S b → b < w.heap.size → (a.eval s).ownBlock ≠ some b)
    (hl : (l.length + 1) * 24 ≤ 140737488355328) (hB : B ≤ w.heap.size)
    (h : ∀ u v' w', OwnBB w' B (l ++ [y]) v' → w.grownBy w' (a.eval s).ownBlock → (v'.ownBlock = (a.eval s).ownBlock ∨ ∃ g, v'.ownBlock = some g ∧ w.heap.size ≤ g) → wpList Tryd.prog ops Q rest ((a.put (some i) u).put dst v') w') :
    wpList Tryd.prog ops Q (⟨some i, .buildSlice 130 1 #[(0, x)], ty, pos, after, none⟩ :: ⟨dst, .call ⟨.builtin .append, #[s, .tmp i], #[130, 130]⟩, ty2, pos2, after2, none⟩ :: rest) a w := by
  refine build_BB (S := S) [y] [a.eval x] rfl rfl ⟨[a.eval x], [], rfl, ⟨_, rfl, hx⟩, rfl⟩ (by simp) fun u w1 h1 h2 h3 h4 => ?_
  have hsl : Sl w1 (fun b => (b < w.heap.size ∧ S b) ∨ w.heap.size ≤ b) [y] u := by
    refine (Own.keep (S' := fun b => b < w.heap.size ∧ S b ∨ w.heap.size ≤ b) h1 (fun b hb hlt => ⟨rfl, ?_⟩) (fun _ _ => rfl)).sl (fun b h _ => h) fun b hb => .inr (h1.ge b hb).1
    rcases Nat.lt_or_ge b w.heap.size with h | h
    · exact .inl ⟨h, hb⟩
    · exact .inr h
  refine app_BB (by rw [hsi]; exact hs.grown0 h2) (by rw [hi]; exact hsl) ?_ (by simpa using hl) (by omega) fun v' w2 g1 g2 g3 => ?_
  · rintro b (⟨h5, h6⟩ | h5) h7
    · rw [hsi]; exact hS b h6 h5
    · rw [hsi]; intro e; have := (hs.ge b e).2; omega
  · rw [hsi] at g2 g3
    refine h u v' w2 g1 ⟨g2.os.trans h2.os, g2.tape.trans h2.tape, g2.output.trans h2.output, Nat.le_trans h2.size g2.size, fun k hk hne => (g2.block k (by omega) hne).trans (h2.block k hk (by simp))⟩ ?_
    rcases g3 with g3 | ⟨g, g3, g4⟩
    · exact .inl g3
    · exact .inr ⟨g, g3, by omega⟩

theorem min2 {Q : Exit → Act → World → Prop} {x y : Operand} {n m : Int} (hx : a.eval x = .int .i64 n) (hy : a.eval y = .int .i64 m) (h : wpList Tryd.prog ops Q rest (a.put dst (.int .i64 (min n m))) w) :
    wpList Tryd.prog ops Q (⟨dst, .call ⟨.builtin .min, #[x, y], #[3, 3]⟩, ty, pos, after, none⟩ :: rest) a w := by
  refine wpList_plain rfl fun K hK => ?_
  have hrun := run_min_int2 (P := Tryd.prog) w #[3, 3] ty .i64 .i64 n m
  have hm : (if m < n then m else n) = min n m := by omega
  unfold Oper.wp
  simp [BigFrame.execOp_builtin, BigFrame.builtin_min, hx, hy, hrun, Result.andThen]
  rw [hm]
  exact hK _ _ h
end

end Go.Proofs.YtnkbfelnggompaaDoor
