/- Laws for the walk: make of a slice of bytes, and the append of so many zeros. -/
import Derived.Test.YtnkbfelnggompaaDoorKit
import Derived.Lib.AppendZerosOnto
namespace Go.Proofs.YtnkbfelnggompaaDoor
open Go Go.RowKit Go.Arm
section
variable {ops : Array Oper} {a : Act} {w : World} {rest : List Oper}
variable {dst : Option Tmp} {ty : TypeId} {pos : String} {after : Array Edge}

theorem stop_make {P : Program} {Q : Exit → Act → World → Prop} {t : TypeId} {l c : Operand} (h : Stop (wpList P ops Q (⟨dst, .makeSlice t l c, ty, pos, after, none⟩ :: rest) a w) .mk) : wpList P ops Q (⟨dst, .makeSlice t l c, ty, pos, after, none⟩ :: rest) a w := h

/-- make([]byte, n) -/
theorem make_B {Q : Exit → Act → World → Prop} {ln cp : Operand} {kl kc : IntKind} {n : Nat} (hl : a.eval ln = .int kl (n : Int)) (hc : a.eval cp = .int kc (n : Int)) (hn : n ≤ 16777216)
    (h : ∀ v w', OwnB w' w.heap.size (List.replicate n 0) v → w.grownBy w' none → wpList Tryd.prog ops Q rest (a.put dst v) w') :
    wpList Tryd.prog ops Q (⟨dst, .makeSlice 45 ln cp, ty, pos, after, none⟩ :: rest) a w := by
  obtain ⟨ht, hinfo⟩ := rowB
  obtain ⟨inf, hi, hi2⟩ := Option.map_eq_some_iff.1 hinfo
  simp only [Prod.mk.injEq] at hi2
  obtain ⟨hzz, hisz, hby⟩ := hi2
  obtain ⟨w', r1, r2, r3⟩ := run_make_full (P := Tryd.prog) w w.heap.size 45 5 inf (.int .u8 0) 1 ht hi hzz hisz kl kc n (by rw [hby]; omega) (by simp only [maxLen]; omega) (Nat.le_refl _)
  refine wpList_plain rfl fun K hK => ?_
  unfold Oper.wp
  simp [execOp, hl, hc, r1, Result.andThen]
  refine hK _ _ (h _ _ ?_ r3)
  have e : (madeCells (Value.int .u8 0).cells (n * 1)).toList = (List.replicate n (0 : UInt8)).map fun b => Value.int .u8 (b.toNat : Int) := by
    rw [Nat.mul_one]
    exact (toList_madeCells_one _ n).trans (by simp)
  rw [e] at r2
  refine .of_owns (rds_u8_cells.2 rfl) ?_
  rw [List.length_replicate]
  exact r2

/-- []byte{..}, with the value and the world told. -/
theorem build_B_at {Q : Exit → Act → World → Prop} {n : Nat} {ps : Array (Nat × Operand)} (vs : List Value) (hps : (ps.toList.map fun x => (x.1, a.eval x.2)) = vs.zipIdx.map fun x => (x.2, x.1)) (hn : n = vs.length)
    (h1 : ∀ u ∈ vs, u.cells = #[u]) (hl : vs.length ≤ 16777216)
    (h : wpList Tryd.prog ops Q rest (a.put dst (.slice (some ⟨w.heap.size, 0, none⟩) vs.length vs.length)) (w.alloc (.cells vs.toArray 5))) :
    wpList Tryd.prog ops Q (⟨dst, .buildSlice 45 n ps, ty, pos, after, none⟩ :: rest) a w := by
  subst hn
  have hps : (ps.map fun x => (x.1, a.eval x.2)) = (vs.zipIdx.map fun x => (x.2, x.1)).toArray := by
    apply Array.toList_inj.1
    rw [Array.toList_map]
    exact hps
  have hrun := run_buildSlice1 (P := Tryd.prog) rowB w vs h1 hl
  refine wpList_plain rfl fun K hK => ?_
  unfold Oper.wp
  simp only [execOp, hps, Sem.run_bind, hrun, Result.andThen_ok, Sem.run_pure]
  exact hK _ _ h

/-- append(s, make([]byte, k)...) where s is full. -/
theorem app_zeros_B {Q : Exit → Act → World → Prop} {s x : Operand} {tn : TypeId} {kn kq : IntKind} (htn : Tryd.prog.underlying tn = some (.int kn)) {S : Nat → Prop} {l : List UInt8} {a0 : Addr} {n k : Nat}
    (hv : a.eval s = .slice (some a0) n n) (hs : Sl w S l (.slice (some a0) n n)) (hk : a.eval x = .int kq (k : Int)) (h0 : 0 < k) (hb : n + k ≤ 16777216)
    (h : ∀ v w', Sl w' (fun b => w.heap.size ≤ b) (l ++ List.replicate k 0) v → Below w.heap.size w w' → wpList Tryd.prog ops Q rest (a.put dst v) w') :
    wpList Tryd.prog ops Q (⟨dst, .call ⟨.builtin .append, #[s, x], #[45, tn]⟩, ty, pos, after, none⟩ :: rest) a w := by
  obtain ⟨ht, hinfo⟩ := rowB
  obtain ⟨inf, hi, hi2⟩ := Option.map_eq_some_iff.1 hinfo
  simp only [Prod.mk.injEq] at hi2
  obtain ⟨hzz, hisz, hby⟩ := hi2
  obtain ⟨ao, cap, cs, e1, d1, d2, d3, d4, d5, d6⟩ := hs
  obtain ⟨rfl, rfl, rfl⟩ : some a0 = ao ∧ n = l.length ∧ n = cap := by
    injection e1 with e1 e2 e3
    exact ⟨e1, e2, e3⟩
  have hcl := rds_len d4
  have hcl' : cs.length = l.length * inf.size := by rw [hisz]; exact hcl
  have hold := run_firstCells_some (P := Tryd.prog) w.drew inf.size l.length a0 l.length l.length cs hcl' (fun j v hj => d6 a0 rfl j v hj)
  have hfit := growslice_fits (need := l.length + k) (old := l.length) (bytes := inf.bytes) (by omega) (by rw [hby]; omega)
  have hrun := Lib.run_append_grow_zeros (P := Tryd.prog) w 45 tn ty 5 inf (.int .u8 0) kq kn ht htn hi hzz (some a0) l.length l.length cs hold k h0 (by omega) (by omega) (by omega) (by rw [hby]; omega) hfit
  refine Lib.wpList_append_run w rfl s x _ _ rfl _ _ hv hk _ _ hrun (h _ _ ?_ ?_)
  · have hge := grownCap_ge w (l.length + k) l.length 5
    have hle := grownCap_le_maxLen w (l.length + k) l.length 5 (by simp only [maxLen]; omega)
    have hz : ∀ m, (Builtin.zeroCells (Value.int .u8 0).cells m).toList = (List.replicate m (0 : UInt8)).map fun b => Value.int .u8 (b.toNat : Int) := by
      intro m
      apply List.ext_getElem?
      intro j
      by_cases hj : j < m
      · simp [Builtin.zeroCells, Value.cells, hj, Nat.mod_one]
      · simp [Builtin.zeroCells, Value.cells, hj]
    have hcs : cs = l.map fun b => Value.int .u8 (b.toNat : Int) := rds_u8_cells.1 d4
    refine ⟨some ⟨w.heap.size, 0, none⟩, grownCap w (l.length + k) l.length 5, cs ++ (Builtin.zeroCells (Value.int .u8 0).cells k).toList, by simp, by simpa using hge, hle, by simp, ?_, fun a' ha _ => ?_, fun a' ha j u hu => ?_⟩
    · rw [hz, hcs, ← List.map_append]
      exact rds_u8_cells.2 rfl
    · obtain rfl := Option.some.inj ha
      exact Nat.le_refl _
    · obtain rfl := Option.some.inj ha
      rw [add_lit, Nat.zero_add]
      have hj := (List.getElem?_eq_some_iff.1 hu).1
      have e : (w.drew.alloc (.cells (cs.toArray ++ Builtin.zeroCells (Value.int .u8 0).cells k ++ Builtin.zeroCells (Value.int .u8 0).cells (grownCap w (l.length + k) l.length 5 - (l.length + k))) 5)).heap[w.heap.size]? = some (.cells (cs.toArray ++ Builtin.zeroCells (Value.int .u8 0).cells k ++ Builtin.zeroCells (Value.int .u8 0).cells (grownCap w (l.length + k) l.length 5 - (l.length + k))) 5 (0, 0)) := heap_alloc_new w.drew _
      simp only [World.cell?, e]
      have g : (cs.toArray ++ Builtin.zeroCells (Value.int .u8 0).cells k ++ Builtin.zeroCells (Value.int .u8 0).cells (grownCap w (l.length + k) l.length 5 - (l.length + k))).toList[j]? = some u := by
        simp only [Array.toList_append]
        rw [List.getElem?_append_left (by simpa using hj)]
        exact hu
      rw [Array.getElem?_toList] at g
      simpa using g
  · exact ((Below.refl w.heap.size w).drew).alloc (Nat.le_refl _) _
end
end Go.Proofs.YtnkbfelnggompaaDoor
