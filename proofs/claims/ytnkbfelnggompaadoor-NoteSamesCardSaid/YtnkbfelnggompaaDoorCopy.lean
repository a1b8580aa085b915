/- copy over a row of the call's own; v[:n:n]. -/
import Derived.Test.YtnkbfelnggompaaDoorScRep
import Derived.Test.YtnkbfelnggompaaDoorMake
namespace Go.Proofs.YtnkbfelnggompaaDoor
open Go Go.RowKit Go.Arm
section
variable {ops : Array Oper} {a : Act} {w : World} {rest : List Oper}
variable {dst : Option Tmp} {ty : TypeId} {pos : String} {after : Array Edge}

/-- copy(d, s), both of one length, d the call's own. -/
theorem copy_B {Q : Exit → Act → World → Prop} {d s : Operand} {B : Nat} {S : Nat → Prop} {l z : List UInt8} (hd : OwnB w B z (a.eval d)) (hx : Sl w S l (a.eval s)) (hl : z.length = l.length)
    (h : ∀ w', OwnB w' B l (a.eval d) → w.grownBy w' (a.eval d).ownBlock → wpList Tryd.prog ops Q rest (a.put dst (.int .i64 (l.length : Int))) w') :
    wpList Tryd.prog ops Q (⟨dst, .call ⟨.builtin .copy, #[d, s], #[45, 45]⟩, ty, pos, after, none⟩ :: rest) a w := by
  obtain ⟨cs, h1, h2⟩ := hd
  rcases h2 with ⟨hv, hn, rfl⟩ | ⟨g, o, cap, cur, hv, hg, hh, hcap, hm, hs, ht⟩
  · have hl0 : l.length = 0 := by omega
    obtain rfl : l = [] := List.eq_nil_of_length_eq_zero hl0
    obtain ⟨ht, hinfo⟩ := rowB
    obtain ⟨inf, hi, hi2⟩ := Option.map_eq_some_iff.1 hinfo
    simp only [Prod.mk.injEq] at hi2
    have hsz : (Tryd.prog.info? 5).map (·.size) = some 1 := by rw [hi]; simp [hi2.2.1]
    obtain ⟨ao, cp, cs', hsv, _⟩ := hx
    refine wpList_copy_nothing rfl d s _ _ rfl _ ht hsz none ao 0 0 0 cp hv hsv (by simp) ?_
    exact h w (by rw [hv]; exact Own.nil _ _ _ _) (World.grownBy.refl w _)
  · have e1 : cap * Rep.sz UInt8 = cap := Nat.mul_one _
    rw [e1] at hs
    refine wpList_copyB (l := l) rowB g o cur.toList (by simpa using hh) hv hx (fun _ => rfl) (by omega) (by simp; omega) fun w' k1 k2 => ?_
    refine h w' ?_ (by rw [hv]; exact k2)
    refine ⟨l.map fun b => Value.int .u8 (b.toNat : Int), rds_u8_cells.2 rfl, .inr ⟨g, o, cap, _, by rw [hv, hl], hg, k1, by omega, hm, ?_, ?_⟩⟩
    · rw [e1]
      have := length_splice cur.toList o (l.map fun b => Value.int .u8 (b.toNat : Int)) (by simp; omega)
      simp at this ⊢
      omega
    · have e2 : l.length * Rep.sz UInt8 = l.length := Nat.mul_one _
      rw [e2]
      simp only [splice]
      rw [List.drop_append_of_le_length (by simp; omega), List.drop_of_length_le (by simp; omega), List.nil_append, List.take_append_of_le_length (by simp), List.take_of_length_le (by simp)]

/-- v[:n:n] -/
theorem slice_hm_B {Q : Exit → Act → World → Prop} {x i j : Operand} {S : Nat → Prop} {l : List UInt8} (hx : Sl w S l (a.eval x)) {k k' : IntKind} {n : Nat} (hi : a.eval i = .int k n) (hj : a.eval j = .int k' n) (hn : n ≤ l.length)
    (h : ∀ v, Sl w S (l.take n) v → wpList Tryd.prog ops Q rest (a.put dst v) w) :
    wpList Tryd.prog ops Q (⟨dst, .slice 45 x none (some i) (some j), ty, pos, after, none⟩ :: rest) a w := by
  have hx' := hx
  obtain ⟨ao, cap, cs, hv, hcap, hml, hno, _⟩ := hx
  rw [hv] at hx'
  have he : Tryd.prog.elem 45 = 5 := by simp [Program.elem, rowB.1]
  have hrun := run_slice_hm (P := Tryd.prog) w 45 ao l.length cap (by rw [he]; exact rowB.1) k k' n n (by omega) (by omega) (by omega)
  rw [he, run_sizeOf_row rowB] at hrun
  have hsl := (run_sliceAt_slice (P := Tryd.prog) w 45 (.slice ao l.length cap) none (some (.int k n)) (some (.int k' n)) (by rw [he]; exact rowB.1)).trans hrun
  have hcut := hx'.cut 0 n (by omega) (by omega)
  rw [List.drop_zero] at hcut
  have e1 : sliced ao 0 n n 1 = .slice ao n n := by
    simp only [sliced, Nat.sub_zero]
    cases ao with
    | none => simp
    | some ad => simp [Addr.add]
  have e2 : sliced ao 0 n cap 1 = .slice ao n cap := by
    simp only [sliced, Nat.sub_zero]
    cases ao with
    | none => simp
    | some ad => simp [Addr.add]
  have hres : Sl w S (l.take n) (.slice ao n n) := by
    have hcut : Sl w S (l.take n) (sliced ao 0 n cap 1) := hcut
    rw [e2] at hcut
    obtain ⟨ao', cap', cs', hv', g1, g2, g3, g4⟩ := hcut
    injection hv' with q1 q2 q3
    subst q1 q3
    refine ⟨ao, n, cs', by rw [← q2], by omega, by omega, fun h => ?_, g4⟩
    have := g3 h
    omega
  refine wpList_plain rfl fun K hK => ?_
  unfold Oper.wp
  simp only [execOp, hi, hj, hv, Option.map_some, Option.map_none, Sem.run_bind, hsl, Result.andThen_ok, Sem.run_pure, Int.toNat_natCast, e1]
  exact hK _ _ (h _ hres)

/-- max(x, 0) -/
theorem max0 {Q : Exit → Act → World → Prop} {x y : Operand} {n : Int} (hx : a.eval x = .int .i64 n) (hy : a.eval y = .int .i64 0) (h : wpList Tryd.prog ops Q rest (a.put dst (.int .i64 (n.toNat : Int))) w) :
    wpList Tryd.prog ops Q (⟨dst, .call ⟨.builtin .max, #[x, y], #[3, 3]⟩, ty, pos, after, none⟩ :: rest) a w := by
  refine wpList_plain rfl fun K hK => ?_
  have hrun := run_max_int2 (P := Tryd.prog) w #[3, 3] ty .i64 .i64 n 0
  have hm : (if 0 > n then 0 else n) = (n.toNat : Int) := by split <;> omega
  unfold Oper.wp
  simp only [BigFrame.execOp_builtin, BigFrame.builtin_max, List.map_toArray, List.map_cons, List.map_nil, hx, hy, Sem.run_bind, hrun, Result.andThen_ok, Sem.run_pure, hm]
  exact hK _ _ h
end
end Go.Proofs.YtnkbfelnggompaaDoor
