/- A Writer, what it should hold, and the Items that were written, side by side. -/
import Derived.Test.YtfgagfemhmcdfaaItems
import Derived.Test.YtfgagfemhmcdfaaManyKit
import Derived.Test.YtfgagfemhmcdfaaRef02
import Derived.Test.YtfgagfemhmcdfaaOne
namespace Go.Proofs.Ytfgagfemhmcdfaa
open Go Go.RowKit Go.Arm

/-- []Item{x} -/
theorem build_I {ops : Array Oper} {Q : Exit → Act → World → Prop} {a : Act} {w : World} {rest : List Oper} {dst : Option Tmp} {ty : TypeId} {pos : String} {after : Array Edge} {x : Operand} {c0 c1 c2 c3 c4 : Value}
    (hx : a.eval x = .agg #[c0, c1, c2, c3, c4])
    (h : wpList Try.prog ops Q rest (a.put dst (.slice (some ⟨w.heap.size, 0, none⟩) 1 1)) (w.alloc (.cells #[c0, c1, c2, c3, c4] 36))) :
    wpList Try.prog ops Q (⟨dst, .buildSlice 44 1 #[(0, x)], ty, pos, after, none⟩ :: rest) a w := by
  refine wpList_plain rfl fun K hK => ?_
  unfold Oper.wp
  simp only [execOp, List.map_toArray, List.map_cons, List.map_nil, hx]
  go_simp
  exact hK _ _ h

/-- append(s, x) of an Item: the slice literal, then the append. -/
theorem push_I {ops : Array Oper} {Q : Exit → Act → World → Prop} {a : Act} {w : World} {rest : List Oper} {dst : Option Tmp} {ty : TypeId} {pos : String} {after : Array Edge}
    {s x : Operand} {i : Tmp} {B : Nat} {T : Nat → Prop} {l : List Itm} {y : Itm} {ty2 : TypeId} {pos2 : String} {after2 : Array Edge} {c0 c1 c2 c3 c4 : Value}
    (hs : Own w B 36 T l (a.eval s)) (hsi : ∀ v, (a.put (some i) v).eval s = a.eval s) (hi : ∀ v, (a.put (some i) v).eval (.tmp i) = v) (hx : a.eval x = .agg #[c0, c1, c2, c3, c4]) (hy : Rep.rd w T y [c0, c1, c2, c3, c4])
    (hT : ∀ b, T b → b < w.heap.size ∧ (a.eval s).ownBlock ≠ some b) (hl : l.length ≤ 1000) (hB : B ≤ w.heap.size)
    (h : ∀ u v' w', Own w' B 36 (fun b => T b ∨ b = w.heap.size) (l ++ [y]) v' → w.heap.size < w'.heap.size → w.grownBy w' (a.eval s).ownBlock → (v'.ownBlock = (a.eval s).ownBlock ∨ ∃ g, v'.ownBlock = some g ∧ w.heap.size < g) → wpList Try.prog ops Q rest ((a.put (some i) u).put dst v') w') :
    wpList Try.prog ops Q (⟨some i, .buildSlice 44 1 #[(0, x)], ty, pos, after, none⟩ :: ⟨dst, .call ⟨.builtin .append, #[s, .tmp i], #[44, 44]⟩, ty2, pos2, after2, none⟩ :: rest) a w := by
  refine build_I hx ?_
  have hal : w.grownBy (w.alloc (.cells #[c0, c1, c2, c3, c4] 36)) none := ⟨rfl, rfl, rfl, by rw [halloc_size]; omega, fun k hk _ => Below.heap_alloc _ _ _ hk⟩
  have hnew : (w.alloc (.cells #[c0, c1, c2, c3, c4] 36)).heap[w.heap.size]? = some (.cells #[c0, c1, c2, c3, c4] 36 (0, 0)) := heap_alloc_new w _
  have hsz := halloc_size w (.cells #[c0, c1, c2, c3, c4] 36)
  generalize w.alloc (.cells #[c0, c1, c2, c3, c4] 36) = w1 at *
  have hs1 : Own w1 B 36 (fun b => T b ∨ b = w.heap.size) l (a.eval s) := hs.keep (fun b hb hlt => ⟨hal.block b hlt (by simp), .inl hb⟩) (fun b hb => hal.block b (hs.ge b hb).2 (by simp))
  have hy1 : Rep.rd w1 T y [c0, c1, c2, c3, c4] := Rep.keep hy fun b hb hlt => ⟨hal.block b hlt (by simp), hb⟩
  have hsl : Sl w1 (fun b => T b ∨ b = w.heap.size) [y] (.slice (some ⟨w.heap.size, 0, none⟩) 1 1) := by
    refine Own.sl (B := 0) (e := 36) (S := T) ⟨[c0, c1, c2, c3, c4], ⟨_, [], by simp, hy1, rfl⟩, .inr ⟨w.heap.size, 0, 1, _, rfl, Nat.zero_le _, hnew, Nat.le_refl _, by simp only [maxLen]; omega, ?_, ?_⟩⟩ (fun b hb _ => .inl hb) fun b hb => .inr (by cases hb; rfl)
    · show 0 + 1 * 5 ≤ 5; omega
    · rfl
  refine wpList_append (z := .agg #[.int .u8 0, .slice none 0 0, .slice none 0 0, .slice none 0 0, .int .i64 0]) rowI rfl (by show 0 < 5; decide) (B := B) (l := l) (m := [y]) (S := fun b => T b ∨ b = w.heap.size) (by rw [hsi]; exact hs1) (by rw [hi]; exact hsl) (fun _ _ hz => hz) ?_ ?_ ?_ (by omega) fun v' w2 g1 g2 g3 => ?_
  · rintro b (hb | rfl) _
    · rw [hsi]; exact (hT b hb).2
    · rw [hsi]; intro e; have := (hs.ge _ e).2; omega
  · simp only [maxLen, List.length_cons, List.length_nil]; omega
  · simp only [List.length_cons, List.length_nil]; omega
  · rw [hsi] at g2 g3
    refine h _ v' w2 g1 (by have := g2.size; omega) ⟨g2.os.trans hal.os, g2.tape.trans hal.tape, g2.output.trans hal.output, Nat.le_trans hal.size g2.size, fun k hk hne => (g2.block k (by omega) hne).trans (hal.block k hk (by simp))⟩ ?_
    rcases g3 with g3 | ⟨g, g3, g4⟩
    · exact .inl g3
    · exact .inr ⟨g, g3, by omega⟩

structure Ws (w0 w : World) (g : Nat) (h : Option Nat) (F1 : List UInt8) (want : Value) (F2 : List UInt8) (allv : Value) (L : List Itm) (T : Nat → Prop) : Prop where
  below : Below w0.heap.size w0 w
  wf : Wf w0 w g h F1
  wnt : OwnB w w0.heap.size F2 want
  all : Own w w0.heap.size 36 T L allv
  tlt : ∀ b, T b → b < w.heap.size
  tg : ∀ b, T b → b ≠ g
  th : ∀ b, T b → h ≠ some b
  tw : ∀ b, T b → want.ownBlock ≠ some b
  ta : ∀ b, T b → allv.ownBlock ≠ some b
  hw : ∀ b, h = some b → want.ownBlock ≠ some b
  ha : ∀ b, h = some b → allv.ownBlock ≠ some b
  wa : ∀ b, want.ownBlock = some b → allv.ownBlock ≠ some b
  gw : want.ownBlock ≠ some g
  ga : allv.ownBlock ≠ some g

section
variable {w0 w w' : World} {g : Nat} {h h' : Option Nat} {F1 F2 F : List UInt8} {want want' allv allv' : Value} {L L' : List Itm} {T T' : Nat → Prop}

theorem Ws.wlt (s : Ws w0 w g h F1 want F2 allv L T) : ∀ b, want.ownBlock = some b → b < w.heap.size := fun b hb => (s.wnt.ge b hb).2
theorem Ws.alt (s : Ws w0 w g h F1 want F2 allv L T) : ∀ b, allv.ownBlock = some b → b < w.heap.size := fun b hb => (s.all.ge b hb).2

theorem Ws.alloc (s : Ws w0 w g h F1 want F2 allv L T) (hb : Below w.heap.size w w') : Ws w0 w' g h F1 want F2 allv L T :=
  ⟨below_on s.below hb s.below.size, s.wf.keep hb, Own.below s.wnt hb (Nat.le_refl _), Own.below s.all hb (Nat.le_refl _), fun b ht => Nat.lt_of_lt_of_le (s.tlt b ht) hb.size, s.tg, s.th, s.tw, s.ta, s.hw, s.ha, s.wa, s.gw, s.ga⟩

theorem Ws.write (s : Ws w0 w g h F1 want F2 allv L T) (hw : Wr w' g h' F) (m : Mv w w' g h h') : Ws w0 w' g h' F want F2 allv L T := by
  refine ⟨s.wf.below s.below m, s.wf.step hw m, s.wnt.only m.2 ?_, ?_, fun b ht => Nat.lt_of_lt_of_le (s.tlt b ht) m.2.size, s.tg, fun b ht => m.far (s.tlt b ht) (s.th b ht), s.tw, s.ta, ?_, ?_, s.wa, s.gw, s.ga⟩
  · rintro b hb (rfl | e)
    · exact s.gw hb
    · exact s.hw b e hb
  · refine s.all.keep (fun b ht hlt => ⟨m.2.block b hlt ?_, ht⟩) fun b hb => m.2.block b (s.alt b hb) ?_
    · rintro (e | e)
      · exact s.tg b ht e
      · exact s.th b ht e
    · rintro (rfl | e)
      · exact s.ga hb
      · exact s.ha b e hb
  · intro b hb e
    exact m.far (s.wlt b e) (fun e' => s.hw b e' e) hb
  · intro b hb e
    exact m.far (s.alt b e) (fun e' => s.ha b e' e) hb

theorem Ws.setWant (s : Ws w0 w g h F1 want F2 allv L T) (ho : OwnB w' w0.heap.size F want') (hg : w.grownBy w' want.ownBlock) (hv : want'.ownBlock = want.ownBlock ∨ ∃ k, want'.ownBlock = some k ∧ w.heap.size ≤ k) : Ws w0 w' g h F1 want' F allv L T := by
  have hF := Only.of_grown hg
  refine ⟨below_only s.below hF (fun k hk => (s.wnt.ge k hk).1), s.wf.only hF s.gw (fun k hk => s.hw k hk), ho, ?_, fun b ht => Nat.lt_of_lt_of_le (s.tlt b ht) hg.size, s.tg, s.th, ?_, s.ta, ?_, s.ha, ?_, ?_, s.ga⟩
  · exact s.all.keep (fun b ht hlt => ⟨hF.block b hlt (s.tw b ht), ht⟩) fun b hb => hF.block b (s.alt b hb) (fun e => s.wa b e hb)
  · intro b ht e
    rcases hv with hv | ⟨k, hv, hk⟩
    · exact s.tw b ht (hv.symm.trans e)
    · rw [hv] at e; have := s.tlt b ht; cases e; omega
  · intro b hb e
    rcases hv with hv | ⟨k, hv, hk⟩
    · exact s.hw b hb (hv.symm.trans e)
    · rw [hv] at e; have := s.wf.wr.row_lt b hb; cases e; omega
  · intro b hb e
    rcases hv with hv | ⟨k, hv, hk⟩
    · exact s.wa b (hv.symm.trans hb) e
    · rw [hv] at hb; have := s.alt b e; cases hb; omega
  · intro e
    rcases hv with hv | ⟨k, hv, hk⟩
    · exact s.gw (hv.symm.trans e)
    · rw [hv] at e; have := s.wf.wr.lt; cases e; omega

theorem Ws.setAll (s : Ws w0 w g h F1 want F2 allv L T) (hT : ∀ b, T' b → T b ∨ b = w.heap.size) (hlt : w.heap.size < w'.heap.size) (ho : Own w' w0.heap.size 36 T' L' allv') (hg : w.grownBy w' allv.ownBlock)
    (hv : allv'.ownBlock = allv.ownBlock ∨ ∃ k, allv'.ownBlock = some k ∧ w.heap.size < k) : Ws w0 w' g h F1 want F2 allv' L' T' := by
  have hF := Only.of_grown hg
  have hgl := s.wf.wr.lt
  refine ⟨below_only s.below hF (fun k hk => (s.all.ge k hk).1), s.wf.only hF s.ga (fun k hk => s.ha k hk), s.wnt.only hF (fun b hb => s.wa b hb), ho, ?_, ?_, ?_, ?_, ?_, s.hw, ?_, ?_, s.gw, ?_⟩
  · intro b ht
    rcases hT b ht with ht | rfl
    · exact Nat.lt_of_lt_of_le (s.tlt b ht) hg.size
    · exact hlt
  · intro b ht
    rcases hT b ht with ht | rfl
    · exact s.tg b ht
    · omega
  · intro b ht e
    rcases hT b ht with ht | rfl
    · exact s.th b ht e
    · have := s.wf.wr.row_lt _ e; omega
  · intro b ht e
    rcases hT b ht with ht | rfl
    · exact s.tw b ht e
    · have := s.wlt _ e; omega
  · intro b ht e
    rcases hT b ht with ht | rfl
    · rcases hv with hv | ⟨k, hv, hk⟩
      · exact s.ta b ht (hv.symm.trans e)
      · rw [hv] at e; have := s.tlt b ht; cases e; omega
    · rcases hv with hv | ⟨k, hv, hk⟩
      · have := s.alt _ (hv.symm.trans e); omega
      · rw [hv] at e; cases e; omega
  · intro b hb e
    rcases hv with hv | ⟨k, hv, hk⟩
    · exact s.ha b hb (hv.symm.trans e)
    · rw [hv] at e; have := s.wf.wr.row_lt b hb; cases e; omega
  · intro b hb e
    rcases hv with hv | ⟨k, hv, hk⟩
    · exact s.wa b hb (hv.symm.trans e)
    · rw [hv] at e; have := s.wlt b hb; cases e; omega
  · intro e
    rcases hv with hv | ⟨k, hv, hk⟩
    · exact s.ga (hv.symm.trans e)
    · rw [hv] at e; cases e; omega

/-- More blocks are held. -/
theorem Ws.more (s : Ws w0 w g h F1 want F2 allv L T) {A : Nat} (hA : g < A) (hAh : ∀ b, h = some b → b < A) (hAw : ∀ b, want.ownBlock = some b → b < A) (hAa : ∀ b, allv.ownBlock = some b → b < A) (hT : ∀ b, T b → T' b) (hT' : ∀ b, T' b → T b ∨ (A ≤ b ∧ b < w.heap.size)) : Ws w0 w g h F1 want F2 allv L T' := by
  refine ⟨s.below, s.wf, s.wnt, s.all.keep (fun b ht _ => ⟨rfl, hT b ht⟩) (fun _ _ => rfl), ?_, ?_, ?_, ?_, ?_, s.hw, s.ha, s.wa, s.gw, s.ga⟩
  · intro b ht
    rcases hT' b ht with ht | ht
    · exact s.tlt b ht
    · exact ht.2
  · intro b ht
    rcases hT' b ht with ht | ht
    · exact s.tg b ht
    · omega
  · intro b ht e
    rcases hT' b ht with ht | ht
    · exact s.th b ht e
    · have := hAh b e; omega
  · intro b ht e
    rcases hT' b ht with ht | ht
    · exact s.tw b ht e
    · have := hAw b e; omega
  · intro b ht e
    rcases hT' b ht with ht | ht
    · exact s.ta b ht e
    · have := hAa b e; omega
end
end Go.Proofs.Ytfgagfemhmcdfaa
