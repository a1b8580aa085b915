/- armillarylaw19: two callers beside one another, the program's and the document's. -/
import Derived.Test.YtjkffjngamagkaaDoorCallSame
import Derived.Test.YtjkffjngamagkaaDoorRefAsk
import Derived.Test.YtjkffjngamagkaaDoorRefFewV
namespace Go.Arm
open Go.RowKit
def Kept (Z : Nat → Prop) (w w' : World) : Prop := ∀ k, Z k → w'.heap[k]? = w.heap[k]?
def oCode (o : Option CallR) (f : CallR → Int) : Int := match o with | none => 6 | some c => f c
def oL (o : Option CallR) (f : CallR → List LetR) : List LetR := match o with | none => [] | some c => f c
theorem few_same (n : NoteR) : fewN (fewN n) = fewN n := by
 unfold fewN
 simp only [List.take_take, Nat.min_self, NoteR.mk.injEq, true_and]
 refine ⟨?_, ?_⟩
 ·rw [← List.map_take, List.take_take, Nat.min_self, List.map_map]
  refine List.map_congr_left fun x _ => ?_
  simp [cutO, List.take_take]
 ·rw [← List.map_take, List.take_take, Nat.min_self, List.map_map]
  refine List.map_congr_left fun x _ => ?_
  simp [cutH, List.take_take]
end Go.Arm
namespace Go.Proofs.YtjkffjngamagkaaDoor
open Go Go.RowKit Go.Arm
structure Duo (w : World) (base g gx : Nat) (c d : CallR) (M1 S1 M2 S2 Z Y : Nat → Prop) : Prop where
 c1 : CalP w base M1 S1 g c
 f1 : Fr w base M1 S1
 c2 : RefP w base M2 S2 gx d
 f2 : Fr w base M2 S2
 mm : ∀ k, M1 k → ¬ M2 k
 m1 : ∀ k, M1 k → ¬ S2 k
 m2 : ∀ k, M2 k → ¬ S1 k
 old : ∀ k, S1 k ∨ S2 k → k < w.heap.size
 zz : ∀ k, Z k → ¬ M1 k ∧ ¬ M2 k ∧ k < w.heap.size
 yy : ∀ k, Y k → ¬ S1 k ∧ ¬ S2 k ∧ Z k
section
variable {w w' : World} {base g gx : Nat} {c d c' d' : CallR} {M1 S1 M2 S2 Z Y : Nat → Prop}
theorem Duo.below (h : Duo w base g gx c d M1 S1 M2 S2 Z Y) (hb : Below w.heap.size w w') : Duo w' base g gx c d M1 S1 M2 S2 Z Y :=
 ⟨h.c1.below h.f1 hb (Nat.le_refl _), h.f1.below hb, h.c2.below h.f2 hb (Nat.le_refl _), h.f2.below hb, h.mm, h.m1, h.m2, fun k hk => Nat.lt_of_lt_of_le (h.old k hk) hb.size, fun k hk => ⟨(h.zz k hk).1, (h.zz k hk).2.1, Nat.lt_of_lt_of_le (h.zz k hk).2.2 hb.size⟩, h.yy⟩
theorem Duo.grow (h : Duo w base g gx c d M1 S1 M2 S2 Z Y) (hb : Below w.heap.size w w') : Duo w' base g gx c d M1 S1 M2 S2 (fun k => Z k ∨ (w.heap.size ≤ k ∧ k < w'.heap.size)) (fun k => Y k ∨ (w.heap.size ≤ k ∧ k < w'.heap.size)) := by
 have h' := h.below hb
 refine ⟨h'.c1, h'.f1, h'.c2, h'.f2, h.mm, h.m1, h.m2, h'.old, fun k hk => ?_, fun k hk => ?_⟩
 ·rcases hk with hk | hk
  ·exact h'.zz k hk
  ·exact ⟨fun e => by have := (h.f1 k e).2.1; omega, fun e => by have := (h.f2 k e).2.1; omega, hk.2⟩
 ·rcases hk with hk | hk
  ·exact ⟨(h.yy k hk).1, (h.yy k hk).2.1, .inl (h.yy k hk).2.2⟩
  ·exact ⟨fun e => by have := h.old k (.inl e); omega, fun e => by have := h.old k (.inr e); omega, .inr hk⟩
theorem Duo.mono (h : Duo w base g gx c d M1 S1 M2 S2 Z Y) {Z' Y' : Nat → Prop} (hZ : ∀ k, Z' k → Z k) (hY : ∀ k, Y' k → Y k) (hYZ : ∀ k, Y' k → Z' k) : Duo w base g gx c d M1 S1 M2 S2 Z' Y' :=
 ⟨h.c1, h.f1, h.c2, h.f2, h.mm, h.m1, h.m2, h.old, fun k hk => h.zz k (hZ k hk), fun k hk => ⟨(h.yy k (hY k hk)).1, (h.yy k (hY k hk)).2.1, hYZ k hk⟩⟩
theorem Duo.write (h : Duo w base g gx c d M1 S1 M2 S2 Z Y) (ho : Only Y w w') : Duo w' base g gx c d M1 S1 M2 S2 Z Y :=
 ⟨h.c1.only h.f1 ho (fun k hk e => (h.zz k (h.yy k e).2.2).1 hk) fun k hk _ e => (h.yy k e).1 hk, h.f1.mono ho.size fun _ _ _ e => e, h.c2.only h.f2 ho (fun k hk e => (h.zz k (h.yy k e).2.2).2.1 hk) fun k hk _ e => (h.yy k e).2.1 hk, h.f2.mono ho.size fun _ _ _ e => e, h.mm, h.m1, h.m2, fun k hk => Nat.lt_of_lt_of_le (h.old k hk) ho.size, fun k hk => ⟨(h.zz k hk).1, (h.zz k hk).2.1, Nat.lt_of_lt_of_le (h.zz k hk).2.2 ho.size⟩, h.yy⟩
theorem Duo.prog (h : Duo w base g gx c d M1 S1 M2 S2 Z Y) {M' S' : Nat → Prop} (hC : CalP w' base M' S' g c') (hF : Fr w' base M' S') (hM : ∀ k, M' k → M1 k ∨ w.heap.size ≤ k) (hS : ∀ k, S' k → S1 k ∨ w.heap.size ≤ k) (ho : Only M1 w w') :
  Duo w' base g gx c' d M' (fun k => S' k ∧ k < w'.heap.size) M2 S2 (fun k => Z k ∨ (w.heap.size ≤ k ∧ k < w'.heap.size ∧ ¬ M' k)) Y := by
 have l1 : ∀ k, M2 k → k < w.heap.size := fun k hk => (h.f2 k hk).2.1
 have sz := ho.size
 refine ⟨hC.keep (fun k hk => ⟨rfl, hk⟩) fun k hk hlt => ⟨rfl, hk, hlt⟩, fun k hk => ⟨(hF k hk).1, (hF k hk).2.1, fun e => (hF k hk).2.2 e.1⟩, h.c2.only h.f2 ho (fun k hk e => h.mm k e hk) fun k hk _ e => h.m1 k e hk, h.f2.mono sz fun _ _ _ e => e, fun k hk e => ?_, fun k hk e => ?_, fun k hk e => ?_, fun k hk => ?_, fun k hk => ?_, fun k hk => ?_⟩
 ·rcases hM k hk with hk | hk
  ·exact h.mm k hk e
  ·have := l1 k e; omega
 ·rcases hM k hk with hk | hk
  ·exact h.m1 k hk e
  ·have := h.old k (.inr e); omega
 ·rcases hS k e.1 with e | e
  ·exact h.m2 k hk e
  ·have := l1 k hk; omega
 ·rcases hk with hk | hk
  ·exact hk.2
  ·have := h.old k (.inr hk); omega
 ·rcases hk with hk | hk
  ·have := h.zz k hk
   refine ⟨fun e => ?_, this.2.1, by omega⟩
   rcases hM k e with e | e
   ·exact this.1 e
   ·omega
  ·exact ⟨hk.2.2, fun e => by have := l1 k e; omega, hk.2.1⟩
 ·have h1 := h.yy k hk
  have h2 := h.zz k h1.2.2
  refine ⟨fun e => ?_, h1.2.1, .inl h1.2.2⟩
  rcases hS k e.1 with e | e
  ·exact h1.1 e
  ·omega
theorem Duo.doc (h : Duo w base g gx c d M1 S1 M2 S2 Z Y) {M' S' T : Nat → Prop} (hC : RefP w' base M' S' gx d') (hF : Fr w' base M' S') (hM : ∀ k, M' k → M2 k ∨ w.heap.size ≤ k) (hS : ∀ k, S' k → S2 k ∨ T k ∨ w.heap.size ≤ k) (ho : Only M2 w w') (hT : ∀ k, T k → Z k) :
  Duo w' base g gx c d' M1 S1 M' (fun k => S' k ∧ k < w'.heap.size) (fun k => Z k ∨ (w.heap.size ≤ k ∧ k < w'.heap.size ∧ ¬ M' k)) (fun k => Y k ∧ ¬ T k) := by
 have l1 : ∀ k, M1 k → k < w.heap.size := fun k hk => (h.f1 k hk).2.1
 have sz := ho.size
 refine ⟨h.c1.only h.f1 ho (fun k hk e => h.mm k hk e) fun k hk _ e => h.m2 k e hk, h.f1.mono sz fun _ _ _ e => e, hC.keep (fun k hk => ⟨rfl, hk⟩) fun k hk hlt => ⟨rfl, hk, hlt⟩, fun k hk => ⟨(hF k hk).1, (hF k hk).2.1, fun e => (hF k hk).2.2 e.1⟩, fun k hk e => ?_, fun k hk e => ?_, fun k hk e => ?_, fun k hk => ?_, fun k hk => ?_, fun k hk => ?_⟩
 ·rcases hM k e with e | e
  ·exact h.mm k hk e
  ·have := l1 k hk; omega
 ·rcases hS k e.1 with e | e | e
  ·exact h.m1 k hk e
  ·exact (h.zz k (hT k e)).1 hk
  ·have := l1 k hk; omega
 ·rcases hM k hk with hk | hk
  ·exact h.m2 k hk e
  ·have := h.old k (.inl e); omega
 ·rcases hk with hk | hk
  ·have := h.old k (.inl hk); omega
  ·exact hk.2
 ·rcases hk with hk | hk
  ·have := h.zz k hk
   refine ⟨this.1, fun e => ?_, by omega⟩
   rcases hM k e with e | e
   ·exact this.2.1 e
   ·omega
  ·exact ⟨fun e => by have := l1 k e; omega, hk.2.2, hk.2.1⟩
 ·have h1 := h.yy k hk.1
  have h2 := h.zz k h1.2.2
  refine ⟨h1.1, fun e => ?_, .inl h1.2.2⟩
  rcases hS k e.1 with e | e | e
  ·exact h1.2.1 e
  ·exact hk.2 e
  ·omega
end
def Two (w : World) (base : Nat) (pc px : Value) (o1 o2 : Option CallR) (Z Y : Nat → Prop) : Prop :=
 (pc = .pointer none ∧ px = .pointer none ∧ o1 = none ∧ o2 = none ∧ (∀ k, Z k → k < w.heap.size) ∧ ∀ k, Y k → Z k) ∨
 ∃ g gx c d M1 S1 M2 S2, pc = .pointer (some ⟨g, 0, none⟩) ∧ px = .pointer (some ⟨gx, 0, none⟩) ∧ o1 = some c ∧ o2 = some d ∧ Duo w base g gx c d M1 S1 M2 S2 Z Y
section
variable {w w' : World} {base : Nat} {pc px : Value} {o1 o2 : Option CallR} {Z Y : Nat → Prop}
theorem Two.below (h : Two w base pc px o1 o2 Z Y) (hb : Below w.heap.size w w') : Two w' base pc px o1 o2 Z Y := by
 rcases h with ⟨h1, h2, h3, h4, h5, h6⟩ | ⟨g, gx, c, d, M1, S1, M2, S2, h1, h2, h3, h4, h5⟩
 ·exact .inl ⟨h1, h2, h3, h4, fun k hk => Nat.lt_of_lt_of_le (h5 k hk) hb.size, h6⟩
 ·exact .inr ⟨g, gx, c, d, M1, S1, M2, S2, h1, h2, h3, h4, h5.below hb⟩
theorem Two.grow (h : Two w base pc px o1 o2 Z Y) (hb : Below w.heap.size w w') : Two w' base pc px o1 o2 (fun k => Z k ∨ (w.heap.size ≤ k ∧ k < w'.heap.size)) (fun k => Y k ∨ (w.heap.size ≤ k ∧ k < w'.heap.size)) := by
 rcases h with ⟨h1, h2, h3, h4, h5, h6⟩ | ⟨g, gx, c, d, M1, S1, M2, S2, h1, h2, h3, h4, h5⟩
 ·refine .inl ⟨h1, h2, h3, h4, fun k hk => ?_, fun k hk => hk.imp (h6 k) id⟩
  rcases hk with hk | hk
  ·exact Nat.lt_of_lt_of_le (h5 k hk) hb.size
  ·exact hk.2
 ·exact .inr ⟨g, gx, c, d, M1, S1, M2, S2, h1, h2, h3, h4, h5.grow hb⟩
theorem Two.mono (h : Two w base pc px o1 o2 Z Y) {Z' Y' : Nat → Prop} (hZ : ∀ k, Z' k → Z k) (hY : ∀ k, Y' k → Y k) (hYZ : ∀ k, Y' k → Z' k) : Two w base pc px o1 o2 Z' Y' := by
 rcases h with ⟨h1, h2, h3, h4, h5, h6⟩ | ⟨g, gx, c, d, M1, S1, M2, S2, h1, h2, h3, h4, h5⟩
 ·exact .inl ⟨h1, h2, h3, h4, fun k hk => h5 k (hZ k hk), hYZ⟩
 ·exact .inr ⟨g, gx, c, d, M1, S1, M2, S2, h1, h2, h3, h4, h5.mono hZ hY hYZ⟩
theorem Two.write (h : Two w base pc px o1 o2 Z Y) (ho : Only Y w w') : Two w' base pc px o1 o2 Z Y := by
 rcases h with ⟨h1, h2, h3, h4, h5, h6⟩ | ⟨g, gx, c, d, M1, S1, M2, S2, h1, h2, h3, h4, h5⟩
 ·exact .inl ⟨h1, h2, h3, h4, fun k hk => Nat.lt_of_lt_of_le (h5 k hk) ho.size, h6⟩
 ·exact .inr ⟨g, gx, c, d, M1, S1, M2, S2, h1, h2, h3, h4, h5.write ho⟩
theorem Two.zlt (h : Two w base pc px o1 o2 Z Y) : ∀ k, Z k → k < w.heap.size := by
 rcases h with ⟨h1, h2, h3, h4, h5, h6⟩ | ⟨g, gx, c, d, M1, S1, M2, S2, h1, h2, h3, h4, h5⟩
 ·exact h5
 ·exact fun k hk => (h5.zz k hk).2.2
theorem Two.yz (h : Two w base pc px o1 o2 Z Y) : ∀ k, Y k → Z k := by
 rcases h with ⟨h1, h2, h3, h4, h5, h6⟩ | ⟨g, gx, c, d, M1, S1, M2, S2, h1, h2, h3, h4, h5⟩
 ·exact h6
 ·exact fun k hk => (h5.yy k hk).2.2
end
theorem nunp_bodyR (n : NoteR) : nunp rlim (bodyOf n) = if nright (fewN n) = true then (fewN n, 0) else (zeroN, 2) := by
 unfold bodyOf
 split
 ·rename_i h
  rw [nunp_frame rlim _ (encNote_len (nright_fair h)), unp_right rlim_ok h]
 ·rfl
theorem hear_bodyR (c : CallR) (src : Int) (n : NoteR) : c.hear src (nunp rlim (bodyOf n)).1 (nunp rlim (bodyOf n)).2 = c.hearN src n := by
 rw [nunp_bodyR, ← nunp_body]
 exact hear_body c src n
def Went (w w' : World) (base : Nat) (pc px : Value) (o1 o2 : Option CallR) (Z Z' Y : Nat → Prop) : Prop :=
 Two w' base pc px o1 o2 Z' Y ∧ (∀ k, Z k → Z' k) ∧ Kept Z w w' ∧ Below base w w'
theorem Went.nil {w w' : World} {base : Nat} {Z Y' : Nat → Prop} (hz : ∀ k, Z k → k < w.heap.size) (hy : ∀ k, Y' k → Z k) (hbase : base ≤ w.heap.size) (hb : Below w.heap.size w w') :
  Went w w' base (.pointer none) (.pointer none) none none Z Z Y' :=
 ⟨.inl ⟨rfl, rfl, rfl, rfl, fun k hk => Nat.lt_of_lt_of_le (hz k hk) hb.size, hy⟩, fun _ h => h, fun k hk => hb.block k (hz k hk), (Only.of_below hb).below hbase fun k hk => by omega⟩
section
variable (w : World) (base : Nat) (pc px : Value) (o1 o2 : Option CallR) (Z Y : Nat → Prop)
theorem two_put (hN : Srt w) (hB : Nib w) (h : Two w base pc px o1 o2 Z Y) (hbase : base ≤ w.heap.size) (hok : ∀ c, o1 = some c → c.Ok) (S0 : Nat → Prop) (num : UInt64) (l : List OpR) (v : Value) (ho : Sl w S0 l v) :
  Calls Tryd.prog 29 #[pc, .int .u64 (num.toNat : Int), v] w fun e w' => ∃ u Z', e = .returned (.tuple #[u, .int .i64 (oCode o1 (·.putCode num l))]) ∧ Went w w' base pc px (o1.map (·.put num l)) o2 Z Z' Y ∧ Sl w' Z' (oL o1 (·.putL num l)) u := by
 rcases h with ⟨rfl, rfl, rfl, rfl, h5, h6⟩ | ⟨g, gx, c, d, M1, S1, M2, S2, rfl, rfl, rfl, rfl, h5⟩
 ·obtain ⟨_, _, _, rfl⟩ := Sl.shape ho
  refine (put_nil w num _ _ _).mono ?_
  rintro e w' ⟨rfl, hb⟩
  exact ⟨_, Z, rfl, Went.nil h5 h6 hbase hb, Sl.nil _ _⟩
 ·refine (put_any w hN hB base M1 S1 S0 g c num l v h5.c1 h5.f1 hbase ho (hok c rfl).hB).mono ?_
  rintro e w' ⟨u, M', rfl, r1, r2, r3, r4, r5⟩
  refine ⟨u, _, rfl, ⟨.inr ⟨g, gx, _, d, _, _, _, _, rfl, rfl, rfl, rfl, h5.prog r1 r2 r3 (fun k hk => hk.2) r4⟩, fun k hk => .inl hk, fun k hk => r4.block k (h5.zz k hk).2.2 (h5.zz k hk).1, r4.below hbase fun k hk => (h5.f1 k hk).1⟩, ?_⟩
  exact r5.keep fun k hk hlt => ⟨rfl, .inr ⟨hk.1, hlt, hk.2⟩⟩
theorem two_ask (hN : Srt w) (hB : Nib w) (h : Two w base pc px o1 o2 Z Y) (hbase : base ≤ w.heap.size) (hok : ∀ c, o1 = some c → c.Ok) (S0 : Nat → Prop) (n : NoteR) (V : Value) (hV : Nt w S0 n V) :
  Calls Tryd.prog 30 #[pc, V] w fun e w' => ∃ u Z', e = .returned (.tuple #[u, .int .i64 (oCode o1 (·.askCode n))]) ∧ Went w w' base pc px (o1.map (·.ask n)) o2 Z Z' Y ∧ Sl w' Z' (oL o1 (·.askL n)) u := by
 rcases h with ⟨rfl, rfl, rfl, rfl, h5, h6⟩ | ⟨g, gx, c, d, M1, S1, M2, S2, rfl, rfl, rfl, rfl, h5⟩
 ·refine (ask_nil w _ n V hV).mono ?_
  rintro e w' ⟨rfl, hb⟩
  exact ⟨_, Z, rfl, Went.nil h5 h6 hbase hb, Sl.nil _ _⟩
 ·refine (ask_any w hN hB base M1 S1 S0 g c n V h5.c1 h5.f1 hbase hV (hok c rfl).hQ).mono ?_
  rintro e w' ⟨u, M', rfl, r1, r2, r3, r4, r5⟩
  refine ⟨u, _, rfl, ⟨.inr ⟨g, gx, _, d, _, _, _, _, rfl, rfl, rfl, rfl, h5.prog r1 r2 r3 (fun k hk => hk.2) r4⟩, fun k hk => .inl hk, fun k hk => r4.block k (h5.zz k hk).2.2 (h5.zz k hk).1, r4.below hbase fun k hk => (h5.f1 k hk).1⟩, ?_⟩
  exact r5.keep fun k hk hlt => ⟨rfl, .inr ⟨hk.1, hlt, hk.2⟩⟩
theorem two_hear (hN : Srt w) (hB : Nib w) (h : Two w base pc px o1 o2 Z Y) (hbase : base ≤ w.heap.size) (hok : ∀ c, o1 = some c → c.Ok) (S0 : Nat → Prop) (src : Int) (n : NoteR) (p : Value) (hp : Sl w S0 (bodyOf n) p) :
  Calls Tryd.prog 36 #[pc, .int .i64 src, p] w fun e w' => ∃ Z', e = .returned (.tuple #[]) ∧ Went w w' base pc px (o1.map (·.hearN src n)) o2 Z Z' Y := by
 have hl := bodyOf_len n
 rcases h with ⟨rfl, rfl, rfl, rfl, h5, h6⟩ | ⟨g, gx, c, d, M1, S1, M2, S2, rfl, rfl, rfl, rfl, h5⟩
 ·refine (hear_nil w hN hB _ src _ p hp (by omega)).mono ?_
  rintro e w' ⟨rfl, hb⟩
  exact ⟨Z, rfl, Went.nil h5 h6 hbase hb⟩
 ·refine (hear_any w hN hB base M1 S1 S0 g c src _ p h5.c1 h5.f1 hbase hp (by omega) (hok c rfl)).mono ?_
  rw [hear_body]
  rintro e w' ⟨rfl, r1, r2, r4⟩
  exact ⟨_, rfl, ⟨.inr ⟨g, gx, _, d, _, _, _, _, rfl, rfl, rfl, rfl, h5.prog r1 r2 (fun k hk => .inl hk) (fun k hk => hk.2) r4⟩, fun k hk => .inl hk, fun k hk => r4.block k (h5.zz k hk).2.2 (h5.zz k hk).1, r4.below hbase fun k hk => (h5.f1 k hk).1⟩⟩
theorem two_wake (h : Two w base pc px o1 o2 Z Y) (hbase : base ≤ w.heap.size) (hok : ∀ c, o1 = some c → c.Ok) :
  Calls Tryd.prog 31 #[pc] w fun e w' => ∃ u Z', e = .returned u ∧ Went w w' base pc px o1 o2 Z Z' Y ∧ Sl w' Z' (oL o1 (·.wake)) u := by
 have h0 := h
 rcases h with ⟨rfl, rfl, rfl, rfl, h5, h6⟩ | ⟨g, gx, c, d, M1, S1, M2, S2, rfl, rfl, rfl, rfl, h5⟩
 ·refine (wake_nil w).mono ?_
  rintro e w' ⟨rfl, rfl⟩
  exact ⟨_, Z, rfl, Went.nil h5 h6 hbase (Below.refl _ _), Sl.nil _ _⟩
 ·refine (wake_any w base M1 S1 g c h5.c1 h5.f1 (hok c rfl)).mono ?_
  rintro e w' ⟨u, rfl, r1, r2⟩
  exact ⟨u, fun k => Z k ∨ (w.heap.size ≤ k ∧ k < w'.heap.size), rfl, ⟨(h0.grow r2).mono (fun _ h => h) (fun _ h => .inl h) fun k hk => .inl (h0.yz k hk), fun k hk => .inl hk, fun k hk => r2.block k (h0.zlt k hk), (Only.of_below r2).below hbase fun k hk => by omega⟩, r1.wide fun k hk _ => .inr hk⟩
theorem two_rput (h : Two w base pc px o1 o2 Z Y) (hbase : base ≤ w.heap.size) (hok : ∀ c, o2 = some c → c.Ok) (T : Nat → Prop) (hT : ∀ k, T k → Z k) (num : UInt64) (l : List OpR) (v : Value) (ho : Sl w T l v) :
  Calls Tryd.prog 32 #[px, .int .u64 (num.toNat : Int), v] w fun e w' => ∃ u Z', e = .returned (.tuple #[u, .int .i64 (oCode o2 (·.putCode num l))]) ∧ Went w w' base pc px o1 (o2.map (·.put num l)) Z Z' (fun k => Y k ∧ ¬ T k) ∧ Sl w' Z' (oL o2 (·.putL num l)) u := by
 rcases h with ⟨rfl, rfl, rfl, rfl, h5, h6⟩ | ⟨g, gx, c, d, M1, S1, M2, S2, rfl, rfl, rfl, rfl, h5⟩
 ·obtain ⟨_, _, _, rfl⟩ := Sl.shape ho
  refine (rput_nil w num _ _ _).mono ?_
  rintro e w' ⟨rfl, rfl⟩
  exact ⟨_, Z, rfl, Went.nil h5 (fun k hk => h6 k hk.1) hbase (Below.refl _ _), Sl.nil _ _⟩
 ·refine (rput_any w base M2 S2 T gx d num l v h5.c2 h5.f2 hbase ho (fun k hk _ => (h5.zz k (hT k hk)).2.1) (hok d rfl).hB).mono ?_
  rintro e w' ⟨u, M', rfl, r1, r2, r3, r4, r5⟩
  refine ⟨u, _, rfl, ⟨.inr ⟨g, gx, c, _, _, _, _, _, rfl, rfl, rfl, rfl, h5.doc r1 r2 r3 (fun k hk => by have := hk.2; rcases this with (h | h) | h; exact .inl h; exact .inr (.inl h); exact .inr (.inr h)) r4 hT⟩, fun k hk => .inl hk, fun k hk => r4.block k (h5.zz k hk).2.2 (h5.zz k hk).2.1, r4.below hbase fun k hk => (h5.f2 k hk).1⟩, ?_⟩
  exact r5.keep fun k hk hlt => ⟨rfl, .inr ⟨hk.1, hlt, hk.2⟩⟩
theorem two_rask (h : Two w base pc px o1 o2 Z Y) (hbase : base ≤ w.heap.size) (hok : ∀ c, o2 = some c → c.Ok) (T : Nat → Prop) (hT : ∀ k, T k → Z k) (n : NoteR) (V : Value) (hV : Nt w T n V) :
  Calls Tryd.prog 33 #[px, V] w fun e w' => ∃ u Z', e = .returned (.tuple #[u, .int .i64 (oCode o2 (·.askCode n))]) ∧ Went w w' base pc px o1 (o2.map (·.ask n)) Z Z' (fun k => Y k ∧ ¬ T k) ∧ Sl w' Z' (oL o2 (·.askL n)) u := by
 rcases h with ⟨rfl, rfl, rfl, rfl, h5, h6⟩ | ⟨g, gx, c, d, M1, S1, M2, S2, rfl, rfl, rfl, rfl, h5⟩
 ·refine (rask_nil w _ n V hV).mono ?_
  rintro e w' ⟨rfl, hb⟩
  exact ⟨_, Z, rfl, Went.nil h5 (fun k hk => h6 k hk.1) hbase hb, Sl.nil _ _⟩
 ·refine (rask_any w base M2 S2 T gx d n V h5.c2 h5.f2 hbase hV (fun k hk _ => (h5.zz k (hT k hk)).2.1) (hok d rfl).hQ).mono ?_
  rintro e w' ⟨u, M', rfl, r1, r2, r3, r4, r5⟩
  refine ⟨u, _, rfl, ⟨.inr ⟨g, gx, c, _, _, _, _, _, rfl, rfl, rfl, rfl, h5.doc r1 r2 r3 (fun k hk => by have := hk.2; rcases this with (h | h) | h; exact .inl h; exact .inr (.inl h); exact .inr (.inr h)) r4 hT⟩, fun k hk => .inl hk, fun k hk => r4.block k (h5.zz k hk).2.2 (h5.zz k hk).2.1, r4.below hbase fun k hk => (h5.f2 k hk).1⟩, ?_⟩
  exact r5.keep fun k hk hlt => ⟨rfl, .inr ⟨hk.1, hlt, hk.2⟩⟩
theorem two_rhear (h : Two w base pc px o1 o2 Z Y) (hbase : base ≤ w.heap.size) (hok : ∀ c, o2 = some c → c.Ok) (S0 : Nat → Prop) (src : Int) (n : NoteR) (p : Value) (hp : Sl w S0 (bodyOf n) p) :
  Calls Tryd.prog 37 #[px, .int .i64 src, p] w fun e w' => ∃ Z', e = .returned (.tuple #[]) ∧ Went w w' base pc px o1 (o2.map (·.hearN src n)) Z Z' Y := by
 have hl := bodyOf_len n
 rcases h with ⟨rfl, rfl, rfl, rfl, h5, h6⟩ | ⟨g, gx, c, d, M1, S1, M2, S2, rfl, rfl, rfl, rfl, h5⟩
 ·refine (rhear_nil w _ src _ p hp (by omega)).mono ?_
  rintro e w' ⟨rfl, hb⟩
  exact ⟨Z, rfl, Went.nil h5 h6 hbase hb⟩
 ·refine (rhear_any w base M2 S2 S0 gx d src _ p h5.c2 h5.f2 hp (by omega) (hok d rfl).hB (hok d rfl).hQ).mono ?_
  rw [hear_bodyR]
  rintro e w' ⟨rfl, r1, r2, r4⟩
  exact ⟨_, rfl, ⟨.inr ⟨g, gx, c, _, _, _, _, _, rfl, rfl, rfl, rfl, (h5.doc (T := fun _ => False) r1 r2 (fun k hk => .inl hk) (fun k hk => hk.2.imp id .inr) r4 fun _ h => h.elim).mono (fun _ h => h) (fun k h => ⟨h, id⟩) fun k hk => .inl (h5.yy k hk).2.2⟩, fun k hk => .inl hk, fun k hk => r4.block k (h5.zz k hk).2.2 (h5.zz k hk).2.1, r4.below hbase fun k hk => (h5.f2 k hk).1⟩⟩
theorem two_rwake (h : Two w base pc px o1 o2 Z Y) (hbase : base ≤ w.heap.size) (hok : ∀ c, o2 = some c → c.Ok) :
  Calls Tryd.prog 34 #[px] w fun e w' => ∃ u Z', e = .returned u ∧ Went w w' base pc px o1 o2 Z Z' Y ∧ Sl w' Z' (oL o2 (·.wake)) u := by
 have h0 := h
 rcases h with ⟨rfl, rfl, rfl, rfl, h5, h6⟩ | ⟨g, gx, c, d, M1, S1, M2, S2, rfl, rfl, rfl, rfl, h5⟩
 ·refine (rwake_nil w).mono ?_
  rintro e w' ⟨rfl, rfl⟩
  exact ⟨_, Z, rfl, Went.nil h5 h6 hbase (Below.refl _ _), Sl.nil _ _⟩
 ·refine (rwake_any w base M2 S2 gx d h5.c2 h5.f2 (hok d rfl)).mono ?_
  rintro e w' ⟨u, rfl, r1, r2⟩
  exact ⟨u, fun k => Z k ∨ (w.heap.size ≤ k ∧ k < w'.heap.size), rfl, ⟨(h0.grow r2).mono (fun _ h => h) (fun _ h => .inl h) fun k hk => .inl (h0.yz k hk), fun k hk => .inl hk, fun k hk => r2.block k (h0.zlt k hk), (Only.of_below r2).below hbase fun k hk => by omega⟩, r1.wide fun k hk _ => .inr hk⟩
theorem two_same (o : Option CallR) (h : Two w base pc px o o Z Y) (hok : ∀ c, o = some c → c.Ok) :
  Calls Tryd.prog 40 #[pc, px] w fun e w' => e = .returned (.bool true) ∧ Below w.heap.size w w' := by
 rcases h with ⟨rfl, rfl, rfl, _, h5, h6⟩ | ⟨g, gx, c, d, M1, S1, M2, S2, rfl, rfl, rfl, h4, h5⟩
 ·exact csame_nil w
 ·obtain rfl := Option.some.inj h4
  exact csame_any w base M1 S1 M2 S2 g gx c h5.c1 h5.f1 h5.c2 h5.f2 (hok c rfl)
end
end Go.Proofs.YtjkffjngamagkaaDoor
