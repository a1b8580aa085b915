/- PackA: several texts in one. -/
import Derived.WalkKit
import Derived.WalkSpells
import Derived.WalkLawsBesides
import Derived.Lib.Hide
import Derived.Deep.Cut
import Derived.Deep.CutRange
import Derived.Deep.DeepFit
import Derived.BigQuiet
import Derived.Deep.QuietTactic
import Derived.Deep.RegionWith
import Derived.Deep.Draws
import Derived.Laws.CopyOwn
import Derived.Lib.MakeNoZero
import Derived.Test.YtjkffjngamagkaaDoorRows
import Derived.Lib.AppendZerosOnto
/- Readings of memory as lists, for whatever program: what a slice value reads as in a world, and the laws by which a walk goes on past the operations on slices. -/
namespace Go.Arm
open Go.RowKit
class Rep (α : Type) where
 sz : Nat
 rd : World → (Nat → Prop) → α → List Value → Prop
 len : ∀ {w S x cs}, rd w S x cs → cs.length = sz
 one : ∀ {w S x cs}, rd w S x cs → ∀ u ∈ cs, u.oneCell' = true
 keep : ∀ {w w' S S' x cs}, rd w S x cs → (∀ b, S b → b < w.heap.size → w'.heap[b]? = w.heap[b]? ∧ S' b) → rd w' S' x cs
section
variable {α : Type} [Rep α]
def rds (w : World) (S : Nat → Prop) : List α → List Value → Prop
 | [], cs => cs = []
 | x :: xs, cs => ∃ c d, cs = c ++ d ∧ Rep.rd w S x c ∧ rds w S xs d
theorem rds_nil {w : World} {S : Nat → Prop} : rds w S ([] : List α) [] := rfl
theorem rds_len {w : World} {S : Nat → Prop} : ∀ {l : List α} {cs : List Value}, rds w S l cs → cs.length = l.length * Rep.sz α
 | [], cs, h => by obtain rfl : cs = [] := h; simp
 | x :: xs, cs, h => by
  obtain ⟨c, d, rfl, h1, h2⟩ := h
  rw [List.length_append, Rep.len h1, rds_len h2, List.length_cons, Nat.add_mul]; omega
theorem rds_one {w : World} {S : Nat → Prop} : ∀ {l : List α} {cs : List Value}, rds w S l cs → ∀ u ∈ cs, u.oneCell' = true
 | [], cs, h, u, hu => by obtain rfl : cs = [] := h; simp at hu
 | x :: xs, cs, h, u, hu => by
  obtain ⟨c, d, rfl, h1, h2⟩ := h
  rcases List.mem_append.1 hu with hu | hu
  ·exact Rep.one h1 u hu
  ·exact rds_one h2 u hu
theorem rds_keep {w w' : World} {S S' : Nat → Prop} : ∀ {l : List α} {cs : List Value}, rds w S l cs → (∀ b, S b → b < w.heap.size → w'.heap[b]? = w.heap[b]? ∧ S' b) → rds w' S' l cs
 | [], _, h, _ => h
 | x :: xs, cs, h, hk => by
  obtain ⟨c, d, rfl, h1, h2⟩ := h
  exact ⟨c, d, rfl, Rep.keep h1 hk, rds_keep h2 hk⟩
theorem rds_append {w : World} {S : Nat → Prop} : ∀ {l m : List α} {cs ds : List Value}, rds w S l cs → rds w S m ds → rds w S (l ++ m) (cs ++ ds)
 | [], m, cs, ds, h, k => by obtain rfl : cs = [] := h; simpa using k
 | x :: xs, m, cs, ds, h, k => by
  obtain ⟨c, d, rfl, h1, h2⟩ := h
  exact ⟨c, d ++ ds, by simp, h1, rds_append h2 k⟩
theorem rds_split {w : World} {S : Nat → Prop} : ∀ {l : List α} {cs : List Value} (k : Nat), rds w S l cs → rds w S (l.take k) (cs.take (k * Rep.sz α)) ∧ rds w S (l.drop k) (cs.drop (k * Rep.sz α))
 | [], cs, k, h => by obtain rfl : cs = [] := h; simp [rds]
 | x :: xs, cs, 0, h => by simpa [rds] using h
 | x :: xs, cs, k + 1, h => by
  obtain ⟨c, d, rfl, h1, h2⟩ := h
  have hc := Rep.len h1
  have ⟨i1, i2⟩ := rds_split k h2
  have e : (k + 1) * Rep.sz α = c.length + k * Rep.sz α := by rw [hc, Nat.add_mul]; omega
  rw [e]
  refine ⟨⟨c, d.take (k * Rep.sz α), ?_, h1, i1⟩, ?_⟩
  ·rw [List.take_length_add_append]
  ·rw [List.drop_length_add_append]; exact i2
theorem rds_get {w : World} {S : Nat → Prop} : ∀ {l : List α} {cs : List Value} (i : Nat) {x : α}, rds w S l cs → l[i]? = some x → ∃ c, Rep.rd w S x c ∧ ∀ j u, c[j]? = some u → cs[i * Rep.sz α + j]? = some u
 | [], cs, i, x, h, hx => by simp at hx
 | y :: ys, cs, 0, x, h, hx => by
  obtain ⟨c, d, rfl, h1, h2⟩ := h
  simp at hx; subst hx
  refine ⟨c, h1, fun j u hu => ?_⟩
  have := (List.getElem?_eq_some_iff.1 hu).1
  rw [Nat.zero_mul, Nat.zero_add, List.getElem?_append_left this]; exact hu
 | y :: ys, cs, i + 1, x, h, hx => by
  obtain ⟨c, d, rfl, h1, h2⟩ := h
  obtain ⟨e, h3, h4⟩ := rds_get i h2 (by simpa using hx)
  refine ⟨e, h3, fun j u hu => ?_⟩
  have hc := Rep.len h1
  have := h4 j u hu
  have e1 : (i + 1) * Rep.sz α + j = c.length + (i * Rep.sz α + j) := by rw [hc, Nat.add_mul]; omega
  rw [e1, List.getElem?_append_right (by omega)]
  simpa using this
def located (w : World) (ao : Option Addr) (cs : List Value) : Prop := ∀ a, ao = some a → ∀ j u, cs[j]? = some u → w.cell? (a.add j) = some u
def Sl (w : World) (S : Nat → Prop) (l : List α) (v : Value) : Prop :=
 ∃ ao cap cs, v = .slice ao l.length cap ∧ l.length ≤ cap ∧ cap ≤ maxLen ∧ (ao = none → cap = 0) ∧ rds w S l cs ∧ (∀ a, ao = some a → cs ≠ [] → S a.block) ∧ located w ao cs
theorem cell?_same {w w' : World} {a : Addr} (h : w'.heap[a.block]? = w.heap[a.block]?) : w'.cell? a = w.cell? a := World.cell?_of_block (w := w) h
theorem Addr.add_block (a : Addr) (n : Nat) : (a.add n).block = a.block := by unfold Addr.add; split <;> rfl
theorem located_keep {w w' : World} {ao : Option Addr} {cs : List Value} (h : located w ao cs) (hk : ∀ a, ao = some a → cs ≠ [] → w'.heap[a.block]? = w.heap[a.block]?) : located w' ao cs := by
 intro a ha j u hu
 have hne : cs ≠ [] := by intro e; rw [e] at hu; simp at hu
 rw [cell?_same (w := w) (by rw [Addr.add_block]; exact hk a ha hne)]
 exact h a ha j u hu
theorem located_lt {w : World} {a : Addr} {cs : List Value} (h : located w (some a) cs) (hne : cs ≠ []) : a.block < w.heap.size := by
 cases cs with
 | nil => exact absurd rfl hne
 | cons u us =>
  have := h a rfl 0 u rfl
  have := World.block_lt_of_cell? w _ this
  rwa [Addr.add_block] at this
theorem Sl.keep {w w' : World} {S S' : Nat → Prop} {l : List α} {v : Value} (h : Sl w S l v) (hk : ∀ b, S b → b < w.heap.size → w'.heap[b]? = w.heap[b]? ∧ S' b) : Sl w' S' l v := by
 obtain ⟨ao, cap, cs, rfl, h1, h2, h3, h4, h5, h6⟩ := h
 refine ⟨ao, cap, cs, rfl, h1, h2, h3, rds_keep h4 hk, ?_, ?_⟩
 ·intro a ha hne
  exact (hk a.block (h5 a ha hne) (located_lt (ha ▸ h6) hne)).2
 ·refine located_keep h6 fun a ha hne => ?_
  exact (hk a.block (h5 a ha hne) (located_lt (ha ▸ h6) hne)).1
theorem Sl.below {w w' : World} {S : Nat → Prop} {l : List α} {v : Value} (h : Sl w S l v) {B : Nat} (hb : Below B w w') (hB : w.heap.size ≤ B) : Sl w' S l v :=
 h.keep fun b hS hlt => ⟨hb.block b (by omega), hS⟩
theorem Sl.wide {w : World} {S S' : Nat → Prop} {l : List α} {v : Value} (h : Sl w S l v) (hS : ∀ b, S b → b < w.heap.size → S' b) : Sl w S' l v :=
 h.keep fun b hb hlt => ⟨rfl, hS b hb hlt⟩
theorem Sl.nil (w : World) (S : Nat → Prop) : Sl w S ([] : List α) (.slice none 0 0) :=
 ⟨none, 0, [], rfl, Nat.le_refl _, Nat.zero_le _, (fun _ => rfl), rfl, (fun a h => by cases h), (fun a h => by cases h)⟩
theorem Sl.length_le {w : World} {S : Nat → Prop} {l : List α} {v : Value} (h : Sl w S l v) : l.length ≤ maxLen := by
 obtain ⟨ao, cap, cs, rfl, h1, h2, _⟩ := h; omega
def rowAt (w : World) (B : Nat) (e : TypeId) (size : Nat) (v : Value) (n : Nat) (cs : List Value) : Prop :=
 (v = .slice none 0 0 ∧ n = 0 ∧ cs = []) ∨
 ∃ g o cap cur, v = .slice (some ⟨g, o, none⟩) n cap ∧ B ≤ g ∧ w.heap[g]? = some (.cells cur e (0, 0)) ∧ n ≤ cap ∧ cap ≤ maxLen ∧ o + cap * size ≤ cur.size ∧ (cur.toList.drop o).take (n * size) = cs
theorem add_lit (g o j : Nat) : (⟨g, o, none⟩ : Addr).add j = ⟨g, o + j, none⟩ := by unfold Addr.add; split <;> simp_all
theorem rowAt.cells {w : World} {B : Nat} {e : TypeId} {size : Nat} {v : Value} {n : Nat} {cs : List Value} (h : rowAt w B e size v n cs) {g o cap n' : Nat} (hv : v = .slice (some ⟨g, o, none⟩) n' cap) : ∀ j u, cs[j]? = some u → w.cell? ⟨g, o + j, none⟩ = some u := by
 intro j u hu
 rcases h with ⟨h, _⟩ | ⟨g', o', cap', cur, rfl, h1, h2, h3, h4, h5, rfl⟩
 ·rw [h] at hv; cases hv
 ·cases hv
  have hj := (List.getElem?_eq_some_iff.1 hu).1
  rw [List.getElem?_take] at hu
  split at hu
  ·rw [List.getElem?_drop] at hu
   simp only [World.cell?, h2]
   simpa using hu
  ·cases hu
theorem rowAt.of_owns {w : World} {B : Nat} {e : TypeId} {size : Nat} {v : Value} {n : Nat} {cs : List Value} (h : w.ownsRow B e size v n cs) : rowAt w B e size v n cs := by
 rcases h with ⟨h0, ⟨rfl, rfl⟩ | ⟨g, cap, cur, rfl, hg, hh, hc, hm, hs, ht⟩⟩
 ·exact .inl ⟨rfl, rfl, List.eq_nil_of_length_eq_zero (by simpa using h0)⟩
 ·exact .inr ⟨g, 0, cap, cur, rfl, hg, hh, hc, hm, by omega, by simpa using ht⟩
def Own (w : World) (B : Nat) (e : TypeId) (S : Nat → Prop) (l : List α) (v : Value) : Prop := ∃ cs, rds w S l cs ∧ rowAt w B e (Rep.sz α) v l.length cs
theorem Own.nil (w : World) (B : Nat) (e : TypeId) (S : Nat → Prop) : Own w B e S ([] : List α) (.slice none 0 0) := ⟨[], rfl, .inl ⟨rfl, rfl, rfl⟩⟩
theorem Own.sl {w : World} {B : Nat} {e : TypeId} {S S' : Nat → Prop} {l : List α} {v : Value} (h : Own w B e S l v) (hS : ∀ b, S b → b < w.heap.size → S' b) (hv : ∀ b, v.ownBlock = some b → S' b) : Sl w S' l v := by
 obtain ⟨cs, h1, h2⟩ := h
 have hc := fun g o cap n' => rowAt.cells h2 (g := g) (o := o) (cap := cap) (n' := n')
 rcases h2 with ⟨rfl, hn, rfl⟩ | ⟨g, o, cap, cur, rfl, hg, hh, hcap, hm, hs, ht⟩
 ·have : l = [] := List.eq_nil_of_length_eq_zero hn
  subst this
  exact Sl.nil w S'
 ·refine ⟨some ⟨g, o, none⟩, cap, cs, rfl, hcap, hm, by simp, rds_keep h1 fun b hb hlt => ⟨rfl, hS b hb hlt⟩, ?_, ?_⟩
  ·intro a ha _
   cases ha
   exact hv g rfl
  ·intro a ha j u hu
   cases ha
   rw [add_lit]
   exact hc g o cap _ rfl j u hu
theorem Own.ge {w : World} {B : Nat} {e : TypeId} {S : Nat → Prop} {l : List α} {v : Value} (h : Own w B e S l v) : ∀ b, v.ownBlock = some b → B ≤ b ∧ b < w.heap.size := by
 obtain ⟨cs, h1, h2⟩ := h
 intro b hb
 rcases h2 with ⟨rfl, _⟩ | ⟨g, o, cap, cur, rfl, hg, hh, _⟩
 ·cases hb
 ·cases hb; exact ⟨hg, (Array.getElem?_eq_some_iff.1 hh).1⟩
theorem Own.keep {w w' : World} {B : Nat} {e : TypeId} {S S' : Nat → Prop} {l : List α} {v : Value} (h : Own w B e S l v) (hk : ∀ b, S b → b < w.heap.size → w'.heap[b]? = w.heap[b]? ∧ S' b)
  (hv : ∀ b, v.ownBlock = some b → w'.heap[b]? = w.heap[b]?) : Own w' B e S' l v := by
 obtain ⟨cs, h1, h2⟩ := h
 refine ⟨cs, rds_keep h1 hk, ?_⟩
 rcases h2 with h3 | ⟨g, o, cap, cur, rfl, hg, hh, r⟩
 ·exact .inl h3
 ·exact .inr ⟨g, o, cap, cur, rfl, hg, by rw [hv g rfl]; exact hh, r⟩
theorem Own.below {w w' : World} {B : Nat} {e : TypeId} {S : Nat → Prop} {l : List α} {v : Value} (h : Own w B e S l v) {C : Nat} (hb : Below C w w') (hC : w.heap.size ≤ C) : Own w' B e S l v :=
 h.keep (fun b hS hlt => ⟨hb.block b (by omega), hS⟩) fun b hv => hb.block b (by have := h.ge b hv; omega)
theorem Own.rebase {w : World} {B B' : Nat} {e : TypeId} {S : Nat → Prop} {l : List α} {v : Value} (h : Own w B e S l v) (hB : ∀ b, v.ownBlock = some b → B' ≤ b) : Own w B' e S l v := by
 obtain ⟨cs, h1, h2⟩ := h
 refine ⟨cs, h1, ?_⟩
 rcases h2 with h3 | ⟨g, o, cap, cur, rfl, hg, hh, r⟩
 ·exact .inl h3
 ·exact .inr ⟨g, o, cap, cur, rfl, hB g rfl, hh, r⟩
theorem Own.of_owns {w : World} {B : Nat} {e : TypeId} {S : Nat → Prop} {l : List α} {v : Value} {cs : List Value} (h1 : rds w S l cs) (h2 : w.ownsRow B e (Rep.sz α) v l.length cs) : Own w B e S l v := ⟨cs, h1, .of_owns h2⟩
theorem Own.take {w : World} {B : Nat} {e : TypeId} {S : Nat → Prop} {l : List α} {g o cap : Nat} (h : Own w B e S l (.slice (some ⟨g, o, none⟩) l.length cap)) (k : Nat) (hk : k ≤ l.length) : Own w B e S (l.take k) (.slice (some ⟨g, o, none⟩) k cap) := by
 obtain ⟨cs, h1, h2⟩ := h
 have hl : (l.take k).length = k := by simp; omega
 refine ⟨cs.take (k * Rep.sz α), (rds_split k h1).1, ?_⟩
 rw [hl]
 rcases h2 with ⟨h, _⟩ | ⟨g', o', cap', cur, hv, hg, hh, hcap, hm, hs, ht⟩
 ·cases h
 ·cases hv
  refine .inr ⟨g, o, cap, cur, rfl, hg, hh, by omega, hm, hs, ?_⟩
  rw [← ht, List.take_take]
  congr 1
  have : k * Rep.sz α ≤ l.length * Rep.sz α := Nat.mul_le_mul_right _ hk
  omega
end
instance : Rep UInt8 where
 sz := 1
 rd _ _ x cs := cs = [.int .u8 (x.toNat : Int)]
 len h := by subst h; rfl
 one h := by subst h; intro u hu; simp at hu; subst hu; rfl
 keep h _ := h
instance {α : Type} [Rep α] : Rep (List α) where
 sz := 1
 rd w S l cs := ∃ v, cs = [v] ∧ Sl w S l v
 len h := by obtain ⟨v, rfl, _⟩ := h; rfl
 one h := by
  obtain ⟨v, rfl, ao, cap, cs, rfl, _⟩ := h
  intro u hu; simp at hu; subst hu; rfl
 keep h hk := by
  obtain ⟨v, rfl, h⟩ := h
  exact ⟨v, rfl, h.keep hk⟩
def Row (P : Program) (t e : TypeId) (z : Value) (size bytes : Nat) : Prop :=
 P.underlying t = some (.slice e) ∧ (P.info? e).map (fun i => (i.zero, i.size, i.bytes)) = some (some z, size, bytes)
section laws
variable {P : Program} {ops : Array Oper} {Q : Exit → Act → World → Prop} {a : Act} {w : World} {rest : List Oper}
variable {dst : Option Tmp} {ty : TypeId} {pos : String} {after : Array Edge}
theorem wpList_len {α : Type} [Rep α] {x : Operand} {t e : TypeId} {S : Nat → Prop} {l : List α} (ht : P.underlying t = some (.slice e)) (hx : Sl w S l (a.eval x))
  (h : wpList P ops Q rest (a.put dst (.int .i64 (l.length : Int))) w) :
  wpList P ops Q (⟨dst, .call ⟨.builtin .len, #[x], #[t]⟩, ty, pos, after, none⟩ :: rest) a w := by
 obtain ⟨ao, cap, cs, hv, _⟩ := hx
 refine wpList_plain rfl fun K hK => ?_
 have he : P.elem t = e := by simp [Program.elem, ht]
 unfold Oper.wp
 simp [BigFrame.execOp_builtin, BigFrame.builtin_len, hv, run_len_slice (P := P) w t ty ao l.length cap (by rw [he]; exact ht), Result.andThen]
 exact hK _ _ h
theorem wpList_index1 {α : Type} [Rep α] {x i : Operand} {t e : TypeId} {z : Value} {bytes : Nat} {S : Nat → Prop} {l : List α} (hr : Row P t e z 1 bytes) (h1 : Rep.sz α = 1) (hx : Sl w S l (a.eval x))
  {k : IntKind} {n : Int} (hi : a.eval i = .int k n) (h0 : 0 ≤ n) (hn : n < l.length)
  (h : ∀ b o u y, l[n.toNat]? = some y → Rep.rd w S y [u] → w.cell? ⟨b, o, none⟩ = some u → wpList P ops Q rest (a.put dst (.pointer (some ⟨b, o, none⟩))) w) :
  wpList P ops Q (⟨dst, .indexAddr t x i, ty, pos, after, none⟩ :: rest) a w := by
 obtain ⟨ao, cap, cs, hv, _, _, hnone, hcs, _, hloc⟩ := hx
 obtain ⟨ht, hinfo⟩ := hr
 have hlt : n.toNat < l.length := by omega
 obtain ⟨y, hy⟩ : ∃ y, l[n.toNat]? = some y := ⟨_, List.getElem?_eq_getElem hlt⟩
 obtain ⟨c, hc1, hc2⟩ := rds_get n.toNat hcs hy
 have hlen := Rep.len hc1
 rw [h1] at hlen
 obtain ⟨u, rfl⟩ : ∃ u, c = [u] := by
  match c, hlen with
  | [u], _ => exact ⟨u, rfl⟩
 have hcu := hc2 0 u rfl
 rw [h1] at hcu
 cases ao with
 | none =>
  have := hnone rfl
  have := rds_len hcs
  obtain ⟨_, hj⟩ := List.getElem?_eq_some_iff.1 hcu
  omega
 | some ad =>
  have hcell := hloc ad rfl _ _ hcu
  have hspot : ∃ b o, ad.add (n.toNat * 1) = ⟨b, o, none⟩ := by
   simp only [Nat.add_zero] at hcell
   generalize ad.add (n.toNat * 1) = q at hcell
   obtain ⟨b, o, sp⟩ := q
   cases sp with
   | none => exact ⟨b, o, rfl⟩
   | some s =>
    exfalso
    unfold World.cell? at hcell
    split at hcell <;> simp at hcell
  obtain ⟨b, o, hq⟩ := hspot
  simp only [Nat.add_zero, hq] at hcell
  refine wpList_plain rfl fun K hK => ?_
  have he : P.elem t = e := by simp [Program.elem, ht]
  obtain ⟨inf, hi1, hi2⟩ := Option.map_eq_some_iff.1 hinfo
  simp only [Prod.mk.injEq] at hi2
  have hsz : (Go.sizeOf e).run P w = .ok 1 w := by simp [Go.sizeOf, typeInfo, hi1, hi2.2.1]
  have hrun := run_indexAt_slice (P := P) w t ad l.length cap k n (by rw [he]; exact ht)
  rw [if_pos ⟨h0, hn⟩, he, hsz] at hrun
  simp only [Result.andThen, hq] at hrun
  unfold Oper.wp
  simp [execOp, hi, hv, hrun, Result.andThen]
  exact hK _ _ (h b o u y hy hc1 hcell)
theorem Sl.cut {α : Type} [Rep α] {S : Nat → Prop} {l : List α} {ao : Option Addr} {cap : Nat} (hx : Sl w S l (.slice ao l.length cap)) (lo hi : Nat) (h1 : lo ≤ hi) (h2 : hi ≤ l.length) :
  Sl w S ((l.take hi).drop lo) (sliced ao lo hi cap (Rep.sz α)) := by
 obtain ⟨ao', cap', cs, hv, g1, g2, g3, g4, g5, g6⟩ := hx
 cases hv
 have hlen : ((l.take hi).drop lo).length = hi - lo := by simp; omega
 have s1 := (rds_split hi g4).1
 have s2 := (rds_split lo s1).2
 unfold sliced
 have hcl := rds_len g4
 refine ⟨if cap = lo then ao else ao.map (·.add (lo * Rep.sz α)), cap - lo, _, by rw [hlen], by rw [hlen]; omega, by omega, ?_, s2, ?_, ?_⟩
 ·intro h
  split at h
  ·omega
  ·cases ao with
   | none => have := g3 rfl; omega
   | some ad => simp at h
 ·intro ad had hne
  cases ao with
  | none => split at had <;> simp at had
  | some ad0 =>
   have hne' : cs ≠ [] := by rintro rfl; simp at hne
   have := g5 ad0 rfl hne'
   split at had
   ·cases had; exact this
   ·simp at had; subst had; rw [Addr.add_block]; exact this
 ·intro ad had j u hu
  have hlenu := (List.getElem?_eq_some_iff.1 hu).1
  have hne : (l.take hi).drop lo ≠ [] ∧ 0 < Rep.sz α := by
   have hs2 := rds_len s2
   constructor
   ·intro e; rw [hs2, e] at hlenu; simp at hlenu
   ·rcases Nat.eq_zero_or_pos (Rep.sz α) with hz | hz
    ·rw [hs2, hz] at hlenu; simp at hlenu
    ·exact hz
  have hlt : lo < hi := by
   rcases Nat.lt_or_ge lo hi with h | h
   ·exact h
   ·exfalso; apply hne.1; apply List.eq_nil_of_length_eq_zero; omega
  rw [if_neg (by omega)] at had
  cases ao with
  | none => simp at had
  | some ad0 =>
   simp at had; subst had
   have : (ad0.add (lo * Rep.sz α)).add j = ad0.add (lo * Rep.sz α + j) := by
    unfold Addr.add
    split
    ·split <;> simp_all
    ·split <;> simp_all <;> (try omega) <;> (split <;> simp_all <;> omega)
   rw [this]
   refine g6 ad0 rfl _ _ ?_
   rw [List.getElem?_drop, List.getElem?_take] at hu
   split at hu
   ·exact hu
   ·cases hu
theorem run_sizeOf_row {t e : TypeId} {z : Value} {sz bytes : Nat} (hr : Row P t e z sz bytes) (w : World) : (Go.sizeOf e).run P w = .ok sz w := by
 obtain ⟨ht, hinfo⟩ := hr
 obtain ⟨inf, hi1, hi2⟩ := Option.map_eq_some_iff.1 hinfo
 simp only [Prod.mk.injEq] at hi2
 simp [Go.sizeOf, typeInfo, hi1, hi2.2.1]
theorem wpList_slice_lh {α : Type} [Rep α] {x i j : Operand} {t e : TypeId} {z : Value} {bytes : Nat} {S : Nat → Prop} {l : List α} (hr : Row P t e z (Rep.sz α) bytes) (hx : Sl w S l (a.eval x))
  {k k' : IntKind} {n m : Int} (hi : a.eval i = .int k n) (hj : a.eval j = .int k' m) (h0 : 0 ≤ n) (hn : n ≤ m) (hm : m ≤ l.length)
  (h : ∀ v, Sl w S ((l.take m.toNat).drop n.toNat) v → wpList P ops Q rest (a.put dst v) w) :
  wpList P ops Q (⟨dst, .slice t x (some i) (some j) none, ty, pos, after, none⟩ :: rest) a w := by
 have hx' := hx
 obtain ⟨ao, cap, cs, hv, hcap, _⟩ := hx
 rw [hv] at hx'
 have he : P.elem t = e := by simp [Program.elem, hr.1]
 have hrun := run_slice_lh (P := P) w t ao l.length cap (by rw [he]; exact hr.1) k k' n m h0 hn (by omega)
 rw [he, run_sizeOf_row hr] at hrun
 refine wpList_plain rfl fun K hK => ?_
 have hcut := hx'.cut n.toNat m.toNat (by omega) (by omega)
 have hsl : (Instr.sliceAt t (.slice ao l.length cap) (some (.int k n)) (some (.int k' m)) none).run P w = _ := (run_sliceAt_slice (P := P) w t _ _ _ _ (by rw [he]; exact hr.1)).trans hrun
 unfold Oper.wp
 simp [execOp, hi, hj, hv, hsl, Result.andThen]
 exact hK _ _ (h _ hcut)
theorem wpList_slice_h {α : Type} [Rep α] {x j : Operand} {t e : TypeId} {z : Value} {bytes : Nat} {S : Nat → Prop} {l : List α} (hr : Row P t e z (Rep.sz α) bytes) (hx : Sl w S l (a.eval x))
  {k' : IntKind} {m : Int} (hj : a.eval j = .int k' m) (hn : 0 ≤ m) (hm : m ≤ l.length)
  (h : ∀ v, Sl w S (l.take m.toNat) v → wpList P ops Q rest (a.put dst v) w) :
  wpList P ops Q (⟨dst, .slice t x none (some j) none, ty, pos, after, none⟩ :: rest) a w := by
 have hx' := hx
 obtain ⟨ao, cap, cs, hv, hcap, _⟩ := hx
 rw [hv] at hx'
 have he : P.elem t = e := by simp [Program.elem, hr.1]
 have hrun := run_slice_h (P := P) w t ao l.length cap (by rw [he]; exact hr.1) k' m hn (by omega)
 rw [he, run_sizeOf_row hr] at hrun
 refine wpList_plain rfl fun K hK => ?_
 have hcut := hx'.cut 0 m.toNat (by omega) (by omega)
 rw [List.drop_zero] at hcut
 have hsl : (Instr.sliceAt t (.slice ao l.length cap) none (some (.int k' m)) none).run P w = _ := (run_sliceAt_slice (P := P) w t _ _ _ _ (by rw [he]; exact hr.1)).trans hrun
 unfold Oper.wp
 simp [execOp, hj, hv, hsl, Result.andThen]
 exact hK _ _ (h _ hcut)
theorem wpList_slice_l {α : Type} [Rep α] {x i : Operand} {t e : TypeId} {z : Value} {bytes : Nat} {S : Nat → Prop} {l : List α} (hr : Row P t e z (Rep.sz α) bytes) (hx : Sl w S l (a.eval x))
  {k : IntKind} {n : Int} (hi : a.eval i = .int k n) (h0 : 0 ≤ n) (hn : n ≤ l.length)
  (h : ∀ v, Sl w S (l.drop n.toNat) v → wpList P ops Q rest (a.put dst v) w) :
  wpList P ops Q (⟨dst, .slice t x (some i) none none, ty, pos, after, none⟩ :: rest) a w := by
 have hx' := hx
 obtain ⟨ao, cap, cs, hv, hcap, _⟩ := hx
 rw [hv] at hx'
 have he : P.elem t = e := by simp [Program.elem, hr.1]
 have hrun := run_slice_l (P := P) w t ao l.length cap (by rw [he]; exact hr.1) k n h0 hn
 rw [he, run_sizeOf_row hr] at hrun
 refine wpList_plain rfl fun K hK => ?_
 have hcut := hx'.cut n.toNat l.length (by omega) (by omega)
 rw [List.take_length] at hcut
 have hsl : (Instr.sliceAt t (.slice ao l.length cap) (some (.int k n)) none none).run P w = _ := (run_sliceAt_slice (P := P) w t _ _ _ _ (by rw [he]; exact hr.1)).trans hrun
 unfold Oper.wp
 simp [execOp, hi, hv, hsl, Result.andThen]
 exact hK _ _ (h _ hcut)
theorem run_append_room_at {P : Program} (w : World) (t ty e : TypeId) (i : TypeInfo) (ht : P.underlying t = some (.slice e)) (hi : P.info? e = some i)
  (g o sLen sCap : Nat) (cur : Array Value) (hg : w.heap[g]? = some (.cells cur e (0, 0)))
  (a : Addr) (m c : Nat) (news : List Value) (hl : news.length = m * i.size) (hnews : ∀ j u, news[j]? = some u → w.cell? (a.add j) = some u) (h1 : ∀ u ∈ news, u.oneCell' = true)
  (hroom : sLen + m ≤ sCap) (hfit : o + sLen * i.size + news.length ≤ cur.size) :
  (Builtin.append_ #[t, t] ty #[.slice (some ⟨g, o, none⟩) sLen sCap, .slice (some a) m c]).run P w =
   .ok (.slice (some ⟨g, o, none⟩) (sLen + m) sCap) (w.setRow g (cur.toList.take (o + sLen * i.size) ++ news ++ cur.toList.drop (o + sLen * i.size + news.length)).toArray) := by
 have hf := run_firstCells_some (P := P) w i.size m a m c news hl hnews
 have hst := run_storeCells_at P g (o + sLen * i.size) e news 0 cur w hg (by simpa using hfit) h1
 simp only [Nat.add_zero] at hst
 simp [Builtin.append_, run_underlying ht, sizeOf, typeInfo, hi, Builtin.lenOf, hroom, hf, Addr.add_lit, hst]
theorem run_append_none {P : Program} (w : World) (t ty e : TypeId) (i : TypeInfo) (ht : P.underlying t = some (.slice e)) (hi : P.info? e = some i) (ao : Option Addr) (n cap c : Nat) (h : n ≤ cap) :
  (Builtin.append_ #[t, t] ty #[.slice ao n cap, .slice none 0 c]).run P w = .ok (.slice ao n cap) w := by
 cases ao <;> simp [Builtin.append_, run_underlying ht, sizeOf, typeInfo, hi, Builtin.lenOf, h, Builtin.firstCells, storeCells]
theorem wpList_append {α : Type} [Rep α] {s x : Operand} {t e : TypeId} {z : Value} {bytes : Nat} {B : Nat} {S S' : Nat → Prop} {l m : List α} (hr : Row P t e z (Rep.sz α) bytes) (hz : z.cells.size = Rep.sz α) (hsz : 0 < Rep.sz α)
  (hs : Own w B e S l (a.eval s)) (hx : Sl w S' m (a.eval x)) (hSS : ∀ y cs, rds w S' (y : List α) cs → rds w S y cs) (hS : ∀ b, S b → b < w.heap.size → (a.eval s).ownBlock ≠ some b)
  (h63 : l.length + m.length ≤ maxLen) (hbytes : (l.length + m.length) * bytes ≤ 140737488355328) (hB : B ≤ w.heap.size)
  (h : ∀ v' w', Own w' B e S (l ++ m) v' → w.grownBy w' (a.eval s).ownBlock → (v'.ownBlock = (a.eval s).ownBlock ∨ ∃ g, v'.ownBlock = some g ∧ w.heap.size ≤ g) → wpList P ops Q rest (a.put dst v') w') :
  wpList P ops Q (⟨dst, .call ⟨.builtin .append, #[s, x], #[t, t]⟩, ty, pos, after, none⟩ :: rest) a w := by
 obtain ⟨cs, c1, c2⟩ := hs
 obtain ⟨ao, cap, ds, hv, d1, d2, d3, d4, d5, d6⟩ := hx
 have d4 := hSS _ _ d4
 obtain ⟨ht, hinfo⟩ := hr
 obtain ⟨inf, hi, hi2⟩ := Option.map_eq_some_iff.1 hinfo
 simp only [Prod.mk.injEq] at hi2
 obtain ⟨hzz, hisz, hby⟩ := hi2
 have hdl := rds_len d4
 have hcl := rds_len c1
 have hone := rds_one d4
 have fin : ∀ (v' : Value) (w' : World), rowAt w' B e (Rep.sz α) v' (l.length + m.length) (cs ++ ds) → w.grownBy w' (a.eval s).ownBlock → Own w' B e S (l ++ m) v' := by
  intro v' w' g1 g2
  refine ⟨cs ++ ds, rds_keep (rds_append c1 d4) (fun b hb hlt => ⟨g2.block b hlt (fun e => hS b hb hlt e.symm), hb⟩), ?_⟩
  rw [List.length_append]; exact g1
 have big : ∀ (v' : Value) (w' : World), w'.ownsRow w.heap.size e (Rep.sz α) v' (l.length + m.length) (cs ++ ds) → rowAt w' B e (Rep.sz α) v' (l.length + m.length) (cs ++ ds) := by
  intro v' w' g
  rcases rowAt.of_owns g with g | ⟨gg, o, cp, cur, q1, q2, q3⟩
  ·exact .inl g
  ·exact .inr ⟨gg, o, cp, cur, q1, by omega, q3⟩
 have newB : ∀ (v' : Value) (w' : World), w'.ownsRow w.heap.size e (Rep.sz α) v' (l.length + m.length) (cs ++ ds) → (a.eval s).ownBlock = none ∨ v'.ownBlock ≠ none → v'.ownBlock = (a.eval s).ownBlock ∨ ∃ g, v'.ownBlock = some g ∧ w.heap.size ≤ g := by
  intro v' w' g hne
  rcases g.2 with ⟨g, _⟩ | ⟨gg, cp, cur, q1, q2, q3⟩
  ·rw [g] at hne ⊢
   rcases hne with hne | hne
   ·left; rw [hne]; rfl
   ·exact absurd rfl hne
  ·right; exact ⟨gg, by rw [q1]; rfl, q2⟩
 cases ao with
 | none =>
  have hm0 : m = [] := by have := d3 rfl; exact List.eq_nil_of_length_eq_zero (by omega)
  subst hm0
  have hcap0 := d3 rfl
  subst hcap0
  have hds : ds = [] := by simpa using hdl
  subst hds
  obtain ⟨so, scap, hsv, hsc⟩ : ∃ so scap, a.eval s = .slice so l.length scap ∧ l.length ≤ scap := by
   rcases c2 with ⟨h1, h2, _⟩ | ⟨g, o, cp, cur, q1, _, _, q4, _⟩
   ·exact ⟨none, 0, by rw [h1, h2], by omega⟩
   ·exact ⟨_, cp, q1, q4⟩
  have hrun := run_append_none (P := P) w t ty e inf ht hi so l.length scap 0 hsc
  refine wpList_plain rfl fun K hK => ?_
  unfold Oper.wp
  simp [BigFrame.execOp_builtin, BigFrame.builtin_append, hv, hsv, hrun, Result.andThen]
  have h' := h (a.eval s) w (by simpa using ⟨cs, c1, c2⟩) (World.grownBy.refl w _) (.inl rfl)
  rw [hsv] at h'
  exact hK _ _ h'
 | some ad =>
  have hnews : ∀ j u, ds[j]? = some u → w.cell? (ad.add j) = some u := fun j u hu => d6 ad rfl j u hu
  rcases c2 with ⟨hnil, hn0, rfl⟩ | ⟨g, o, gcap, cur, hgv, hBg, hgh, hgc, hgm, hgs, hgt⟩
  ·have hl0 : l = [] := List.eq_nil_of_length_eq_zero hn0
   subst hl0
   obtain ⟨v', w', r1, r2, r3, r4⟩ := run_append_own (P := P) w w.heap.size t ty e inf z (Rep.sz α) bytes ht hi hzz hisz hby hz hsz (a.eval s) 0 [] (by rw [hnil]; exact World.ownsRow_nil w _ e _) ad m.length cap ds (by rw [hdl]) hnews hone (by simpa using h63) (by simpa using hbytes) (Nat.le_refl _)
   refine wpList_plain rfl fun K hK => ?_
   unfold Oper.wp
   simp [BigFrame.execOp_builtin, BigFrame.builtin_append, hv, r1, Result.andThen]
   refine hK _ _ (h _ _ (fin _ _ (big _ _ (by simpa using r2)) r3) r3 (newB _ _ (by simpa using r2) (.inl (by rw [hnil]; rfl))))
  ·by_cases hroom : l.length + m.length ≤ gcap
   ·have hmul : (l.length + m.length) * Rep.sz α ≤ gcap * Rep.sz α := Nat.mul_le_mul_right _ hroom
    rw [Nat.add_mul] at hmul
    have hfit : o + l.length * Rep.sz α + ds.length ≤ cur.size := by omega
    have r1 := run_append_room_at (P := P) w t ty e inf ht hi g o l.length gcap cur hgh ad m.length cap ds (by rw [hdl, hisz]) hnews hone hroom (by rw [hisz]; exact hfit)
    rw [hisz] at r1
    have hob : (a.eval s).ownBlock = some g := by rw [hgv]; rfl
    have r3 : w.grownBy (w.setRow g (cur.toList.take (o + l.length * Rep.sz α) ++ ds ++ cur.toList.drop (o + l.length * Rep.sz α + ds.length)).toArray) (some g) :=
     ⟨rfl, rfl, rfl, by simp, fun k hk hne => setRow_other w g k _ (fun e => hne (by rw [e]))⟩
    have r2 : rowAt (w.setRow g (cur.toList.take (o + l.length * Rep.sz α) ++ ds ++ cur.toList.drop (o + l.length * Rep.sz α + ds.length)).toArray) B e (Rep.sz α) (.slice (some ⟨g, o, none⟩) (l.length + m.length) gcap) (l.length + m.length) (cs ++ ds) := by
     refine .inr ⟨g, o, gcap, _, rfl, hBg, setRow_heap w g cur _ e _ hgh, hroom, hgm, ?_, ?_⟩
     ·simp only [List.size_toArray, List.length_append, List.length_take, List.length_drop, Array.length_toList]
      omega
     ·have e1 : cur.toList.take (o + l.length * Rep.sz α) = cur.toList.take o ++ cs := by
       rw [List.take_add, hgt]
      have e2 : (cur.toList.take o).length = o := by simp; omega
      have e3 : (l.length + m.length) * Rep.sz α = (cs ++ ds).length := by rw [List.length_append, hcl, hdl, Nat.add_mul]
      have e4 : (cur.toList.take o ++ cs ++ ds ++ cur.toList.drop (o + l.length * Rep.sz α + ds.length)).drop o = cs ++ ds ++ cur.toList.drop (o + l.length * Rep.sz α + ds.length) := by
       conv => lhs; rw [List.append_assoc, List.append_assoc]; arg 1; rw [← e2]
       rw [List.drop_left, List.append_assoc]
      simp only []
      rw [e1, e4, e3, List.take_left]
    refine wpList_plain rfl fun K hK => ?_
    unfold Oper.wp
    simp only [BigFrame.execOp_builtin, BigFrame.builtin_append, List.map_toArray, List.map_cons, List.map_nil, hv, hgv, Sem.run_bind, r1, Result.andThen_ok, Sem.run_pure]
    exact hK _ _ (h _ _ (fin _ _ r2 (by rw [hob]; exact r3)) (by rw [hob]; exact r3) (.inl (by rw [hob]; rfl)))
   ·have c2 : rowAt w B e (Rep.sz α) (a.eval s) l.length cs := .inr ⟨g, o, gcap, cur, hgv, hBg, hgh, hgc, hgm, hgs, hgt⟩
    have holds : ∀ j u, cs[j]? = some u → w.cell? ((⟨g, o, none⟩ : Addr).add j) = some u := fun j u hu => by rw [add_lit]; exact rowAt.cells c2 hgv j u hu
    obtain ⟨v', w', r1, r2, r3⟩ := run_append_arg_grows (P := P) w t ty e inf z (Rep.sz α) bytes ht hi hzz hisz hby hz hsz ⟨g, o, none⟩ l.length gcap cs hcl holds ad m.length cap ds (by rw [hdl]) hnews (by omega) h63 hbytes
    refine wpList_plain rfl fun K hK => ?_
    unfold Oper.wp
    simp [BigFrame.execOp_builtin, BigFrame.builtin_append, hv, hgv, r1, Result.andThen]
    have r3' : w.grownBy w' (a.eval s).ownBlock := ⟨r3.os, r3.tape, r3.output, r3.size, fun k hk _ => r3.block k hk (by simp)⟩
    have hne : v'.ownBlock ≠ none := by
     rcases r2.2 with ⟨q, q'⟩ | ⟨gg, cp, cur, q1, _⟩
     ·omega
     ·rw [q1]; simp [Value.ownBlock]
    exact hK _ _ (h _ _ (fin _ _ (big _ _ r2) r3') r3' (newB _ _ r2 (.inr hne)))
end laws
inductive Tok (p : Prop) : Type | mk
def Stop (p : Prop) (_ : Tok p) : Prop := p
theorem Stop.go {p : Prop} {t : Tok p} (h : p) : Stop p t := h
section stops
variable {P : Program} {ops : Array Oper} {Q : Exit → Act → World → Prop} {a : Act} {w : World} {rest : List Oper}
variable {dst : Option Tmp} {ty : TypeId} {pos : String} {after : Array Edge}
theorem stop_if (f : Op → Bool) {o : Oper} (_ : f o.op = true) (h : Stop (wpList P ops Q (o :: rest) a w) .mk) : wpList P ops Q (o :: rest) a w := h
end stops
theorem Own.made {α : Type} [Rep α] (w : World) (e : TypeId) (S : Nat → Prop) (B : Nat) (hB : B ≤ w.heap.size) : Own (w.alloc (.cells #[] e)) B e S ([] : List α) (.slice (some ⟨w.heap.size, 0, none⟩) 0 0) :=
 .of_owns (cs := []) rfl (by simpa using World.ownsRow_made (size := Rep.sz α) w #[] 0 hB (Nat.zero_le _) (by simp))
theorem rds_u8 {w w' : World} {S S' : Nat → Prop} : ∀ {l : List UInt8} {cs : List Value}, rds w S l cs → rds w' S' l cs
 | [], _, h => h
 | _ :: _, _, h => by obtain ⟨c, d, rfl, h1, h2⟩ := h; exact ⟨c, d, rfl, h1, rds_u8 h2⟩
theorem rds_u8_cells {w : World} {S : Nat → Prop} : ∀ {l : List UInt8} {cs : List Value}, rds w S l cs ↔ cs = l.map fun b => Value.int .u8 (b.toNat : Int)
 | [], cs => by simp [rds]
 | x :: xs, cs => by
  constructor
  ·rintro ⟨c, d, rfl, h1, h2⟩
   rw [rds_u8_cells.1 h2]
   have h1 : c = [.int .u8 (x.toNat : Int)] := h1
   simp [h1]
  ·rintro rfl
   exact ⟨[_], _, rfl, rfl, rds_u8_cells.2 rfl⟩
theorem run_convert_sl {P : Program} {w : World} {S : Nat → Prop} {l : List UInt8} {v : Value} {src dst e : TypeId} (hs : P.underlying src = some (.slice e)) (he : P.underlying e = some (.int .u8)) (hd : P.underlying dst = some .string) (h : Sl w S l v) :
  (convert src dst v).run P w = .ok (.string ⟨l.toArray⟩) w := by
 obtain ⟨ao, cap, cs, rfl, h1, h2, h3, h4, h5, h6⟩ := h
 cases ao with
 | none =>
  have := h3 rfl
  obtain rfl : l = [] := List.eq_nil_of_length_eq_zero (by omega)
  exact run_convert_bytes_nil w src e hs he _ _ dst hd
 | some ad =>
  refine run_convert_bytes_back w src dst e ad cap l hs he hd fun j hj => ?_
  obtain rfl := rds_u8_cells.1 h4
  exact h6 ad rfl j _ (by simp [hj])
theorem fill_one : ∀ (vs : List Value) (k : Nat) (cells : Array Value), (∀ u ∈ vs, u.cells = #[u]) → k + vs.length ≤ cells.size →
  ∃ r, Instr.fill (fun i => some (i, 1)) cells ((vs.zipIdx k).map fun x => (x.2, x.1)) = some r ∧ r.toList = cells.toList.take k ++ (vs ++ cells.toList.drop (k + vs.length))
 | [], k, cells, _, _ => ⟨cells, rfl, by simp⟩
 | v :: vs, k, cells, h1, hl => by
  have hv := h1 v (by simp)
  simp only [List.length_cons] at hl
  obtain ⟨r, h2, h3⟩ := fill_one vs (k + 1) (cells.setIfInBounds k v) (fun u hu => h1 u (by simp [hu])) (by simp; omega)
  refine ⟨r, ?_, ?_⟩
  ·simp only [List.zipIdx_cons, List.map_cons, Instr.fill, hv]
   simp only [List.size_toArray, List.length_cons, List.length_nil, Nat.zero_add, ne_eq, not_true_eq_false, decide_false, Bool.false_or, decide_eq_true_eq]
   rw [if_neg (by omega)]
   simpa using h2
  ·rw [h3]
   simp only [Array.toList_setIfInBounds, List.length_cons]
   apply List.ext_getElem?
   intro j
   simp only [List.getElem?_append, List.getElem?_take, List.getElem?_set, List.getElem?_drop, List.length_take, List.length_set, List.getElem?_cons, Array.length_toList]
   have e1 : min (k + 1) cells.size = k + 1 := by omega
   have e2 : min k cells.size = k := by omega
   rw [e1, e2]
   by_cases hj : j < k
   ·have : k ≠ j := by omega
    simp [hj, this, show j < k + 1 by omega]
   ·by_cases hj2 : j = k
    ·subst hj2; simp [show j < cells.size by omega]
    ·have e3 : j - k ≠ 0 := by omega
     have e4 : j - k - 1 = j - (k + 1) := by omega
     have e5 : (j - k < vs.length + 1) = (j - (k + 1) < vs.length) := by apply propext; omega
     have e6 : k ≠ k + 1 + vs.length + (j - (k + 1) - vs.length) := by omega
     have e7 : k + (vs.length + 1) + (j - k - (vs.length + 1)) = k + 1 + vs.length + (j - (k + 1) - vs.length) := by omega
     simp [hj, show ¬ j < k + 1 by omega, e3, e4, e6, e7]
     grind
theorem run_buildSlice1 {P : Program} {t e : TypeId} {z : Value} {bytes : Nat} (hr : Row P t e z 1 bytes) (w : World) (vs : List Value) (h1 : ∀ u ∈ vs, u.cells = #[u]) (hl : vs.length ≤ 16777216) :
  (Instr.buildSlice t vs.length (vs.zipIdx.map fun x => (x.2, x.1)).toArray).run P w = .ok (.slice (some ⟨w.heap.size, 0, none⟩) vs.length vs.length) (w.alloc (.cells vs.toArray e)) := by
 have hsz := fun w => run_sizeOf_row hr w
 obtain ⟨ht, hinfo⟩ := hr
 obtain ⟨inf, hi, hi2⟩ := Option.map_eq_some_iff.1 hinfo
 simp only [Prod.mk.injEq] at hi2
 have hzv : ∀ w, (zeroValue e).run P w = .ok z w := by intro w; simp [zeroValue, typeInfo, hi, hi2.1]
 have key : ∀ cells : Array Value, cells.size = vs.length → Instr.fill (fun i => some (i, 1)) cells (vs.zipIdx.map fun x => (x.2, x.1)) = some vs.toArray := by
  intro cells hc
  obtain ⟨r, hf, hrl⟩ := fill_one vs 0 cells h1 (by omega)
  rw [hf]
  congr 1
  apply Array.toList_inj.1
  rw [hrl]
  simp [hc]
 by_cases h0 : vs.length = 0
 ·obtain rfl : vs = [] := List.eq_nil_of_length_eq_zero h0
  simp [Instr.buildSlice, run_underlying ht, hsz, Instr.fill, newRow, Array.range_zero']
 ·have h0' : ¬ (16777216 < vs.length) := by omega
  simp only [Instr.buildSlice, Sem.run_bind, run_underlying ht, Result.andThen_ok, hsz, Nat.mul_one]
  rw [if_neg (by omega)]
  simp only [h0, if_false, Sem.run_bind, Sem.run_pure, Result.andThen_ok, hzv]
  rw [key _ (by simp)]
  simp [newRow]
theorem Own.built {α : Type} [Rep α] (w : World) (e : TypeId) (S : Nat → Prop) (B : Nat) (hB : B ≤ w.heap.size) (l : List α) (vs : List Value) (h : rds w S l vs) (h1 : Rep.sz α = 1) (hm : l.length ≤ maxLen) :
  Own (w.alloc (.cells vs.toArray e)) B e S l (.slice (some ⟨w.heap.size, 0, none⟩) vs.length vs.length) := by
 have hl := rds_len h
 rw [h1, Nat.mul_one] at hl
 refine .of_owns (cs := vs) (rds_keep h fun b hb hlt => ⟨Below.heap_alloc _ _ _ hlt, hb⟩) ?_
 rw [hl]
 refine ⟨by rw [h1, hl, Nat.mul_one], .inr ⟨w.heap.size, l.length, vs.toArray, rfl, hB, heap_alloc_new w _, Nat.le_refl _, hm, by simp [h1, hl], by rw [h1, ← hl]; simp⟩⟩
theorem wpList_build1 {P : Program} {ops : Array Oper} {Q : Exit → Act → World → Prop} {a : Act} {w : World} {rest : List Oper} {dst : Option Tmp} {ty : TypeId} {pos : String} {after : Array Edge}
  {α : Type} [Rep α] {t e : TypeId} {z : Value} {bytes : Nat} (hr : Row P t e z 1 bytes) (h1 : Rep.sz α = 1) {n : Nat} {ps : Array (Nat × Operand)} {S : Nat → Prop} (l : List α)
  (vs : List Value) (hps : (ps.toList.map fun x => (x.1, a.eval x.2)) = vs.zipIdx.map fun x => (x.2, x.1)) (hn : n = vs.length) (hcs : rds w S l vs) (hl : l.length ≤ 16777216)
  (h : ∀ v w', Own w' w.heap.size e S l v → w.grownBy w' none → v.ownBlock = some w.heap.size → w'.heap.size = w.heap.size + 1 → wpList P ops Q rest (a.put dst v) w') :
  wpList P ops Q (⟨dst, .buildSlice t n ps, ty, pos, after, none⟩ :: rest) a w := by
 subst hn
 have hlen := rds_len hcs
 rw [h1, Nat.mul_one] at hlen
 have hps : (ps.map fun x => (x.1, a.eval x.2)) = (vs.zipIdx.map fun x => (x.2, x.1)).toArray := by
  apply Array.toList_inj.1
  rw [Array.toList_map]
  exact hps
 have hone : ∀ u ∈ vs, u.cells = #[u] := by
  intro u hu
  have := rds_one hcs u hu
  cases u <;> simp_all [Value.oneCell', Value.cells]
 have hrun := run_buildSlice1 (P := P) hr w vs hone (by omega)
 have ho := Own.built w e S w.heap.size (Nat.le_refl _) l vs hcs h1 (by simp only [maxLen]; omega)
 refine wpList_plain rfl fun K hK => ?_
 unfold Oper.wp
 simp only [execOp, hps, Sem.run_bind, hrun, Result.andThen_ok, Sem.run_pure]
 exact hK _ _ (h _ _ ho (World.grownBy_alloc w _ none) rfl (by simp))
theorem below_of_grown {w w' : World} {row : Option Nat} {B : Nat} (h : w.grownBy w' row) (hB : B ≤ w.heap.size) (hr : ∀ k, row = some k → B ≤ k) : Below B w w' := (Below.refl B w).grown h hB hr
theorem Sl.grown {α : Type} [Rep α] {w w' : World} {S : Nat → Prop} {l : List α} {v : Value} {row : Option Nat} (h : Sl w S l v) (hg : w.grownBy w' row) (hS : ∀ b, S b → row ≠ some b) : Sl w' S l v :=
 h.keep fun b hb hlt => ⟨hg.block b hlt (fun e => hS b hb e.symm), hb⟩
theorem Sl.old {α : Type} [Rep α] {w : World} {S : Nat → Prop} {l : List α} {v : Value} (h : Sl w S l v) : Sl w (· < w.heap.size) l v := h.wide fun _ _ h => h
theorem Own.grown0 {α : Type} [Rep α] {w w' : World} {B : Nat} {e : TypeId} {S : Nat → Prop} {l : List α} {v : Value} (h : Own w B e S l v) (hg : w.grownBy w' none) : Own w' B e S l v :=
 h.below (below_of_grown hg (Nat.le_refl _) (by simp)) (Nat.le_refl _)
theorem Sl.grown0 {α : Type} [Rep α] {w w' : World} {S : Nat → Prop} {l : List α} {v : Value} (h : Sl w S l v) (hg : w.grownBy w' none) : Sl w' S l v := h.grown hg (by simp)
theorem Own.sl' {α : Type} [Rep α] {w : World} {B : Nat} {e : TypeId} {l : List α} {v : Value} (h : Own w B e (fun _ => False) l v) : Sl w (fun b => B ≤ b) l v :=
 h.sl (fun _ h => h.elim) fun b hb => (h.ge b hb).1
theorem _root_.Go.RowKit.Below.grown0 {B : Nat} {a w w' : World} (h : Below B a w) (hg : w.grownBy w' none) (hB : B ≤ w.heap.size) : Below B a w' := h.grown hg hB (by simp)
theorem Sl.drew {α : Type} [Rep α] {w : World} {S : Nat → Prop} {l : List α} {v : Value} (h : Sl w S l v) : Sl w.drew S l v := h.keep fun _ hb _ => ⟨rfl, hb⟩
theorem Sl.drewN {α : Type} [Rep α] {w : World} {S : Nat → Prop} {l : List α} {v : Value} (h : Sl w S l v) (n : Nat) : Sl (w.drewN n) S l v := h.keep fun _ hb _ => ⟨by simp, hb⟩
theorem Sl.slice_run {P : Program} {α : Type} [Rep α] {w : World} {t e : TypeId} {z : Value} {bytes : Nat} {S : Nat → Prop} {l : List α} {v : Value} (hx : Sl w S l v) (hr : Row P t e z (Rep.sz α) bytes)
  (k k' : IntKind) (n m : Int) (h0 : 0 ≤ n) (hn : n ≤ m) (hm : m ≤ l.length) :
  ∃ u, (∀ w', (Instr.slice t v (some (.int k n)) (some (.int k' m)) none).run P w' = .ok u w') ∧ Sl w S ((l.take m.toNat).drop n.toNat) u := by
 have hx' := hx
 obtain ⟨ao, cap, cs, rfl, hcap, _⟩ := hx
 have he : P.elem t = e := by simp [Program.elem, hr.1]
 refine ⟨_, fun w' => ?_, hx'.cut n.toNat m.toNat (by omega) (by omega)⟩
 have hrun := run_slice_lh (P := P) w' t ao l.length cap (by rw [he]; exact hr.1) k k' n m h0 hn (by omega)
 rw [he, run_sizeOf_row hr] at hrun
 exact hrun
theorem Sl.slice_run_h {P : Program} {α : Type} [Rep α] {w : World} {t e : TypeId} {z : Value} {bytes : Nat} {S : Nat → Prop} {l : List α} {v : Value} (hx : Sl w S l v) (hr : Row P t e z (Rep.sz α) bytes)
  (k' : IntKind) (m : Int) (h0 : 0 ≤ m) (hm : m ≤ l.length) :
  ∃ u, (∀ w', (Instr.slice t v none (some (.int k' m)) none).run P w' = .ok u w') ∧ Sl w S (l.take m.toNat) u := by
 have hx' := hx
 obtain ⟨ao, cap, cs, rfl, hcap, _⟩ := hx
 have he : P.elem t = e := by simp [Program.elem, hr.1]
 have hcut := hx'.cut 0 m.toNat (by omega) (by omega)
 rw [List.drop_zero] at hcut
 refine ⟨_, fun w' => ?_, hcut⟩
 have hrun := run_slice_h (P := P) w' t ao l.length cap (by rw [he]; exact hr.1) k' m h0 (by omega)
 rw [he, run_sizeOf_row hr] at hrun
 exact hrun
theorem Sl.slice_run_l {P : Program} {α : Type} [Rep α] {w : World} {t e : TypeId} {z : Value} {bytes : Nat} {S : Nat → Prop} {l : List α} {v : Value} (hx : Sl w S l v) (hr : Row P t e z (Rep.sz α) bytes)
  (k : IntKind) (n : Int) (h0 : 0 ≤ n) (hn : n ≤ l.length) :
  ∃ u, (∀ w', (Instr.slice t v (some (.int k n)) none none).run P w' = .ok u w') ∧ Sl w S (l.drop n.toNat) u := by
 have hx' := hx
 obtain ⟨ao, cap, cs, rfl, hcap, _⟩ := hx
 have he : P.elem t = e := by simp [Program.elem, hr.1]
 have hcut := hx'.cut n.toNat l.length (by omega) (by omega)
 rw [List.take_length] at hcut
 refine ⟨_, fun w' => ?_, hcut⟩
 have hrun := run_slice_l (P := P) w' t ao l.length cap (by rw [he]; exact hr.1) k n h0 hn
 rw [he, run_sizeOf_row hr] at hrun
 exact hrun
theorem Sl.index_run {P : Program} {w : World} {t e : TypeId} {z : Value} {bytes : Nat} {S : Nat → Prop} {l : List UInt8} {v : Value} (hx : Sl w S l v) (hr : Row P t e z 1 bytes)
  (k : IntKind) (n : Int) (h0 : 0 ≤ n) (hn : n < l.length) :
  ∃ b o y, l[n.toNat]? = some y ∧ (∀ w', (Instr.indexAt t v (.int k n)).run P w' = .ok (.pointer (some ⟨b, o, none⟩)) w') ∧ w.cell? ⟨b, o, none⟩ = some (.int .u8 (y.toNat : Int)) := by
 obtain ⟨ao, cap, cs, rfl, hcap, _, hnone, hcs, _, hloc⟩ := hx
 obtain rfl := rds_u8_cells.1 hcs
 have he : P.elem t = e := by simp [Program.elem, hr.1]
 have hlt : n.toNat < l.length := by omega
 have hy : l[n.toNat]? = some l[n.toNat] := List.getElem?_eq_getElem hlt
 cases ao with
 | none => have := hnone rfl; omega
 | some ad =>
  have hcell := hloc ad rfl n.toNat (.int .u8 (l[n.toNat].toNat : Int)) (by simp [hy])
  have hspot : ∃ b o, ad.add n.toNat = ⟨b, o, none⟩ := by
   generalize ad.add n.toNat = q at hcell
   obtain ⟨b, o, sp⟩ := q
   cases sp with
   | none => exact ⟨b, o, rfl⟩
   | some s =>
    exfalso
    unfold World.cell? at hcell
    split at hcell <;> simp at hcell
  obtain ⟨b, o, hq⟩ := hspot
  rw [hq] at hcell
  refine ⟨b, o, _, hy, fun w' => ?_, hcell⟩
  have hrun := run_indexAt_slice (P := P) w' t ad l.length cap k n (by rw [he]; exact hr.1)
  rw [if_pos ⟨h0, hn⟩, he, run_sizeOf_row hr] at hrun
  simp only [Result.andThen, Nat.mul_one, hq] at hrun
  exact hrun
theorem quiet_same {P : Program} {f : FuncId} {args : Array Value} {w : World} {n : Nat} {v : Value}
  (h : Calls P f args (w.drewN n) fun e w' => e = .returned v ∧ w.drewN n = w') : Calls P f args (w.drewN n) fun e w'' => e = .returned v ∧ ∃ m, w'' = w.drewN m :=
 h.mono fun _ _ ⟨he, hm⟩ => ⟨he, n, hm.symm⟩
theorem below_draws (B : Nat) (w : World) (n : Nat) : Below B w (w.drewN n) := ⟨rfl, rfl, rfl, Nat.le_refl _, fun _ _ => rfl⟩
def OwnR {α : Type} [Rep α] (w : World) (B : Nat) (e : TypeId) (l : List α) (v : Value) : Prop := Own w B e (fun b => b < w.heap.size ∧ v.ownBlock ≠ some b) l v
theorem OwnR.nil {α : Type} [Rep α] (w : World) (B : Nat) (e : TypeId) : OwnR w B e ([] : List α) (.slice none 0 0) := Own.nil _ _ _ _
theorem OwnR.ge {α : Type} [Rep α] {w : World} {B : Nat} {e : TypeId} {l : List α} {v : Value} (h : OwnR w B e l v) : ∀ b, v.ownBlock = some b → B ≤ b ∧ b < w.heap.size := Own.ge h
theorem OwnR.below {α : Type} [Rep α] {w w' : World} {B : Nat} {e : TypeId} {l : List α} {v : Value} (h : OwnR w B e l v) {C : Nat} (hb : Below C w w') (hC : w.heap.size ≤ C) : OwnR w' B e l v :=
 Own.keep h (fun b hb' hlt => ⟨hb.block b (by omega), by have := hb.size; omega, hb'.2⟩) fun b hv => hb.block b (by have := h.ge b hv; omega)
theorem OwnR.grown {α : Type} [Rep α] {w w' : World} {B : Nat} {e : TypeId} {l : List α} {v : Value} {row : Option Nat} (h : OwnR w B e l v) (hg : w.grownBy w' row) (hr : ∀ k, row = some k → w.heap.size ≤ k) : OwnR w' B e l v :=
 h.below (below_of_grown hg (Nat.le_refl _) hr) (Nat.le_refl _)
theorem OwnR.grown0 {α : Type} [Rep α] {w w' : World} {B : Nat} {e : TypeId} {l : List α} {v : Value} (h : OwnR w B e l v) (hg : w.grownBy w' none) : OwnR w' B e l v := h.grown hg (by simp)
theorem OwnR.sl {α : Type} [Rep α] {w : World} {B : Nat} {e : TypeId} {l : List α} {v : Value} (h : OwnR w B e l v) : Sl w (· < w.heap.size) l v :=
 Own.sl h (fun _ h _ => h.1) fun b hb => (h.ge b hb).2
theorem wpList_appendR {P : Program} {ops : Array Oper} {Q : Exit → Act → World → Prop} {a : Act} {w : World} {rest : List Oper} {dst : Option Tmp} {ty : TypeId} {pos : String} {after : Array Edge}
  {α : Type} [Rep α] {s x : Operand} {t e : TypeId} {z : Value} {bytes : Nat} {B : Nat} {S' : Nat → Prop} {l m : List α} (hr : Row P t e z (Rep.sz α) bytes) (hz : z.cells.size = Rep.sz α) (hsz : 0 < Rep.sz α)
  (hs : OwnR w B e l (a.eval s)) (hx : Sl w S' m (a.eval x)) (hS : ∀ b, S' b → b < w.heap.size → (a.eval s).ownBlock ≠ some b)
  (h63 : l.length + m.length ≤ maxLen) (hbytes : (l.length + m.length) * bytes ≤ 140737488355328) (hB : B ≤ w.heap.size)
  (h : ∀ v' w', OwnR w' B e (l ++ m) v' → w.grownBy w' (a.eval s).ownBlock → (v'.ownBlock = (a.eval s).ownBlock ∨ ∃ g, v'.ownBlock = some g ∧ w.heap.size ≤ g) → wpList P ops Q rest (a.put dst v') w') :
  wpList P ops Q (⟨dst, .call ⟨.builtin .append, #[s, x], #[t, t]⟩, ty, pos, after, none⟩ :: rest) a w := by
 refine wpList_append hr hz hsz hs (hx.wide (S' := fun b => S' b ∧ b < w.heap.size) fun b h1 h2 => ⟨h1, h2⟩) (fun y cs hy => rds_keep hy fun b hb hlt => ⟨rfl, hlt, hS b hb.1 hlt⟩) (fun b hb _ => hb.2) h63 hbytes hB fun v' w' h1 h2 h3 => ?_
 refine h v' w' ?_ h2 h3
 refine Own.keep h1 (fun b hb hlt => ⟨rfl, hlt, ?_⟩) fun b _ => rfl
 rcases h3 with h3 | ⟨g, h3, h4⟩
 ·rw [h3]; exact hb.2
 ·rw [h3]; intro e; cases e; omega
theorem Own.at {P : Program} {w : World} {B : Nat} {t e : TypeId} {z : Value} {bytes : Nat} {l : List UInt8} {v : Value} (h : Own w B e (fun _ => False) l v) (hr : Row P t e z 1 bytes) (i : Nat) (hi : i < l.length) :
  ∃ g o y, l[i]? = some y ∧ v.ownBlock = some g ∧ (∀ (k : IntKind) w', (Instr.indexAt t v (.int k (i : Int))).run P w' = .ok (.pointer (some ⟨g, o, none⟩)) w') ∧ w.cell? ⟨g, o, none⟩ = some (.int .u8 (y.toNat : Int)) ∧ w.frozen? ⟨g, o, none⟩ = false ∧
   ∀ y' : UInt8, Own (w.setCell ⟨g, o, none⟩ (.int .u8 (y'.toNat : Int))) B e (fun _ => False) (l.set i y') v := by
 obtain ⟨cs, c1, c2⟩ := h
 obtain rfl := rds_u8_cells.1 c1
 have he : P.elem t = e := by simp [Program.elem, hr.1]
 have hcells := fun g o cap n' => rowAt.cells c2 (g := g) (o := o) (cap := cap) (n' := n')
 rcases c2 with ⟨rfl, hn, _⟩ | ⟨g, o, cap, cur, rfl, hg, hh, hcap, hm, hs, ht⟩
 ·omega
 ·have hs : o + cap ≤ cur.size := by have e1 : cap * Rep.sz UInt8 = cap := Nat.mul_one _; omega
  have ht : (cur.toList.drop o).take l.length = l.map fun b => Value.int .u8 (b.toNat : Int) := by rw [← ht]; congr 1; exact (Nat.mul_one _).symm
  have hcell := hcells g o cap _ rfl i (.int .u8 (l[i].toNat : Int)) (by simp [hi])
  refine ⟨g, o + i, l[i], by simp [hi], rfl, fun k w' => ?_, hcell, by simp [World.frozen?, hh], fun y' => ?_⟩
  ·have hrun := run_indexAt_slice (P := P) w' t ⟨g, o, none⟩ l.length cap k i (by rw [he]; exact hr.1)
   rw [if_pos ⟨by omega, by omega⟩, he, run_sizeOf_row hr] at hrun
   simp only [Result.andThen, Nat.mul_one, add_lit] at hrun
   exact hrun
  ·refine ⟨(l.set i y').map fun b => Value.int .u8 (b.toNat : Int), rds_u8_cells.2 rfl, .inr ⟨g, o, cap, cur.setIfInBounds (o + i) (.int .u8 (y'.toNat : Int)), by simp, hg, ?_, by simpa using hcap, hm, ?_, ?_⟩⟩
   ·simp only [World.setCell, Array.getElem?_modify, if_true, hh, Option.map_some]
    rfl
   ·have e1 : cap * Rep.sz UInt8 = cap := Nat.mul_one _
    simp; omega
   ·have e1 : (l.set i y').length * Rep.sz UInt8 = l.length := by rw [List.length_set]; exact Nat.mul_one _
    rw [e1, Array.toList_setIfInBounds, List.drop_set, if_neg (by omega), show o + i - o = i by omega, List.take_set, ht, List.map_set]
theorem Own.drew {α : Type} [Rep α] {w : World} {B : Nat} {e : TypeId} {S : Nat → Prop} {l : List α} {v : Value} (h : Own w B e S l v) : Own w.drew B e S l v := h.keep (fun _ hb _ => ⟨rfl, hb⟩) fun _ _ => rfl
theorem wpList_copyB {P : Program} {ops : Array Oper} {Q : Exit → Act → World → Prop} {a : Act} {w : World} {rest : List Oper} {dst : Option Tmp} {ty : TypeId} {pos : String} {after : Array Edge}
  {d s : Operand} {t e : TypeId} {z : Value} {bytes : Nat} {S : Nat → Prop} {l : List UInt8} (hr : Row P t e z 1 bytes) (g off : Nat) (cur : List Value) (hg : w.heap[g]? = some (.cells cur.toArray e (0, 0)))
  {dp : Option Addr} {dLen dCap : Nat} (hd : a.eval d = .slice dp dLen dCap) (hx : Sl w S l (a.eval s)) (hpos : 0 < l.length → dp = some ⟨g, off, none⟩) (hlen : l.length ≤ dLen) (hfit : off + l.length ≤ cur.length)
  (h : ∀ w', w'.heap[g]? = some (.cells (splice cur off (l.map fun b => Value.int .u8 (b.toNat : Int))).toArray e (0, 0)) → w.grownBy w' (some g) → wpList P ops Q rest (a.put dst (.int .i64 (l.length : Int))) w') :
  wpList P ops Q (⟨dst, .call ⟨.builtin .copy, #[d, s], #[t, t]⟩, ty, pos, after, none⟩ :: rest) a w := by
 obtain ⟨ao, cap, cs, hv, h1, h2, h3, h4, h5, h6⟩ := hx
 obtain rfl := rds_u8_cells.1 h4
 obtain ⟨ht, hinfo⟩ := hr
 obtain ⟨inf, hi, hi2⟩ := Option.map_eq_some_iff.1 hinfo
 simp only [Prod.mk.injEq] at hi2
 have hsz : (P.info? e).map (·.size) = some 1 := by rw [hi]; simp [hi2.2.1]
 by_cases h0 : l.length = 0
 ·obtain rfl : l = [] := List.eq_nil_of_length_eq_zero h0
  refine wpList_copy_nothing rfl d s t t rfl e ht hsz dp ao dLen dCap 0 cap hd (by simpa using hv) (by simp) ?_
  exact h w (by simpa [splice] using hg) (World.grownBy.refl w _)
 ·have hdp := hpos (by omega)
  subst hdp
  cases ao with
  | none => have := h3 rfl; omega
  | some ad =>
   have hcl : (l.map fun b => Value.int .u8 (b.toNat : Int)).length = l.length := by simp
   have hrun := run_copy_row (P := P) w t t ty e g off dLen dCap ad l.length cap cur.toArray e (l.map fun b => Value.int .u8 (b.toNat : Int)) ht hsz hg (by rw [hcl]; exact (Nat.min_eq_left hlen).symm) (fun j v hj => h6 ad rfl j v hj) (by rw [hcl]; simpa using hfit)
    (by intro v hv; obtain ⟨b, _, rfl⟩ := List.mem_map.1 hv; rfl)
   refine wpList_plain rfl fun K hK => ?_
   unfold Oper.wp
   simp only [BigFrame.execOp_builtin, BigFrame.builtin_copy, List.map_toArray, List.map_cons, List.map_nil, hv, hd, Sem.run_bind, hrun, Result.andThen_ok, Sem.run_pure]
   refine hK _ _ ?_
   have h' := h (w.setRow g (splice cur off (l.map fun b => Value.int .u8 (b.toNat : Int))).toArray) (setRow_heap w g _ _ e _ hg) ⟨rfl, rfl, rfl, by simp, fun k hk hne => setRow_other w g k _ (fun e => hne (by rw [e]))⟩
   rw [hcl]
   simpa [splice, goInt] using h'
theorem wpList_slice_full {P : Program} {ops : Array Oper} {Q : Exit → Act → World → Prop} {a : Act} {w : World} {rest : List Oper} {dst : Option Tmp} {ty : TypeId} {pos : String} {after : Array Edge}
  {x i j : Operand} {t e : TypeId} {z : Value} {bytes sz : Nat} (hr : Row P t e z sz bytes) {ad : Addr} {len cap : Nat} (hx : a.eval x = .slice (some ad) len cap) {k k' : IntKind} {n : Nat} (hi : a.eval i = .int k n) (hj : a.eval j = .int k' n) (hn : n ≤ cap)
  (h : wpList P ops Q rest (a.put dst (.slice (some ad) n n)) w) :
  wpList P ops Q (⟨dst, .slice t x none (some i) (some j), ty, pos, after, none⟩ :: rest) a w := by
 have he : P.elem t = e := by simp [Program.elem, hr.1]
 have hrun := run_slice_hm (P := P) w t (some ad) len cap (by rw [he]; exact hr.1) k k' n n (by omega) (by omega) (by omega)
 rw [he, run_sizeOf_row hr] at hrun
 have hsl := (run_sliceAt_slice (P := P) w t (.slice (some ad) len cap) none (some (.int k n)) (some (.int k' n)) (by rw [he]; exact hr.1)).trans hrun
 have e1 : sliced (some ad) 0 n n sz = .slice (some ad) n n := by simp [sliced, Addr.add]
 refine wpList_plain rfl fun K hK => ?_
 unfold Oper.wp
 simp only [execOp, hi, hj, hx, Option.map_some, Option.map_none, Sem.run_bind, hsl, Result.andThen_ok, Sem.run_pure, Int.toNat_natCast, e1]
 exact hK _ _ h
theorem wpList_slice_from {P : Program} {ops : Array Oper} {Q : Exit → Act → World → Prop} {a : Act} {w : World} {rest : List Oper} {dst : Option Tmp} {ty : TypeId} {pos : String} {after : Array Edge}
  {x i : Operand} {t e : TypeId} {z : Value} {bytes : Nat} (hr : Row P t e z 1 bytes) {g o len : Nat} (hx : a.eval x = .slice (some ⟨g, o, none⟩) len len) {k : IntKind} {n : Nat} (hi : a.eval i = .int k n) (hn : n ≤ len)
  (h : ∀ ao, (n < len → ao = some ⟨g, o + n, none⟩) → wpList P ops Q rest (a.put dst (.slice ao (len - n) (len - n))) w) :
  wpList P ops Q (⟨dst, .slice t x (some i) none none, ty, pos, after, none⟩ :: rest) a w := by
 have he : P.elem t = e := by simp [Program.elem, hr.1]
 have hrun := run_slice_l (P := P) w t (some ⟨g, o, none⟩) len len (by rw [he]; exact hr.1) k n (by omega) (by omega)
 rw [he, run_sizeOf_row hr] at hrun
 have hsl := (run_sliceAt_slice (P := P) w t (.slice (some ⟨g, o, none⟩) len len) (some (.int k n)) none none (by rw [he]; exact hr.1)).trans hrun
 refine wpList_plain rfl fun K hK => ?_
 unfold Oper.wp
 simp only [execOp, hi, hx, Option.map_some, Option.map_none, Sem.run_bind, hsl, Result.andThen_ok, Sem.run_pure, Int.toNat_natCast, sliced]
 refine hK _ _ (h _ fun hlt => ?_)
 rw [if_neg (by omega)]
 simp [add_lit]
theorem splice_end {α : Type} (A R C : List α) : splice (A ++ R) A.length C = A ++ C ++ R.drop C.length := by
 unfold splice
 rw [List.take_left, List.drop_append, List.drop_eq_nil_of_le (by omega)]
 simp
theorem rds_cons {α : Type} [Rep α] {w : World} {S : Nat → Prop} {y : List α} {l : List (List α)} {v : Value} {vs : List Value} (h : Sl w S y v) (hs : rds w S l vs) : rds w S (y :: l) (v :: vs) := ⟨[v], vs, rfl, ⟨v, rfl, h⟩, hs⟩
theorem Own.slGe {α : Type} [Rep α] {w : World} {B : Nat} {e : TypeId} {S : Nat → Prop} {l : List α} {v : Value} (h : Own w B e S l v) : Sl w (fun b => S b ∨ B ≤ b) l v := h.sl (fun _ h _ => .inl h) fun b hb => .inr (h.ge b hb).1
theorem ugZ {P : Program} {ops : Array Oper} {Q : Exit → Act → World → Prop} {a : Act} {w : World} {rest : List Oper} {dst : Option Tmp} {op : Op} {ty : TypeId} {pos : String} {after : Array Edge} {g : Nat × Bool}
  (hw : Region.wanted ⟨dst, op, ty, pos, after, some g⟩ (yielded ops a.tmps) = true) (h : wpList P ops Q (⟨dst, op, ty, pos, after, none⟩ :: rest) a w) :
  wpList P ops Q (⟨dst, op, ty, pos, after, some g⟩ :: rest) a w := by
 have h' : Oper.wp P ⟨dst, op, ty, pos, after, none⟩ a w (wpList P ops Q rest) Q ∨ (Oper.asks P ⟨dst, op, ty, pos, after, none⟩ a w ∧ LetsOut Q) := by
  unfold wpList at h
  rw [if_pos (by simp [Region.wanted])] at h
  exact h
 have e : execOp a.eval ⟨dst, op, ty, pos, after, some g⟩ = execOp a.eval ⟨dst, op, ty, pos, after, none⟩ := by
  cases op <;> rfl
 unfold wpList
 rw [if_pos hw]
 rcases h' with h' | ⟨h1, h2⟩
 ·left
  unfold Oper.wp at h' ⊢
  rw [e]
  exact h'
 ·right
  refine ⟨?_, h2⟩
  unfold Oper.asks at h1 ⊢
  rw [e]
  exact h1
end Go.Arm
/- What this seat's program says of its types; the laws of XBase at them. -/
namespace Go.Proofs.YtjkffjngamagkaaDoor
open Go Go.RowKit Go.Arm
theorem rowB : Row Tryd.prog 22 5 (.int .u8 0) 1 1 := ⟨Tryd.underlying22, by kernel_rfl⟩
theorem rowBB : Row Tryd.prog 186 22 (.slice none 0 0) 1 24 := ⟨Tryd.underlying186, by kernel_rfl⟩
abbrev OwnB (w : World) (B : Nat) (l : List UInt8) (v : Value) : Prop := Own w B 5 (fun _ => False) l v
section
variable {ops : Array Oper} {Q : Exit → Act → World → Prop} {a : Act} {w : World} {rest : List Oper}
variable {dst : Option Tmp} {ty : TypeId} {pos : String} {after : Array Edge}
theorem len_B {x : Operand} {S : Nat → Prop} {l : List UInt8} (hx : Sl w S l (a.eval x)) (h : wpList Tryd.prog ops Q rest (a.put dst (.int .i64 (l.length : Int))) w) :
  wpList Tryd.prog ops Q (⟨dst, .call ⟨.builtin .len, #[x], #[22]⟩, ty, pos, after, none⟩ :: rest) a w := wpList_len rowB.1 hx h
theorem len_BB {x : Operand} {S : Nat → Prop} {l : List (List UInt8)} (hx : Sl w S l (a.eval x)) (h : wpList Tryd.prog ops Q rest (a.put dst (.int .i64 (l.length : Int))) w) :
  wpList Tryd.prog ops Q (⟨dst, .call ⟨.builtin .len, #[x], #[186]⟩, ty, pos, after, none⟩ :: rest) a w := wpList_len rowBB.1 hx h
def kW : Op → Bool
 | .call ⟨.builtin _, _, _⟩ => true
 | .slice _ _ _ _ _ => true
 | .buildSlice _ _ _ => true
 | .indexAddr t _ _ => t == 22 || t == 186
 | .convert s d _ => s == 22 && (d == 9 || d == 22)
 | _ => false
theorem empty_B {Q : Exit → Act → World → Prop} (h : ∀ v, OwnB (w.alloc (.cells #[] 5)) w.heap.size [] v → Sl (w.alloc (.cells #[] 5)) (· = w.heap.size) ([] : List UInt8) v → wpList Tryd.prog ops Q rest (a.put dst v) (w.alloc (.cells #[] 5))) :
  wpList Tryd.prog ops Q (⟨dst, .buildSlice 22 0 #[], ty, pos, after, none⟩ :: rest) a w := by
 refine wpList_plain rfl fun K hK => ?_
 go_simp
 have ho := Own.made (α := UInt8) w 5 (fun _ => False) w.heap.size (Nat.le_refl _)
 exact hK _ _ (h _ ho (ho.sl (fun _ h => h.elim) (by intro b hb; cases hb; rfl)))
theorem str_B {Q : Exit → Act → World → Prop} {x : Operand} {S : Nat → Prop} {l : List UInt8} (hx : Sl w S l (a.eval x)) (h : wpList Tryd.prog ops Q rest (a.put dst (.string ⟨l.toArray⟩)) w) :
  wpList Tryd.prog ops Q (⟨dst, .convert 22 9 x, ty, pos, after, none⟩ :: rest) a w := by
 refine wpList_plain rfl fun K hK => ?_
 have hrun := run_convert_sl (P := Tryd.prog) Tryd.underlying22 Tryd.underlying5 Tryd.underlying9 hx
 unfold Oper.wp
 simp [execOp, hrun, Result.andThen]
 exact hK _ _ h
theorem app_B {Q : Exit → Act → World → Prop} {s x : Operand} {B : Nat} {S : Nat → Prop} {l m : List UInt8} (hs : OwnB w B l (a.eval s)) (hx : Sl w S m (a.eval x))
  (hl : l.length + m.length ≤ 140737488355328) (hB : B ≤ w.heap.size)
  (h : ∀ v' w', OwnB w' B (l ++ m) v' → w.grownBy w' (a.eval s).ownBlock → (v'.ownBlock = (a.eval s).ownBlock ∨ ∃ g, v'.ownBlock = some g ∧ w.heap.size ≤ g) → wpList Tryd.prog ops Q rest (a.put dst v') w') :
  wpList Tryd.prog ops Q (⟨dst, .call ⟨.builtin .append, #[s, x], #[22, 22]⟩, ty, pos, after, none⟩ :: rest) a w :=
 wpList_append rowB rfl (by decide) hs hx (fun _ _ h => rds_u8 h) (fun _ h => h.elim) (by simp only [maxLen]; omega) (by omega) hB h
theorem idx_B {Q : Exit → Act → World → Prop} {x i : Operand} {S : Nat → Prop} {l : List UInt8} (hx : Sl w S l (a.eval x)) {k : IntKind} {n : Int} (hi : a.eval i = .int k n) (h0 : 0 ≤ n) (hn : n < l.length)
  (h : ∀ b o y, l[n.toNat]? = some y → w.cell? ⟨b, o, none⟩ = some (.int .u8 (y.toNat : Int)) → wpList Tryd.prog ops Q rest (a.put dst (.pointer (some ⟨b, o, none⟩))) w) :
  wpList Tryd.prog ops Q (⟨dst, .indexAddr 22 x i, ty, pos, after, none⟩ :: rest) a w :=
 wpList_index1 rowB rfl hx hi h0 hn fun b o u y h1 h2 h3 => h b o y h1 (by have h2 : [u] = [Value.int .u8 (y.toNat : Int)] := h2; simp at h2; rw [← h2]; exact h3)
theorem idx_BB {Q : Exit → Act → World → Prop} {x i : Operand} {S : Nat → Prop} {l : List (List UInt8)} (hx : Sl w S l (a.eval x)) {k : IntKind} {n : Int} (hi : a.eval i = .int k n) (h0 : 0 ≤ n) (hn : n < l.length)
  (h : ∀ b o y u, l[n.toNat]? = some y → Sl w S y u → w.cell? ⟨b, o, none⟩ = some u → wpList Tryd.prog ops Q rest (a.put dst (.pointer (some ⟨b, o, none⟩))) w) :
  wpList Tryd.prog ops Q (⟨dst, .indexAddr 186 x i, ty, pos, after, none⟩ :: rest) a w :=
 wpList_index1 rowBB rfl hx hi h0 hn fun b o u y h1 h2 h3 => by
  obtain ⟨v, hv, h4⟩ := h2
  simp at hv; subst hv
  exact h b o y u h1 h4 h3
theorem build_B {Q : Exit → Act → World → Prop} {n : Nat} {ps : Array (Nat × Operand)} (l : List UInt8) (vs : List Value) (hps : (ps.toList.map fun x => (x.1, a.eval x.2)) = vs.zipIdx.map fun x => (x.2, x.1)) (hn : n = vs.length)
  (hvs : vs = l.map fun b => Value.int .u8 (b.toNat : Int)) (hl : l.length ≤ 16777216)
  (h : ∀ v w', OwnB w' w.heap.size l v → w.grownBy w' none → v.ownBlock = some w.heap.size → w'.heap.size = w.heap.size + 1 → wpList Tryd.prog ops Q rest (a.put dst v) w') :
  wpList Tryd.prog ops Q (⟨dst, .buildSlice 22 n ps, ty, pos, after, none⟩ :: rest) a w :=
 wpList_build1 rowB rfl l vs hps hn (rds_u8_cells.2 hvs) hl h
theorem build_BB {Q : Exit → Act → World → Prop} {n : Nat} {ps : Array (Nat × Operand)} {S : Nat → Prop} (l : List (List UInt8)) (vs : List Value) (hps : (ps.toList.map fun x => (x.1, a.eval x.2)) = vs.zipIdx.map fun x => (x.2, x.1)) (hn : n = vs.length)
  (hvs : rds w S l vs) (hl : l.length ≤ 16777216)
  (h : ∀ v w', Own w' w.heap.size 22 S l v → w.grownBy w' none → v.ownBlock = some w.heap.size → w'.heap.size = w.heap.size + 1 → wpList Tryd.prog ops Q rest (a.put dst v) w') :
  wpList Tryd.prog ops Q (⟨dst, .buildSlice 186 n ps, ty, pos, after, none⟩ :: rest) a w :=
 wpList_build1 rowBB rfl l vs hps hn hvs hl h
theorem min2 {Q : Exit → Act → World → Prop} {x y : Operand} {n m : Int} (hx : a.eval x = .int .i64 n) (hy : a.eval y = .int .i64 m) (h : wpList Tryd.prog ops Q rest (a.put dst (.int .i64 (min n m))) w) :
  wpList Tryd.prog ops Q (⟨dst, .call ⟨.builtin .min, #[x, y], #[3, 3]⟩, ty, pos, after, none⟩ :: rest) a w := by
 refine wpList_plain rfl fun K hK => ?_
 have hrun := run_min_int2 (P := Tryd.prog) w #[3, 3] ty .i64 .i64 n m
 have hm : (if m < n then m else n) = min n m := by omega
 unfold Oper.wp
 simp [BigFrame.execOp_builtin, BigFrame.builtin_min, hx, hy, hrun, Result.andThen]
 rw [hm]
 exact hK _ _ h
end
end Go.Proofs.YtjkffjngamagkaaDoor
/- Plain Lean: what the document says of layer 1 (seal). No program in sight. -/
namespace Go.Arm
def low (n : Nat) : Nat → List UInt8
 | 0 => []
 | k + 1 => UInt8.ofNat (n % 256) :: low (n / 256) k
def num : List UInt8 → Nat
 | [] => 0
 | b :: l => b.toNat + 256 * num l
def poly : BitVec 32 := 0xedb88320#32
def bitStep (c : BitVec 32) (b : Bool) : BitVec 32 := if c.getLsbD 0 != b then (c >>> 1) ^^^ poly else c >>> 1
def stepBits (c : BitVec 32) (b : UInt8) : Nat → BitVec 32
 | 0 => c
 | k + 1 => bitStep (stepBits c b k) (b.toNat.testBit k)
def step (c : BitVec 32) (b : UInt8) : BitVec 32 := stepBits c b 8
def sumFrom (c : BitVec 32) (l : List UInt8) : BitVec 32 := l.foldl step c
def sum (l : List UInt8) : BitVec 32 := ~~~ (sumFrom 0xffffffff#32 l)
def framed (l : List UInt8) : List UInt8 := low l.length 2 ++ l
def frame (l : List UInt8) : List UInt8 := low (sum (framed l)).toNat 4 ++ framed l
def next (l : List UInt8) : List UInt8 × List UInt8 × Int :=
 if l.length < 6 then ([], [], 2)
 else if 4096 < num ((l.take 6).drop 4) then ([], [], 3)
 else if l.length < 6 + num ((l.take 6).drop 4) then ([], [], 2)
 else if (sum ((l.take (6 + num ((l.take 6).drop 4))).drop 4)).toNat ≠ num (l.take 4) then ([], [], 5)
 else ((l.take (6 + num ((l.take 6).drop 4))).drop 6, l.drop (6 + num ((l.take 6).drop 4)), 0)
def allGo : Nat → List UInt8 → List (List UInt8) × List UInt8
 | 0, l => ([], l)
 | k + 1, l => if (next l).2.2 ≠ 0 then ([], l) else ((next l).1 :: (allGo k (next l).2.1).1, (allGo k (next l).2.1).2)
def all (l : List UInt8) : List (List UInt8) × List UInt8 := allGo (l.length + 1) l
def nibTab : List (BitVec 32) := [0#32, 498536548#32, 997073096#32, 651767980#32, 1994146192#32, 1802195444#32, 1303535960#32, 1342533948#32, 3988292384#32, 4027552580#32, 3604390888#32, 3412177804#32, 2607071920#32, 2262029012#32, 2685067896#32, 3183342108#32]
def nib (i : Nat) : BitVec 32 := nibTab.getD i 0
def nibStep (c : BitVec 32) : BitVec 32 := (c >>> 4) ^^^ nib (c.toNat % 16)
def opened (l : List UInt8) : List UInt8 × Int :=
 if (next l).2.2 ≠ 0 then ([], (next l).2.2) else if 0 < (next l).2.1.length then ([], 4) else ((next l).1, 0)
end Go.Arm
/- Bits of numbers, and the sum's steps as the walk writes them. No program in sight. -/
namespace Go.Arm
theorem bits_of_nat (k : IntKind) (hk : k.signed = false) (a b : Nat) (ha : a < 2 ^ k.bits) (hb : b < 2 ^ k.bits) :
  bits .and k (a : Int) (b : Int) = ((a &&& b : Nat) : Int) ∧ bits .or k (a : Int) (b : Int) = ((a ||| b : Nat) : Int) ∧ bits .xor k (a : Int) (b : Int) = ((a ^^^ b : Nat) : Int) := by
 have h1 : ∀ n : Nat, n < 2 ^ k.bits → k.wrap (n : Int) = (n : Int) := by
  intro n hn
  unfold IntKind.wrap
  rw [hk]
  simp
  have : ((n : Int) % ((2 ^ k.bits : Nat) : Int)) = (n : Int) := by
   rw [← Int.natCast_emod, Nat.mod_eq_of_lt hn]
  simpa using this
 refine ⟨?_, ?_, ?_⟩ <;> unfold bits <;> simp only [BitVec.ofInt_natCast]
 ·rw [BitVec.toNat_and, BitVec.toNat_ofNat, BitVec.toNat_ofNat, Nat.mod_eq_of_lt ha, Nat.mod_eq_of_lt hb]
  exact h1 _ (Nat.and_lt_two_pow _ hb)
 ·rw [BitVec.toNat_or, BitVec.toNat_ofNat, BitVec.toNat_ofNat, Nat.mod_eq_of_lt ha, Nat.mod_eq_of_lt hb]
  exact h1 _ (Nat.or_lt_two_pow ha hb)
 ·rw [BitVec.toNat_xor, BitVec.toNat_ofNat, BitVec.toNat_ofNat, Nat.mod_eq_of_lt ha, Nat.mod_eq_of_lt hb]
  exact h1 _ (Nat.xor_lt_two_pow ha hb)
theorem and32 (a b : Nat) (ha : a < 4294967296) (hb : b < 4294967296) : bits .and .u32 (a : Int) (b : Int) = ((a &&& b : Nat) : Int) := (bits_of_nat .u32 rfl a b ha hb).1
theorem or32 (a b : Nat) (ha : a < 4294967296) (hb : b < 4294967296) : bits .or .u32 (a : Int) (b : Int) = ((a ||| b : Nat) : Int) := (bits_of_nat .u32 rfl a b ha hb).2.1
theorem xor32 (a b : Nat) (ha : a < 4294967296) (hb : b < 4294967296) : bits .xor .u32 (a : Int) (b : Int) = ((a ^^^ b : Nat) : Int) := (bits_of_nat .u32 rfl a b ha hb).2.2
theorem and32_one (a : Nat) (ha : a < 4294967296) : bits .and .u32 (a : Int) 1 = ((a % 2 : Nat) : Int) := by
 have := and32 a 1 ha (by omega)
 rw [Nat.and_one_is_mod] at this
 exact this
theorem xor_toNat (c d : BitVec 32) : bits .xor .u32 (c.toNat : Int) (d.toNat : Int) = ((c ^^^ d).toNat : Int) := by
 rw [xor32 _ _ c.isLt d.isLt, BitVec.toNat_xor]
theorem shr1 (c : BitVec 32) : (c.toNat : Int) / (2 : Int) = ((c >>> 1).toNat : Int) := by
 rw [BitVec.toNat_ushiftRight, Nat.shiftRight_eq_div_pow]; omega
theorem bit_cond (c : BitVec 32) (y : UInt8) (j : Nat) (t : Bool) (h : (bits .and .u32 (c.toNat : Int) 1 != bits .and .u32 ((y.toNat : Int) / 2 ^ j % 4294967296) 1) = t) : (c.getLsbD 0 != y.toNat.testBit j) = t := by
 have hy : y.toNat / 2 ^ j < 4294967296 := Nat.lt_of_le_of_lt (Nat.div_le_self _ _) (by have := y.toNat_lt; omega)
 have e : ((y.toNat : Int) / 2 ^ j % 4294967296) = ((y.toNat / 2 ^ j : Nat) : Int) := by
  have : ((y.toNat : Int) / 2 ^ j) = ((y.toNat / 2 ^ j : Nat) : Int) := by rw [Int.natCast_ediv, Int.natCast_pow]; rfl
  rw [this]; clear this; revert hy; generalize y.toNat / 2 ^ j = m; intro hy; omega
 rw [e, and32_one _ c.isLt, and32_one _ hy] at h
 rw [BitVec.getLsbD, Nat.testBit_eq_decide_div_mod_eq, Nat.testBit_eq_decide_div_mod_eq]
 rw [← h]
 simp only [Nat.pow_zero, Nat.div_one]
 rcases Nat.mod_two_eq_zero_or_one c.toNat with h1 | h1 <;> rcases Nat.mod_two_eq_zero_or_one (y.toNat / 2 ^ j) with h2 | h2 <;> rw [h1, h2] <;> decide
theorem bit_yes (c : BitVec 32) (y : UInt8) (j : Nat) (h : (bits .and .u32 (c.toNat : Int) 1 != bits .and .u32 ((y.toNat : Int) / 2 ^ j % 4294967296) 1) = true) :
  bits .xor .u32 ((c.toNat : Int) / 2) 3988292384 = ((bitStep c (y.toNat.testBit j)).toNat : Int) := by
 rw [shr1]
 have := xor_toNat (c >>> 1) poly
 have hp : (poly.toNat : Int) = 3988292384 := by decide
 rw [hp] at this
 rw [this, bitStep, bit_cond c y j true h]
 rfl
theorem bit_no (c : BitVec 32) (y : UInt8) (j : Nat) (h : (bits .and .u32 (c.toNat : Int) 1 != bits .and .u32 ((y.toNat : Int) / 2 ^ j % 4294967296) 1) = false) :
  ((c.toNat : Int) / 2) = ((bitStep c (y.toNat.testBit j)).toNat : Int) := by
 rw [shr1, bitStep, bit_cond c y j false h]
 rfl
theorem not_toNat (c : BitVec 32) : bits .xor .u32 (c.toNat : Int) 4294967295 = ((~~~ c).toNat : Int) := by
 have := xor_toNat c (BitVec.allOnes 32)
 have hp : ((BitVec.allOnes 32).toNat : Int) = 4294967295 := by decide
 rw [hp] at this
 rw [this, BitVec.xor_allOnes]
theorem take_snoc {α : Type} (l : List α) (k : Nat) (y : α) (h : l[k]? = some y) : l.take (k + 1) = l.take k ++ [y] := by
 obtain ⟨hk, rfl⟩ := List.getElem?_eq_some_iff.1 h
 rw [List.take_succ_eq_append_getElem hk]
theorem sumFrom_snoc (c : BitVec 32) (l : List UInt8) (y : UInt8) : sumFrom c (l ++ [y]) = step (sumFrom c l) y := by simp [sumFrom]
theorem num_lt : ∀ l : List UInt8, num l < 256 ^ l.length
 | [] => by simp [num]
 | b :: l => by
  have h1 := num_lt l
  have h2 := b.toNat_lt
  rw [num, List.length_cons, Nat.pow_succ]
  omega
theorem num_drop (l : List UInt8) (j : Nat) (y : UInt8) (h : l[j]? = some y) : num (l.drop j) = y.toNat + 256 * num (l.drop (j + 1)) := by
 obtain ⟨hj, rfl⟩ := List.getElem?_eq_some_iff.1 h
 rw [List.drop_eq_getElem_cons hj]; rfl
theorem num_small (l : List UInt8) (hl : l.length ≤ 7) : num l ≤ 72057594037927935 := by
 have h1 := num_lt l
 have h2 : 256 ^ l.length ≤ 256 ^ 7 := Nat.pow_le_pow_right (by decide) hl
 have h3 : 256 ^ 7 = 72057594037927936 := by decide
 omega
theorem low_len : ∀ (n k : Nat), (low n k).length = k
 | _, 0 => rfl
 | n, k + 1 => by rw [low, List.length_cons, low_len]
def z1 (c : BitVec 32) : BitVec 32 := if c.getLsbD 0 then (c >>> 1) ^^^ poly else c >>> 1
theorem z1_xor (a b : BitVec 32) : z1 (a ^^^ b) = z1 a ^^^ z1 b := by
 unfold z1
 rw [BitVec.getLsbD_xor, BitVec.ushiftRight_xor_distrib]
 cases a.getLsbD 0 <;> cases b.getLsbD 0 <;> simp
 ·rw [BitVec.xor_assoc]
 ·rw [BitVec.xor_assoc, BitVec.xor_assoc]; congr 1; rw [BitVec.xor_comm]
 ·rw [show a >>> 1 ^^^ poly ^^^ (b >>> 1 ^^^ poly) = a >>> 1 ^^^ (poly ^^^ poly) ^^^ b >>> 1 by
   rw [BitVec.xor_assoc, BitVec.xor_assoc, BitVec.xor_assoc]; congr 1; rw [BitVec.xor_comm poly, BitVec.xor_assoc, ← BitVec.xor_assoc poly, BitVec.xor_self]; simp]
  simp
def zN (k : Nat) (c : BitVec 32) : BitVec 32 := match k with | 0 => c | k + 1 => z1 (zN k c)
theorem zN_xor : ∀ (k : Nat) (a b : BitVec 32), zN k (a ^^^ b) = zN k a ^^^ zN k b
 | 0, _, _ => rfl
 | k + 1, a, b => by rw [zN, zN_xor k a b, z1_xor]; rfl
def bitv (b : Bool) : BitVec 32 := if b then 1#32 else 0#32
theorem bitStep_z1 (c : BitVec 32) (b : Bool) : bitStep c b = z1 (c ^^^ bitv b) := by
 cases b
 ·simp [bitStep, z1, bitv]
 ·have h1 : (c ^^^ 1#32).getLsbD 0 = !c.getLsbD 0 := by simp
  have h2 : (c ^^^ 1#32) >>> 1 = c >>> 1 := by rw [BitVec.ushiftRight_xor_distrib]; simp
  simp only [bitStep, z1, bitv, if_true, h1, h2]
  cases c.getLsbD 0 <;> simp
theorem stepBits_lin (c : BitVec 32) (y : UInt8) : ∀ k, stepBits c y k = zN k c ^^^ stepBits 0#32 y k
 | 0 => by simp [stepBits, zN]
 | k + 1 => by
  rw [stepBits, stepBits, stepBits_lin c y k, bitStep_z1, bitStep_z1, BitVec.xor_assoc, z1_xor]; rfl
theorem stepBits_zero_all : ∀ n : Fin 256, stepBits 0#32 (UInt8.ofNat n.val) 8 = zN 8 (BitVec.ofNat 32 n.val) := by decide +kernel
theorem step_z (c : BitVec 32) (y : UInt8) : step c y = zN 8 (c ^^^ BitVec.ofNat 32 y.toNat) := by
 rw [step, stepBits_lin, zN_xor]
 congr 1
 have := stepBits_zero_all ⟨y.toNat, y.toNat_lt⟩
 simpa using this
theorem z1_even (c : BitVec 32) (h : c.toNat % 2 = 0) : z1 c = c >>> 1 := by
 have : c.getLsbD 0 = false := by rw [BitVec.getLsbD, Nat.testBit_eq_decide_div_mod_eq]; simp [h]
 rw [z1, this]; rfl
theorem ushr_ushr (c : BitVec 32) (a b : Nat) : c >>> a >>> b = c >>> (a + b) := by rw [BitVec.shiftRight_add]
theorem zN4_high (c : BitVec 32) (h : c.toNat % 16 = 0) : zN 4 c = c >>> 4 := by
 have e1 : ∀ n : Nat, (c >>> n).toNat = c.toNat / 2 ^ n := fun n => by rw [BitVec.toNat_ushiftRight, Nat.shiftRight_eq_div_pow]
 simp only [zN]
 rw [z1_even c (by omega), z1_even (c >>> 1) (by rw [e1]; omega), ushr_ushr, z1_even (c >>> (1 + 1)) (by rw [e1]; omega), ushr_ushr, z1_even (c >>> (1 + 1 + 1)) (by rw [e1]; omega), ushr_ushr]
theorem nib_all : ∀ n : Fin 16, zN 4 (BitVec.ofNat 32 n.val) = nib n.val := by decide +kernel
theorem halves (c : BitVec 32) : ((c >>> 4) <<< 4) ^^^ BitVec.ofNat 32 (c.toNat % 16) = c := by
 apply BitVec.eq_of_toNat_eq
 have h1 : ((c >>> 4) <<< 4).toNat = c.toNat / 16 * 16 := by
  rw [BitVec.toNat_shiftLeft, BitVec.toNat_ushiftRight, Nat.shiftRight_eq_div_pow, Nat.shiftLeft_eq]
  have := c.isLt
  omega
 have h2 : (BitVec.ofNat 32 (c.toNat % 16)).toNat = c.toNat % 16 := by simp; omega
 rw [BitVec.toNat_xor, h1, h2]
 have h3 := Nat.two_pow_add_eq_or_of_lt (i := 4) (b := c.toNat % 16) (by omega) (c.toNat / 16)
 have h4 : c.toNat / 16 * 16 ^^^ c.toNat % 16 = c.toNat / 16 * 16 ||| c.toNat % 16 := by
  apply Nat.eq_of_testBit_eq
  intro i
  rw [Nat.testBit_xor, Nat.testBit_or]
  by_cases hi : i < 4
  ·have : (c.toNat / 16 * 16).testBit i = false := by
    rw [show c.toNat / 16 * 16 = 2 ^ 4 * (c.toNat / 16) by omega, Nat.testBit_two_pow_mul]
    simp; omega
   simp [this]
  ·have : (c.toNat % 16).testBit i = false := by
    apply Nat.testBit_lt_two_pow
    have : 2 ^ 4 ≤ 2 ^ i := Nat.pow_le_pow_right (by decide) (by omega)
    omega
   simp [this]
 rw [h4, show c.toNat / 16 * 16 = 2 ^ 4 * (c.toNat / 16) by omega, ← h3]
 omega
theorem nibStep_z (c : BitVec 32) : nibStep c = zN 4 c := by
 have h := halves c
 have hh : ((c >>> 4) <<< 4).toNat % 16 = 0 := by
  rw [BitVec.toNat_shiftLeft, BitVec.toNat_ushiftRight, Nat.shiftRight_eq_div_pow, Nat.shiftLeft_eq]; omega
 have hlow := nib_all ⟨c.toNat % 16, Nat.mod_lt _ (by decide)⟩
 have hs : ((c >>> 4) <<< 4) >>> 4 = c >>> 4 := by
  apply BitVec.eq_of_toNat_eq
  rw [BitVec.toNat_ushiftRight, BitVec.toNat_shiftLeft, BitVec.toNat_ushiftRight, Nat.shiftRight_eq_div_pow, Nat.shiftRight_eq_div_pow, Nat.shiftLeft_eq]
  have := c.isLt
  omega
 calc nibStep c = (c >>> 4) ^^^ nib (c.toNat % 16) := rfl
  _ = zN 4 ((c >>> 4) <<< 4) ^^^ zN 4 (BitVec.ofNat 32 (c.toNat % 16)) := by rw [zN4_high _ hh, hs]; congr 1; exact hlow.symm
  _ = zN 4 c := by rw [← zN_xor, h]
theorem step_nib (c : BitVec 32) (y : UInt8) : nibStep (nibStep (c ^^^ BitVec.ofNat 32 y.toNat)) = step c y := by
 rw [step_z, nibStep_z, nibStep_z]; rfl
theorem mix_byte (c : BitVec 32) (y : UInt8) : bits .xor .u32 (c.toNat : Int) ((y.toNat : Int) % 4294967296) = ((c ^^^ BitVec.ofNat 32 y.toNat).toNat : Int) := by
 have h := y.toNat_lt
 have e : ((y.toNat : Int) % 4294967296) = ((BitVec.ofNat 32 y.toNat).toNat : Int) := by
  rw [BitVec.toNat_ofNat]; omega
 rw [e, xor_toNat]
theorem nib_walk (c : BitVec 32) : bits .xor .u32 ((c.toNat : Int) / 16) ((nib (c.toNat % 16)).toNat : Int) = ((nibStep c).toNat : Int) := by
 have e : (c.toNat : Int) / (16 : Int) = ((c >>> 4).toNat : Int) := by rw [BitVec.toNat_ushiftRight, Nat.shiftRight_eq_div_pow]; omega
 rw [e, xor_toNat]; rfl
theorem sumFrom_append (c : BitVec 32) (l m : List UInt8) : sumFrom c (l ++ m) = sumFrom (sumFrom c l) m := by simp [sumFrom]
theorem not_toNat' (c : BitVec 32) : bits .xor .u32 IntKind.u32.max (c.toNat : Int) = ((~~~ c).toNat : Int) := by
 have := xor_toNat (BitVec.allOnes 32) c
 have hp : ((BitVec.allOnes 32).toNat : Int) = IntKind.u32.max := by decide
 rw [hp] at this
 rw [this, BitVec.xor_comm, BitVec.xor_allOnes]
theorem flat_take_le {α : Type} (la : List (List α)) (k : Nat) (y : List α) (h : la[k]? = some y) (N : Nat) (hN : N = la.flatten.length) : (la.take k).flatten.length + y.length ≤ N := by
 have e := take_snoc la k y h
 have : la.flatten = (la.take (k + 1)).flatten ++ (la.drop (k + 1)).flatten := by rw [← List.flatten_append, List.take_append_drop]
 rw [hN, this, e, List.flatten_append]
 simp only [List.length_append, List.flatten_cons, List.flatten_nil, List.append_nil]
 omega
theorem num_two (l : List UInt8) (i : Nat) (y z : UInt8) (hy : l[i]? = some y) (hz : l[i + 1]? = some z) : num ((l.take (i + 2)).drop i) = y.toNat + 256 * z.toNat := by
 have : (l.take (i + 2)).drop i = [y, z] := by
  rw [take_snoc l (i + 1) z hz, take_snoc l i y hy, List.append_assoc]
  have hi := (List.getElem?_eq_some_iff.1 hy).1
  have e : (l.take i).length = i := by simp; omega
  conv => lhs; arg 1; rw [← e]
  rw [List.drop_left]; rfl
 rw [this]; simp [num]
theorem or_join (a b k : Nat) (ha : a < 2 ^ k) : a ||| (b * 2 ^ k) = a + b * 2 ^ k := by
 have h := Nat.two_pow_add_eq_or_of_lt ha b
 rw [Nat.mul_comm (2 ^ k) b] at h
 rw [Nat.or_comm, ← h, Nat.add_comm]
theorem or_two (y z : UInt8) : bits .or .i64 (y.toNat : Int) ((z.toNat : Int) * 256) = ((y.toNat + 256 * z.toNat : Nat) : Int) := by
 have h1 := y.toNat_lt
 have h2 := z.toNat_lt
 have e : ((z.toNat : Int) * 256) = ((z.toNat * 256 : Nat) : Int) := by omega
 rw [e, (bits_nat .i64 62 (by decide) (fun n h0 h => by rw [IntKind.wrap_i64]; omega) y.toNat (z.toNat * 256) (by omega) (by omega)).2, show z.toNat * 256 = z.toNat * 2 ^ 8 from rfl, or_join _ _ 8 h1]
 omega
theorem or_four (a b c d : UInt8) : bits .or .u32 (bits .or .u32 (bits .or .u32 (a.toNat : Int) ((b.toNat : Int) * 256)) ((c.toNat : Int) * 65536)) ((d.toNat : Int) * 16777216) = ((a.toNat + 256 * (b.toNat + 256 * (c.toNat + 256 * d.toNat)) : Nat) : Int) := by
 have h1 := a.toNat_lt
 have h2 := b.toNat_lt
 have h3 := c.toNat_lt
 have h4 := d.toNat_lt
 have e1 : ((b.toNat : Int) * 256) = ((b.toNat * 256 : Nat) : Int) := by omega
 have e2 : ((c.toNat : Int) * 65536) = ((c.toNat * 65536 : Nat) : Int) := by omega
 have e3 : ((d.toNat : Int) * 16777216) = ((d.toNat * 16777216 : Nat) : Int) := by omega
 rw [e1, e2, e3, or32 _ _ (by omega) (by omega), show b.toNat * 256 = b.toNat * 2 ^ 8 from rfl, or_join _ _ 8 h1,
  or32 _ _ (by omega) (by omega), show c.toNat * 65536 = c.toNat * 2 ^ 16 from rfl, or_join _ _ 16 (by omega),
  or32 _ _ (by omega) (by omega), show d.toNat * 16777216 = d.toNat * 2 ^ 24 from rfl, or_join _ _ 24 (by omega)]
 omega
theorem num_four (l : List UInt8) (a b c d : UInt8) (ha : l[0]? = some a) (hb : l[1]? = some b) (hc : l[2]? = some c) (hd : l[3]? = some d) : num (l.take 4) = a.toNat + 256 * (b.toNat + 256 * (c.toNat + 256 * d.toNat)) := by
 have : l.take 4 = [a, b, c, d] := by
  rw [take_snoc l 3 d hd, take_snoc l 2 c hc, take_snoc l 1 b hb, take_snoc l 0 a ha]; rfl
 rw [this]; simp [num]
end Go.Arm
/- Plain Lean: what the document says of layer 2 (scroll). No program in sight. -/
namespace Go.Arm
def enc (n : Nat) : List UInt8 := if n < 128 then [UInt8.ofNat n] else UInt8.ofNat (n % 128 + 128) :: enc (n / 128)
termination_by n
decreasing_by omega
theorem enc_small (n : Nat) (h : n < 128) : enc n = [UInt8.ofNat n] := by rw [enc, if_pos h]
theorem enc_big (n : Nat) (h : ¬ n < 128) : enc n = UInt8.ofNat (n % 128 + 128) :: enc (n / 128) := by rw [enc, if_neg h]
theorem enc_len_le : ∀ (k n : Nat), n < 128 ^ (k + 1) → (enc n).length ≤ k + 1
 | 0, n, h => by rw [enc_small n (by simpa using h)]; simp
 | k + 1, n, h => by
  by_cases h1 : n < 128
  ·rw [enc_small n h1]; simp
  ·rw [enc_big n h1, List.length_cons]
   have := enc_len_le k (n / 128) (by
    rw [Nat.pow_succ] at h
    exact Nat.div_lt_of_lt_mul (by rw [Nat.mul_comm]; exact h))
   omega
theorem enc_len10 (n : Nat) (h : n < 18446744073709551616) : (enc n).length ≤ 10 := enc_len_le 9 n (by omega)
def zig (z : Int) : Nat := if z < 0 then (-2 * z - 1).toNat else (2 * z).toNat
def encVec (v : List Int32) : List UInt8 := enc v.length ++ v.flatMap fun z => enc (zig z.toInt)
def encs (ns : List UInt64) : List UInt8 := ns.flatMap fun n => enc n.toNat
def encVecs (l : List (List Int32)) : List UInt8 := l.flatMap encVec
def encInts (v : List Int32) : List UInt8 := v.flatMap fun z => enc (zig z.toInt)
theorem flatMap_snoc {α : Type} (f : α → List UInt8) (l : List α) (j : Nat) (y : α) (h : l[j]? = some y) : (l.take (j + 1)).flatMap f = (l.take j).flatMap f ++ f y := by
 rw [take_snoc l j y h, List.flatMap_append]; simp
end Go.Arm
/- A Writer in memory; what a call that writes into it may touch. -/
namespace Go.Arm
open Go.RowKit
structure Only (F : Nat → Prop) (w w' : World) : Prop where
 os : w'.os = w.os
 tape : w'.tape = w.tape
 output : w'.output = w.output
 size : w.heap.size ≤ w'.heap.size
 block : ∀ k, k < w.heap.size → ¬ F k → w'.heap[k]? = w.heap[k]?
theorem Only.refl (F : Nat → Prop) (w : World) : Only F w w := ⟨rfl, rfl, rfl, Nat.le_refl _, fun _ _ _ => rfl⟩
theorem Only.trans {F G : Nat → Prop} {w w1 w2 : World} (h1 : Only F w w1) (h2 : Only G w1 w2) (hG : ∀ k, k < w.heap.size → G k → F k) : Only F w w2 :=
 ⟨h2.os.trans h1.os, h2.tape.trans h1.tape, h2.output.trans h1.output, Nat.le_trans h1.size h2.size, fun k hk hf => (h2.block k (Nat.lt_of_lt_of_le hk h1.size) (fun hg => hf (hG k hk hg))).trans (h1.block k hk hf)⟩
theorem Only.of_grown {w w' : World} {row : Option Nat} (h : w.grownBy w' row) : Only (fun k => row = some k) w w' := ⟨h.os, h.tape, h.output, h.size, fun k hk hf => h.block k hk (fun e => hf e.symm)⟩
theorem Only.of_below {w w' : World} {B : Nat} (h : Below B w w') : Only (fun k => B ≤ k) w w' := ⟨h.os, h.tape, h.output, h.size, fun k _ hf => h.block k (by omega)⟩
theorem Only.of_set (w : World) (a : Addr) (v : Value) : Only (fun k => k = a.block) w (w.setCell a v) :=
 ⟨rfl, rfl, rfl, by simp [World.setCell], fun k _ hf => by simp [World.setCell, Array.getElem?_modify, Ne.symm hf]⟩
theorem Only.below {F : Nat → Prop} {w w' : World} (h : Only F w w') {B : Nat} (hB : B ≤ w.heap.size) (hF : ∀ k, F k → B ≤ k) : Below B w w' :=
 ⟨h.os, h.tape, h.output, h.size, fun k hk => h.block k (by omega) (fun hf => by have := hF k hf; omega)⟩
theorem Only.mono {F G : Nat → Prop} {w w' : World} (h : Only F w w') (hF : ∀ k, k < w.heap.size → F k → G k) : Only G w w' :=
 ⟨h.os, h.tape, h.output, h.size, fun k hk hg => h.block k hk (fun hf => hg (hF k hk hf))⟩
theorem Sl.only {α : Type} [Rep α] {F S : Nat → Prop} {w w' : World} {l : List α} {v : Value} (h : Sl w S l v) (ho : Only F w w') (hS : ∀ b, S b → b < w.heap.size → ¬ F b) : Sl w' S l v :=
 h.keep fun b hb hlt => ⟨ho.block b hlt (hS b hb hlt), hb⟩
theorem Own.only {α : Type} [Rep α] {F : Nat → Prop} {w w' : World} {B : Nat} {e : TypeId} {l : List α} {v : Value} (h : Own w B e (fun _ => False) l v) (ho : Only F w w') (hv : ∀ b, v.ownBlock = some b → ¬ F b) : Own w' B e (fun _ => False) l v :=
 h.keep (fun _ h => h.elim) fun b hb => ho.block b (h.ge b hb).2 (hv b hb)
theorem Own.shape {α : Type} [Rep α] {w : World} {B : Nat} {e : TypeId} {S : Nat → Prop} {l : List α} {v : Value} (h : Own w B e S l v) : ∃ ao n cap, v = .slice ao n cap := by
 obtain ⟨cs, _, ⟨rfl, _⟩ | ⟨g, o, cap, cur, rfl, _⟩⟩ := h
 ·exact ⟨_, _, _, rfl⟩
 ·exact ⟨_, _, _, rfl⟩
theorem Sl.shape {α : Type} [Rep α] {w : World} {S : Nat → Prop} {l : List α} {v : Value} (h : Sl w S l v) : ∃ ao n cap, v = .slice ao n cap := by
 obtain ⟨ao, cap, cs, rfl, _⟩ := h
 exact ⟨_, _, _, rfl⟩
end Go.Arm
namespace Go.Proofs.YtjkffjngamagkaaDoor
open Go Go.RowKit Go.Arm
def Wr (w : World) (g : Nat) (h : Option Nat) (l : List UInt8) : Prop :=
 ∃ v, w.heap[g]? = some (.cells #[v] 122 (0, 0)) ∧ OwnB w 0 l v ∧ v.ownBlock = h ∧ h ≠ some g
def Mv (w w' : World) (g : Nat) (h h' : Option Nat) : Prop := (h' = h ∨ ∃ k, h' = some k ∧ w.heap.size ≤ k) ∧ Only (fun k => k = g ∨ h = some k) w w'
theorem Mv.refl (w : World) (g : Nat) (h : Option Nat) : Mv w w g h h := ⟨.inl rfl, Only.refl _ _⟩
theorem Mv.trans {w w1 w2 : World} {g : Nat} {h h1 h2 : Option Nat} (a : Mv w w1 g h h1) (b : Mv w1 w2 g h1 h2) : Mv w w2 g h h2 := by
 obtain ⟨a1, a2⟩ := a
 obtain ⟨b1, b2⟩ := b
 refine ⟨?_, a2.trans b2 ?_⟩
 ·rcases b1 with rfl | ⟨k, rfl, hk⟩
  ·exact a1
  ·exact .inr ⟨k, rfl, Nat.le_trans a2.size hk⟩
 ·rintro k hk (rfl | hk2)
  ·exact .inl rfl
  ·rcases a1 with rfl | ⟨j, rfl, hj⟩
   ·exact .inr hk2
   ·cases hk2; omega
theorem Wr.lt {w : World} {g : Nat} {h : Option Nat} {l : List UInt8} (a : Wr w g h l) : g < w.heap.size := by
 obtain ⟨v, h1, _⟩ := a
 exact (Array.getElem?_eq_some_iff.1 h1).1
theorem Wr.row_lt {w : World} {g : Nat} {h : Option Nat} {l : List UInt8} (a : Wr w g h l) : ∀ k, h = some k → k < w.heap.size := by
 obtain ⟨v, _, h2, h3, _⟩ := a
 intro k hk
 exact (h2.ge k (h3.trans hk)).2
theorem Wr.only {w w' : World} {F : Nat → Prop} {g : Nat} {h : Option Nat} {l : List UInt8} (a : Wr w g h l) (ho : Only F w w') (h1 : ¬ F g) (h2 : ∀ k, h = some k → ¬ F k) : Wr w' g h l := by
 have hlt := a.lt
 obtain ⟨v, a1, a2, a3, a4⟩ := a
 exact ⟨v, by rw [ho.block g hlt h1]; exact a1, a2.only ho (fun b hb => h2 b (a3.symm.trans hb)), a3, a4⟩
theorem Wr.stored {w w1 : World} {g : Nat} {h : Option Nat} {m : List UInt8} {v v' : Value} (a1 : w.heap[g]? = some (.cells #[v] 122 (0, 0))) (a4 : h ≠ some g)
  (hg : w.grownBy w1 h) (ho : OwnB w1 0 m v') (hv : v'.ownBlock = h ∨ ∃ k, v'.ownBlock = some k ∧ w.heap.size ≤ k) :
  Wr (w1.setCell ⟨g, 0, none⟩ v') g v'.ownBlock m ∧ Mv w (w1.setCell ⟨g, 0, none⟩ v') g h v'.ownBlock := by
 have hlt := (Array.getElem?_eq_some_iff.1 a1).1
 have hne : v'.ownBlock ≠ some g := by
  rcases hv with hv | ⟨k, hv, hk⟩
  ·rw [hv]; exact a4
  ·rw [hv]; intro e; cases e; omega
 have e1 : w1.heap[g]? = some (.cells #[v] 122 (0, 0)) := by rw [hg.block g hlt (fun e => a4 e.symm)]; exact a1
 have hs := Only.of_set w1 ⟨g, 0, none⟩ v'
 refine ⟨⟨v', ?_, ho.only hs (fun b hb e => hne (by rw [hb, e])), rfl, hne⟩, hv, ?_⟩
 ·simp [World.setCell, Array.getElem?_modify, e1]
 ·exact ((Only.of_grown hg).mono fun k _ e => .inr e).trans hs fun k _ e => .inl e
end Go.Proofs.YtjkffjngamagkaaDoor
/- Numbers and vectors in memory; the laws of XBase at their slices. -/
namespace Go.Arm
open Go.RowKit
instance : Rep UInt64 where
 sz := 1
 rd _ _ x cs := cs = [.int .u64 (x.toNat : Int)]
 len h := by subst h; rfl
 one h := by subst h; intro u hu; simp at hu; subst hu; rfl
 keep h _ := h
instance : Rep Int32 where
 sz := 1
 rd _ _ x cs := cs = [.int .i32 x.toInt]
 len h := by subst h; rfl
 one h := by subst h; intro u hu; simp at hu; subst hu; rfl
 keep h _ := h
end Go.Arm
namespace Go.Proofs.YtjkffjngamagkaaDoor
open Go Go.RowKit Go.Arm
theorem rowN : Row Tryd.prog 183 26 (.int .u64 0) 1 8 := ⟨Tryd.underlying183, by kernel_rfl⟩
theorem rowV : Row Tryd.prog 30 21 (.int .i32 0) 1 4 := ⟨Tryd.underlying30, by kernel_rfl⟩
theorem rowVV : Row Tryd.prog 185 30 (.slice none 0 0) 1 24 := ⟨Tryd.underlying185, by kernel_rfl⟩
section
variable {ops : Array Oper} {Q : Exit → Act → World → Prop} {a : Act} {w : World} {rest : List Oper}
variable {dst : Option Tmp} {ty : TypeId} {pos : String} {after : Array Edge}
theorem len_N {x : Operand} {S : Nat → Prop} {l : List UInt64} (hx : Sl w S l (a.eval x)) (h : wpList Tryd.prog ops Q rest (a.put dst (.int .i64 (l.length : Int))) w) :
  wpList Tryd.prog ops Q (⟨dst, .call ⟨.builtin .len, #[x], #[183]⟩, ty, pos, after, none⟩ :: rest) a w := wpList_len rowN.1 hx h
theorem len_V {x : Operand} {S : Nat → Prop} {l : List Int32} (hx : Sl w S l (a.eval x)) (h : wpList Tryd.prog ops Q rest (a.put dst (.int .i64 (l.length : Int))) w) :
  wpList Tryd.prog ops Q (⟨dst, .call ⟨.builtin .len, #[x], #[30]⟩, ty, pos, after, none⟩ :: rest) a w := wpList_len rowV.1 hx h
theorem len_VV {x : Operand} {S : Nat → Prop} {l : List (List Int32)} (hx : Sl w S l (a.eval x)) (h : wpList Tryd.prog ops Q rest (a.put dst (.int .i64 (l.length : Int))) w) :
  wpList Tryd.prog ops Q (⟨dst, .call ⟨.builtin .len, #[x], #[185]⟩, ty, pos, after, none⟩ :: rest) a w := wpList_len rowVV.1 hx h
def kS (o : Op) : Bool := kW o || match o with
 | .makeSlice _ _ _ => true
 | .indexAddr t _ _ => t == 183 || t == 30 || t == 185
 | _ => false
theorem idx_N {Q : Exit → Act → World → Prop} {x i : Operand} {S : Nat → Prop} {l : List UInt64} (hx : Sl w S l (a.eval x)) {k : IntKind} {n : Int} (hi : a.eval i = .int k n) (h0 : 0 ≤ n) (hn : n < l.length)
  (h : ∀ b o y, l[n.toNat]? = some y → w.cell? ⟨b, o, none⟩ = some (.int .u64 (y.toNat : Int)) → wpList Tryd.prog ops Q rest (a.put dst (.pointer (some ⟨b, o, none⟩))) w) :
  wpList Tryd.prog ops Q (⟨dst, .indexAddr 183 x i, ty, pos, after, none⟩ :: rest) a w :=
 wpList_index1 rowN rfl hx hi h0 hn fun b o u y h1 h2 h3 => h b o y h1 (by have h2 : [u] = [Value.int .u64 (y.toNat : Int)] := h2; simp at h2; rw [← h2]; exact h3)
theorem idx_V {Q : Exit → Act → World → Prop} {x i : Operand} {S : Nat → Prop} {l : List Int32} (hx : Sl w S l (a.eval x)) {k : IntKind} {n : Int} (hi : a.eval i = .int k n) (h0 : 0 ≤ n) (hn : n < l.length)
  (h : ∀ b o y, l[n.toNat]? = some y → w.cell? ⟨b, o, none⟩ = some (.int .i32 y.toInt) → wpList Tryd.prog ops Q rest (a.put dst (.pointer (some ⟨b, o, none⟩))) w) :
  wpList Tryd.prog ops Q (⟨dst, .indexAddr 30 x i, ty, pos, after, none⟩ :: rest) a w :=
 wpList_index1 rowV rfl hx hi h0 hn fun b o u y h1 h2 h3 => h b o y h1 (by have h2 : [u] = [Value.int .i32 y.toInt] := h2; simp at h2; rw [← h2]; exact h3)
theorem idx_VV {Q : Exit → Act → World → Prop} {x i : Operand} {S : Nat → Prop} {l : List (List Int32)} (hx : Sl w S l (a.eval x)) {k : IntKind} {n : Int} (hi : a.eval i = .int k n) (h0 : 0 ≤ n) (hn : n < l.length)
  (h : ∀ b o y u, l[n.toNat]? = some y → Sl w S y u → w.cell? ⟨b, o, none⟩ = some u → wpList Tryd.prog ops Q rest (a.put dst (.pointer (some ⟨b, o, none⟩))) w) :
  wpList Tryd.prog ops Q (⟨dst, .indexAddr 185 x i, ty, pos, after, none⟩ :: rest) a w :=
 wpList_index1 rowVV rfl hx hi h0 hn fun b o u y h1 h2 h3 => by
  obtain ⟨v, hv, h4⟩ := h2
  simp at hv; subst hv
  exact h b o y u h1 h4 h3
theorem build_N {Q : Exit → Act → World → Prop} {n : Nat} {ps : Array (Nat × Operand)} {S : Nat → Prop} (l : List UInt64) (vs : List Value) (hps : (ps.toList.map fun x => (x.1, a.eval x.2)) = vs.zipIdx.map fun x => (x.2, x.1)) (hn : n = vs.length)
  (hvs : rds w S l vs) (hl : l.length ≤ 16777216)
  (h : ∀ v w', Own w' w.heap.size 26 S l v → w.grownBy w' none → v.ownBlock = some w.heap.size → w'.heap.size = w.heap.size + 1 → wpList Tryd.prog ops Q rest (a.put dst v) w') :
  wpList Tryd.prog ops Q (⟨dst, .buildSlice 183 n ps, ty, pos, after, none⟩ :: rest) a w :=
 wpList_build1 rowN rfl l vs hps hn hvs hl h
theorem build_V {Q : Exit → Act → World → Prop} {n : Nat} {ps : Array (Nat × Operand)} {S : Nat → Prop} (l : List Int32) (vs : List Value) (hps : (ps.toList.map fun x => (x.1, a.eval x.2)) = vs.zipIdx.map fun x => (x.2, x.1)) (hn : n = vs.length)
  (hvs : rds w S l vs) (hl : l.length ≤ 16777216)
  (h : ∀ v w', Own w' w.heap.size 21 S l v → w.grownBy w' none → v.ownBlock = some w.heap.size → w'.heap.size = w.heap.size + 1 → wpList Tryd.prog ops Q rest (a.put dst v) w') :
  wpList Tryd.prog ops Q (⟨dst, .buildSlice 30 n ps, ty, pos, after, none⟩ :: rest) a w :=
 wpList_build1 rowV rfl l vs hps hn hvs hl h
theorem build_VV {Q : Exit → Act → World → Prop} {n : Nat} {ps : Array (Nat × Operand)} {S : Nat → Prop} (l : List (List Int32)) (vs : List Value) (hps : (ps.toList.map fun x => (x.1, a.eval x.2)) = vs.zipIdx.map fun x => (x.2, x.1)) (hn : n = vs.length)
  (hvs : rds w S l vs) (hl : l.length ≤ 16777216)
  (h : ∀ v w', Own w' w.heap.size 30 S l v → w.grownBy w' none → v.ownBlock = some w.heap.size → w'.heap.size = w.heap.size + 1 → wpList Tryd.prog ops Q rest (a.put dst v) w') :
  wpList Tryd.prog ops Q (⟨dst, .buildSlice 185 n ps, ty, pos, after, none⟩ :: rest) a w :=
 wpList_build1 rowVV rfl l vs hps hn hvs hl h
end
theorem rds_N {w : World} {S : Nat → Prop} {l : List UInt64} : rds w S l (l.map fun x => Value.int .u64 (x.toNat : Int)) := by
 induction l with
 | nil => rfl
 | cons x l ih => exact ⟨[_], _, rfl, rfl, ih⟩
theorem rds_V {w : World} {S : Nat → Prop} {l : List Int32} : rds w S l (l.map fun x => Value.int .i32 x.toInt) := by
 induction l with
 | nil => rfl
 | cons x l ih => exact ⟨[_], _, rfl, rfl, ih⟩
end Go.Proofs.YtjkffjngamagkaaDoor
/- Laws for the walk: make of a slice of bytes, and the append of so many zeros. -/
namespace Go.Proofs.YtjkffjngamagkaaDoor
open Go Go.RowKit Go.Arm
section
variable {ops : Array Oper} {a : Act} {w : World} {rest : List Oper}
variable {dst : Option Tmp} {ty : TypeId} {pos : String} {after : Array Edge}
theorem make_B {Q : Exit → Act → World → Prop} {ln cp : Operand} {kl kc : IntKind} {n : Nat} (hl : a.eval ln = .int kl (n : Int)) (hc : a.eval cp = .int kc (n : Int)) (hn : n ≤ 16777216)
  (h : ∀ v w', OwnB w' w.heap.size (List.replicate n 0) v → w.grownBy w' none → wpList Tryd.prog ops Q rest (a.put dst v) w') :
  wpList Tryd.prog ops Q (⟨dst, .makeSlice 22 ln cp, ty, pos, after, none⟩ :: rest) a w := by
 obtain ⟨ht, hinfo⟩ := rowB
 obtain ⟨inf, hi, hi2⟩ := Option.map_eq_some_iff.1 hinfo
 simp only [Prod.mk.injEq] at hi2
 obtain ⟨hzz, hisz, hby⟩ := hi2
 obtain ⟨w', r1, r2, r3⟩ := run_make_full (P := Tryd.prog) w w.heap.size 22 5 inf (.int .u8 0) 1 ht hi hzz hisz kl kc n (by rw [hby]; omega) (by simp only [maxLen]; omega) (Nat.le_refl _)
 refine wpList_plain rfl fun K hK => ?_
 unfold Oper.wp
 simp [execOp, hl, hc, r1, Result.andThen]
 refine hK _ _ (h _ _ ?_ r3)
 have e : (madeCells (Value.int .u8 0).cells (n * 1)).toList = (List.replicate n (0 : UInt8)).map fun b => Value.int .u8 (b.toNat : Int) := by
  rw [Nat.mul_one]
  exact (toList_madeCells_one _ n).trans (by simp)
 rw [e] at r2
 refine .of_owns (rds_u8_cells.2 rfl) ?_
 rw [List.length_replicate]
 exact r2
end
end Go.Proofs.YtjkffjngamagkaaDoor
/- package scroll: peek, take. -/
namespace Go.Arm
def peekGo : List UInt8 → Nat → Nat → Nat × Nat × Int
 | [], _, _ => (0, 0, 2)
 | b :: l, i, acc =>
  if i = 9 ∧ 1 < b.toNat then (0, 0, 4)
  else if b.toNat < 128 then (if b.toNat = 0 ∧ 0 < i then (0, 0, 4) else (acc + 128 ^ i * b.toNat, i + 1, 0))
  else peekGo l (i + 1) (acc + 128 ^ i * (b.toNat - 128))
def peek (l : List UInt8) : Nat × Nat × Int := peekGo l 0 0
end Go.Arm
namespace Go.Proofs.YtjkffjngamagkaaDoor
open Go Go.RowKit Go.Arm
theorem andNot128 : ∀ n : Fin 256, bits .andNot .u8 (n.val : Int) 128 = ((n.val % 128 : Nat) : Int) := by decide +kernel
theorem or_peek (j acc : Nat) (y : UInt8) (hacc : acc < 128 ^ j) (hj : j ≤ 9) (h9 : j = 9 → y.toNat % 128 ≤ 1) :
  bits .or .u64 (acc : Int) (IntKind.u64.wrap (IntKind.u64.wrap (bits .andNot .u8 (y.toNat : Int) 128) * 2 ^ (7 * j))) = ((acc + 128 ^ j * (y.toNat % 128) : Nat) : Int) := by
 have hw : ∀ n : Nat, n < 18446744073709551616 → IntKind.u64.wrap (n : Int) = n := by
  intro n hn
  simp [IntKind.wrap, IntKind.signed, IntKind.bits]
  omega
 have e1 := andNot128 ⟨y.toNat, y.toNat_lt⟩
 simp only at e1
 obtain ⟨x, hx⟩ : ∃ x, x = y.toNat % 128 := ⟨_, rfl⟩
 rw [← hx] at e1 h9 ⊢
 have hx2 : x < 128 := by omega
 have e128 : (128 : Nat) ^ j = 2 ^ (7 * j) := by rw [Nat.pow_mul]
 rw [e1, hw x (by omega)]
 have e2 : (x : Int) * 2 ^ (7 * j) = ((2 ^ (7 * j) * x : Nat) : Int) := by push_cast; rw [Int.mul_comm]
 have hb : 2 ^ (7 * j) * x < 18446744073709551616 := by
  by_cases h : j = 9
  ·subst h
   have := h9 rfl
   have : 2 ^ (7 * 9) * x ≤ 2 ^ (7 * 9) * 1 := Nat.mul_le_mul_left _ this
   omega
  ·have h1 : 2 ^ (7 * j) ≤ 2 ^ 56 := Nat.pow_le_pow_right (by decide) (by omega)
   have : 2 ^ (7 * j) * x ≤ 2 ^ 56 * 127 := Nat.mul_le_mul h1 (by omega)
   omega
 have ha : acc < 18446744073709551616 := by
  have : 128 ^ j ≤ 128 ^ 9 := Nat.pow_le_pow_right (by decide) hj
  omega
 rw [e128] at hacc ⊢
 rw [e2, hw _ hb, (bits_of_nat .u64 rfl acc (2 ^ (7 * j) * x) ha hb).2.1, Nat.or_comm, ← Nat.two_pow_add_eq_or_of_lt hacc, Nat.add_comm]
set_option maxRecDepth 100000 in
theorem peek_any (w : World) (S : Nat → Prop) (l : List UInt8) (p : Value) (hp : Sl w S l p) :
  Calls Tryd.prog 118 #[p] w fun e w' => e = .returned (.tuple #[.int .u64 (peek l).1, .int .i64 (peek l).2.1, .int .i64 (peek l).2.2]) ∧ w = w' := by
 have hm : l.length ≤ 9223372036854775807 := hp.length_le
 obtain ⟨PK, hPK⟩ : ∃ PK, PK = peek l := ⟨_, rfl⟩
 rw [← hPK]
 have HPK := Lib.hid hPK
 clear hPK
 go_enter Tryd.func118, Tryd.ntmps118
 go_wp2_with (first | ((with_reducible apply ugZ); rfl) | ((with_reducible (first | apply len_B | apply len_BB | apply len_N | apply len_V | apply len_VV)); assumption) | ((with_reducible refine stop_if kS ?_ ?_); rfl))
 go_loop [5, 6, 7, 10] (fun n u6 u7 i => ∃ (j acc : Nat), j ≤ l.length ∧ j ≤ 9 ∧ i = .int .i64 j ∧ n = .int .u64 acc ∧ acc < 128 ^ j ∧ peekGo (l.drop j) j acc = PK) (fun _ _ _ i => l.length - (intOf i).toNat)
 case atStart => exact ⟨0, 0, by omega, by omega, rfl, rfl, by simp, HPK.out.symm⟩
 case round =>
  obtain ⟨j, acc, hj, hj9, rfl, rfl, hacc, hgo⟩ := hrel
  by_cases hlt : j < l.length
  ·obtain ⟨y, hy⟩ : ∃ y, l[j]? = some y := ⟨_, List.getElem?_eq_getElem hlt⟩
   have hd : l.drop j = y :: l.drop (j + 1) := by
    obtain ⟨_, rfl⟩ := List.getElem?_eq_some_iff.1 hy
    exact List.drop_eq_getElem_cons hlt
   rw [hd, peekGo] at hgo
   have Hgo := Lib.hid hgo
   have Hy := Lib.hid hy
   have Hacc := Lib.hid hacc
   have hyl := y.toNat_lt
   clear hgo hy hd hacc
   by_cases h9 : j = 9 ∧ 1 < y.toNat
   ·obtain ⟨rfl, h91⟩ := h9
    go_wp2_with (first | ((with_reducible apply ugZ); rfl) | ((with_reducible (first | apply len_B | apply len_BB | apply len_N | apply len_V | apply len_VV)); assumption) | ((with_reducible refine stop_if kS ?_ ?_); rfl))
    refine Stop.go (idx_B hp rfl (by omega) (by omega) fun b o y' hy' hcell => ?_)
    obtain rfl : y' = y := Option.some.inj (hy'.symm.trans Hy.out)
    clear hy'
    go_wp2_with (first | ((with_reducible apply ugZ); rfl) | ((with_reducible (first | apply len_B | apply len_BB | apply len_N | apply len_V | apply len_VV)); assumption) | ((with_reducible refine stop_if kS ?_ ?_); rfl))
    go_ret3
    have e := Hgo.out
    rw [if_pos ⟨trivial, h91⟩] at e
    rw [← e]
    simp
   ·by_cases hj9' : j = 9
    ·subst hj9'
     have hy1 : y.toNat ≤ 1 := by omega
     have hn1 : ¬ (1 : Int) < (y.toNat : Int) := by omega
     go_wp2_with (first | ((with_reducible apply ugZ); rfl) | ((with_reducible (first | apply len_B | apply len_BB | apply len_N | apply len_V | apply len_VV)); assumption) | ((with_reducible refine stop_if kS ?_ ?_); rfl))
     refine Stop.go (idx_B hp rfl (by omega) (by omega) fun b o y' hy' hcell => ?_)
     obtain rfl : y' = y := Option.some.inj (hy'.symm.trans Hy.out)
     clear hy'
     by_cases h0 : y'.toNat = 0
     ·go_wp2_with (first | ((with_reducible apply ugZ); rfl) | ((with_reducible (first | apply len_B | apply len_BB | apply len_N | apply len_V | apply len_VV)); assumption) | ((with_reducible refine stop_if kS ?_ ?_); rfl))
      go_ret3
      have e := Hgo.out
      rw [if_neg (by omega), if_pos (by omega), if_pos ⟨h0, by omega⟩] at e
      rw [← e]
      simp
     ·go_wp2_with (first | ((with_reducible apply ugZ); rfl) | ((with_reducible (first | apply len_B | apply len_BB | apply len_N | apply len_V | apply len_VV)); assumption) | ((with_reducible refine stop_if kS ?_ ?_); rfl))
      go_ret3
      have e := Hgo.out
      rw [if_neg (by omega), if_pos (by omega), if_neg (by omega)] at e
      rw [← e]
      have ho := or_peek 9 acc y' Hacc.out (by omega) (by omega)
      rw [show (2 : Int) ^ (7 * 9) = 9223372036854775808 by decide, Nat.mod_eq_of_lt (show y'.toNat < 128 by omega)] at ho
      rw [← ho]
      simp
    ·have hjb : ((j : Int) == 9) = false := beq_eq_false_iff_ne.2 (by omega)
     go_wp2_with (first | ((with_reducible apply ugZ); rfl) | ((with_reducible (first | apply len_B | apply len_BB | apply len_N | apply len_V | apply len_VV)); assumption) | ((with_reducible refine stop_if kS ?_ ?_); rfl))
     refine Stop.go (idx_B hp rfl (by omega) (by omega) fun b o y' hy' hcell => ?_)
     obtain rfl : y' = y := Option.some.inj (hy'.symm.trans Hy.out)
     clear hy'
     have ho := or_peek j acc y' Hacc.out (by omega) (by omega)
     have Ho := Lib.hid ho
     clear ho
     by_cases hb : y'.toNat < 128
     ·by_cases h0 : y'.toNat = 0 ∧ 0 < j
      ·obtain ⟨h00, h01⟩ := h0
       have h01' : (0 : Int) < (j : Int) := by omega
       have hy0 : ((y'.toNat : Int) == 0) = true := by simp [h00]
       go_wp2_with (first | ((with_reducible apply ugZ); rfl) | ((with_reducible (first | apply len_B | apply len_BB | apply len_N | apply len_V | apply len_VV)); assumption) | ((with_reducible refine stop_if kS ?_ ?_); rfl))
       go_ret3
       have e := Hgo.out
       rw [if_neg (by omega), if_pos hb, if_pos ⟨h00, h01⟩] at e
       rw [← e]
       simp
      ·by_cases h00 : y'.toNat = 0
       ·have hy0 : ((y'.toNat : Int) == 0) = true := by simp [h00]
        have h01 : ¬ (0 : Int) < (j : Int) := by omega
        go_wp2_with (first | ((with_reducible apply ugZ); rfl) | ((with_reducible (first | apply len_B | apply len_BB | apply len_N | apply len_V | apply len_VV)); assumption) | ((with_reducible refine stop_if kS ?_ ?_); rfl))
        go_ret3
        have e := Hgo.out
        rw [if_neg (by omega), if_pos hb, if_neg h0] at e
        rw [← e]
        have h := Ho.out
        rw [Nat.mod_eq_of_lt hb] at h
        rw [← h]
        simp [h00]
       ·have hy0 : ((y'.toNat : Int) == 0) = false := beq_eq_false_iff_ne.2 (by omega)
        go_wp2_with (first | ((with_reducible apply ugZ); rfl) | ((with_reducible (first | apply len_B | apply len_BB | apply len_N | apply len_V | apply len_VV)); assumption) | ((with_reducible refine stop_if kS ?_ ?_); rfl))
        go_ret3
        have e := Hgo.out
        rw [if_neg (by omega), if_pos hb, if_neg h0] at e
        rw [← e]
        have h := Ho.out
        rw [Nat.mod_eq_of_lt hb] at h
        rw [← h]
        simp
     ·go_wp2_with (first | ((with_reducible apply ugZ); rfl) | ((with_reducible (first | apply len_B | apply len_BB | apply len_N | apply len_V | apply len_VV)); assumption) | ((with_reducible refine stop_if kS ?_ ?_); rfl))
      refine ⟨⟨j + 1, _, by omega, by omega, by go_num, by rw [Ho.out], ?_, ?_⟩, by simp [intOf]; omega⟩
      ·have h1 : 128 ^ j * (y'.toNat % 128) ≤ 128 ^ j * 127 := Nat.mul_le_mul_left _ (by omega)
       have h2 := Hacc.out
       rw [Nat.pow_succ]
       omega
      ·have e := Hgo.out
       rw [if_neg (by omega), if_neg hb] at e
       rw [← e, show y'.toNat % 128 = y'.toNat - 128 by omega]
  ·go_wp2_with (first | ((with_reducible apply ugZ); rfl) | ((with_reducible (first | apply len_B | apply len_BB | apply len_N | apply len_V | apply len_VV)); assumption) | ((with_reducible refine stop_if kS ?_ ?_); rfl))
   go_ret3
   rw [List.drop_of_length_le (by omega)] at hgo
   rw [← hgo]
   simp [peekGo]
theorem peekGo_size : ∀ (l : List UInt8) (i acc : Nat), (peekGo l i acc).2.1 ≤ i + l.length
 | [], i, acc => by simp [peekGo]
 | b :: l, i, acc => by
  have ih := peekGo_size l (i + 1) (acc + 128 ^ i * (b.toNat - 128))
  rw [peekGo]
  simp only [List.length_cons]
  repeat' split
  all_goals first | omega | (simp; done) | (simp; omega)
theorem peek_size (l : List UInt8) : (peek l).2.1 ≤ l.length := by have := peekGo_size l 0 0; rw [peek]; omega
end Go.Proofs.YtjkffjngamagkaaDoor
/- package scroll: take. -/
namespace Go.Arm
def taken (l : List UInt8) (most : Nat) : Nat × List UInt8 × Int :=
 if (peek l).2.2 ≠ 0 then (0, [], (peek l).2.2) else if most < (peek l).1 then (0, [], 3) else ((peek l).1, l.drop (peek l).2.1, 0)
end Go.Arm
namespace Go.Proofs.YtjkffjngamagkaaDoor
open Go Go.RowKit Go.Arm
set_option maxRecDepth 100000 in
theorem take_any (w : World) (S : Nat → Prop) (l : List UInt8) (p : Value) (most : Nat) (hp : Sl w S l p) :
  Calls Tryd.prog 110 #[p, .int .u64 most] w fun e w' => ∃ v nq, e = .returned (.tuple #[.int .u64 (taken l most).1, v, .int .i64 (taken l most).2.2]) ∧ Sl w S (taken l most).2.1 v ∧ w' = w.drewN nq := by
 have hm : l.length ≤ 9223372036854775807 := hp.length_le
 have hsz := peek_size l
 obtain ⟨T, hT⟩ : ∃ T, T = taken l most := ⟨_, rfl⟩
 rw [← hT]
 unfold taken at hT
 have HT := Lib.hid hT
 clear hT
 go_enter Tryd.func110, Tryd.ntmps110
 go_wp2_with (first | ((with_reducible apply ugZ); rfl) | ((with_reducible (first | apply len_B | apply len_BB | apply len_N | apply len_V | apply len_VV)); assumption) | ((with_reducible refine stop_if kS ?_ ?_); rfl))
 refine (peek_any w S l p hp).mono ?_
 rintro e w1 ⟨rfl, rfl⟩
 have HT := HT
 obtain ⟨n, hn⟩ : ∃ n, n = (peek l).1 := ⟨_, rfl⟩
 obtain ⟨s, hs⟩ : ∃ s, s = (peek l).2.1 := ⟨_, rfl⟩
 obtain ⟨E, hE⟩ : ∃ E, E = (peek l).2.2 := ⟨_, rfl⟩
 have hT := HT.out
 rw [← hn, ← hs, ← hE] at hT ⊢
 rw [← hs] at hsz
 have HT2 := Lib.hid hT
 clear hT hn hs hE HT
 by_cases h0 : E = 0
 ·subst h0
  by_cases hmo : most < n
  ·go_wp2_with (first | ((with_reducible apply ugZ); rfl) | ((with_reducible (first | apply len_B | apply len_BB | apply len_N | apply len_V | apply len_VV)); assumption) | ((with_reducible refine stop_if kS ?_ ?_); rfl))
   go_ret3
   have e := HT2.out
   rw [if_neg (by decide), if_pos hmo] at e
   rw [e]
   exact ⟨_, 0, rfl, Sl.nil _ _, rfl⟩
  ·obtain ⟨v1, hv1, hs1⟩ := hp.slice_run_l (P := Tryd.prog) rowB .i64 s (by omega) (by omega)
   go_wp2_with (first | ((with_reducible apply ugZ); rfl) | ((with_reducible (first | apply len_B | apply len_BB | apply len_N | apply len_V | apply len_VV)); assumption) | ((with_reducible refine stop_if kS ?_ ?_); rfl))
   go_quiet (fail)
   go_wp2_with (first | ((with_reducible apply ugZ); rfl) | ((with_reducible (first | apply len_B | apply len_BB | apply len_N | apply len_V | apply len_VV)); assumption) | ((with_reducible refine stop_if kS ?_ ?_); rfl))
   go_ret3
   have e := HT2.out
   rw [if_neg (by decide), if_neg hmo] at e
   rw [e]
   exact ⟨_, nq, rfl, hs1, rfl⟩
 ·have hne : (E != 0) = true := by simpa using h0
  go_wp2_with (first | ((with_reducible apply ugZ); rfl) | ((with_reducible (first | apply len_B | apply len_BB | apply len_N | apply len_V | apply len_VV)); assumption) | ((with_reducible refine stop_if kS ?_ ?_); rfl))
  go_ret3
  have e := HT2.out
  rw [if_pos h0] at e
  rw [e]
  exact ⟨_, 0, rfl, Sl.nil _ _, rfl⟩
end Go.Proofs.YtjkffjngamagkaaDoor
/- bytes.Clone. -/
namespace Go.Proofs.YtjkffjngamagkaaDoor
open Go Go.RowKit Go.Arm
theorem clone_any (w : World) (S : Nat → Prop) (l : List UInt8) (p : Value) (hp : Sl w S l p) (hl : l.length ≤ 140737488355328) :
  Calls Tryd.prog 98 #[p] w fun e w' => ∃ v, e = .returned v ∧ OwnB w' w.heap.size l v ∧ Below w.heap.size w w' := by
 obtain ⟨ao, cap, cs, rfl, g1, g2, g3, g4, g5, g6⟩ := hp
 cases ao with
 | none =>
  obtain rfl := g3 rfl
  obtain rfl : l = [] := List.eq_nil_of_length_eq_zero (by omega)
  change Calls _ _ #[.slice none 0 0] _ _
  have hq := fun w => Lib.run_eql_slice_nil (P := Tryd.prog) w 22 5 none 0 0 0 0 Tryd.underlying22
  go_enter Tryd.func98, Tryd.ntmps98
  go_wp2_with (first | ((with_reducible apply ugZ); rfl) | ((with_reducible (first | apply len_B | apply len_BB)); assumption) | ((with_reducible refine stop_if kW ?_ ?_); rfl))
  go_ret
  exact ⟨_, rfl, Own.nil _ _ _ _, Below.refl _ _⟩
 | some ad =>
  have hp : Sl w S l (.slice (some ad) l.length cap) := ⟨some ad, cap, cs, rfl, g1, g2, g3, g4, g5, g6⟩
  clear g1 g2 g3 g4 g5 g6
  have hq := fun w => Lib.run_eql_slice_nil (P := Tryd.prog) w 22 5 (some ad) l.length cap 0 0 Tryd.underlying22
  go_enter Tryd.func98, Tryd.ntmps98
  go_wp2_with (first | ((with_reducible apply ugZ); rfl) | ((with_reducible (first | apply len_B | apply len_BB)); assumption) | ((with_reducible refine stop_if kW ?_ ?_); rfl))
  refine Stop.go (empty_B fun v hv1 hv2 => ?_)
  have hb0 := (Below.refl w.heap.size w).alloc (Nat.le_refl _) (.cells #[] 5)
  have hp1 := hp.below hb0 (Nat.le_refl _)
  generalize w.alloc (.cells #[] 5) = w1 at *
  go_wp2_with (first | ((with_reducible apply ugZ); rfl) | ((with_reducible (first | apply len_B | apply len_BB)); assumption) | ((with_reducible refine stop_if kW ?_ ?_); rfl))
  refine Stop.go (app_B (l := []) hv1 hp1 (by simpa using hl) hb0.size fun v' w2 h1 h2 h3 => ?_)
  have hb1 := hb0.grown h2 hb0.size (fun k hk => (hv1.ge k hk).1)
  go_wp2_with (first | ((with_reducible apply ugZ); rfl) | ((with_reducible (first | apply len_B | apply len_BB)); assumption) | ((with_reducible refine stop_if kW ?_ ?_); rfl))
  go_ret
  exact ⟨v', rfl, by simpa using h1, hb1⟩
end Go.Proofs.YtjkffjngamagkaaDoor
/- package scroll: the Reader; its small methods. -/
namespace Go.Proofs.YtjkffjngamagkaaDoor
open Go Go.RowKit Go.Arm
def Rd (w : World) (g : Nat) (S : Nat → Prop) (l : List UInt8) (e : Int) : Prop :=
 ∃ v, w.heap[g]? = some (.cells #[v, .int .i64 e] 173 (0, 0)) ∧ Sl w S l v ∧ ¬ S g
theorem Rd.lt {w : World} {g : Nat} {S : Nat → Prop} {l : List UInt8} {e : Int} (h : Rd w g S l e) : g < w.heap.size := by
 obtain ⟨v, h1, _⟩ := h
 exact (Array.getElem?_eq_some_iff.1 h1).1
theorem Rd.only {w w' : World} {F : Nat → Prop} {g : Nat} {S : Nat → Prop} {l : List UInt8} {e : Int} (h : Rd w g S l e) (ho : Only F w w') (hg : ¬ F g) (hS : ∀ b, S b → b < w.heap.size → ¬ F b) : Rd w' g S l e := by
 have hlt := h.lt
 obtain ⟨v, h1, h2, h3⟩ := h
 exact ⟨v, by rw [ho.block g hlt hg]; exact h1, h2.only ho hS, h3⟩
theorem Rd.drewN {w : World} {g : Nat} {S : Nat → Prop} {l : List UInt8} {e : Int} (h : Rd w g S l e) (n : Nat) : Rd (w.drewN n) g S l e := by
 obtain ⟨v, h1, h2, h3⟩ := h
 exact ⟨v, h1, h2.drewN n, h3⟩
theorem Only.drewN (F : Nat → Prop) (w : World) (n : Nat) : Only F w (w.drewN n) := ⟨rfl, rfl, rfl, Nat.le_refl _, fun _ _ _ => rfl⟩
theorem Rd.set_p {w : World} {g : Nat} {S : Nat → Prop} {l : List UInt8} {e : Int} {v u : Value} (h1 : w.heap[g]? = some (.cells #[v, .int .i64 e] 173 (0, 0))) (hu : Sl w S l u) (hS : ¬ S g) :
  Rd (w.setCell ⟨g, 0, none⟩ u) g S l e :=
 ⟨u, by simp [World.setCell, Array.getElem?_modify, h1], hu.only (Only.of_set w ⟨g, 0, none⟩ u) (fun b hb _ (e : b = g) => hS (e ▸ hb)), hS⟩
theorem Rd.set_bad {w : World} {g : Nat} {S : Nat → Prop} {l : List UInt8} {e e' : Int} (h : Rd w g S l e) :
  Rd (w.setCell ⟨g, 1, none⟩ (.int .i64 e')) g S l e' := by
 obtain ⟨v, h1, h2, h3⟩ := h
 exact ⟨v, by simp [World.setCell, Array.getElem?_modify, h1], h2.only (Only.of_set w ⟨g, 1, none⟩ _) (fun b hb _ (e : b = g) => h3 (e ▸ hb)), h3⟩
theorem fail_any (w : World) (g : Nat) (S : Nat → Prop) (l : List UInt8) (e0 e1 : Int) (hr : Rd w g S l e0) :
  Calls Tryd.prog 119 #[.pointer (some ⟨g, 0, none⟩), .int .i64 e1] w fun e w' => (∃ r, e = .returned r) ∧ Rd w' g S l (if e0 = 0 then e1 else e0) ∧ Only (· = g) w w' := by
 have h' := hr
 obtain ⟨v, a1, a2, a3⟩ := h'
 have c1 : w.cell? ⟨g, 1, none⟩ = some (.int .i64 e0) := by simp [World.cell?, a1]
 have f1 : w.frozen? ⟨g, 1, none⟩ = false := by simp [World.frozen?, a1]
 clear a1 a2 a3
 by_cases h0 : e0 = 0
 ·subst h0
  go_enter Tryd.func119, Tryd.ntmps119
  go_wp2_with (first | ((with_reducible apply ugZ); rfl) | ((with_reducible (first | apply len_B | apply len_BB | apply len_N | apply len_V | apply len_VV)); assumption) | ((with_reducible refine stop_if kS ?_ ?_); rfl))
  refine bodyPost_end (results_none rfl _ _ _) rfl ?_
  exact ⟨⟨_, rfl⟩, hr.set_bad, Only.of_set w ⟨g, 1, none⟩ _⟩
 ·have hb : (e0 == 0) = false := beq_eq_false_iff_ne.2 h0
  go_enter Tryd.func119, Tryd.ntmps119
  go_wp2_with (first | ((with_reducible apply ugZ); rfl) | ((with_reducible (first | apply len_B | apply len_BB | apply len_N | apply len_V | apply len_VV)); assumption) | ((with_reducible refine stop_if kS ?_ ?_); rfl))
  refine bodyPost_end (results_none rfl _ _ _) rfl ?_
  exact ⟨⟨_, rfl⟩, hr, Only.refl _ _⟩
end Go.Proofs.YtjkffjngamagkaaDoor
/- package scroll: the Reader: step, dead, Num, End, Left. -/
namespace Go.Arm
def rnum (l : List UInt8) (e : Int) (most : Nat) : Nat × List UInt8 × Int :=
 if e ≠ 0 then (0, l, e) else if (taken l most).2.2 ≠ 0 then (0, l, (taken l most).2.2) else ((taken l most).1, (taken l most).2.1, 0)
def rend (l : List UInt8) (e : Int) : Int := if e ≠ 0 then e else if 0 < l.length then 4 else 0
end Go.Arm
namespace Go.Proofs.YtjkffjngamagkaaDoor
open Go Go.RowKit Go.Arm
theorem dead_any (w : World) (g : Nat) (S : Nat → Prop) (l : List UInt8) (e0 : Int) (hr : Rd w g S l e0) :
  Calls Tryd.prog 109 #[.pointer (some ⟨g, 0, none⟩)] w fun e w' => e = .returned (.bool (e0 != 0)) ∧ w = w' := by
 obtain ⟨v, a1, a2, a3⟩ := hr
 have c1 : w.cell? ⟨g, 1, none⟩ = some (.int .i64 e0) := by simp [World.cell?, a1]
 clear a1 a2 a3
 go_enter Tryd.func109, Tryd.ntmps109
 go_wp2_with (first | ((with_reducible apply ugZ); rfl) | ((with_reducible (first | apply len_B | apply len_BB | apply len_N | apply len_V | apply len_VV)); assumption) | ((with_reducible refine stop_if kS ?_ ?_); rfl))
 go_ret
 exact ⟨rfl, rfl⟩
theorem step_any (w : World) (g : Nat) (S : Nat → Prop) (l m : List UInt8) (p : Value) (e1 : Int) (hr : Rd w g S l 0) (hp : Sl w S m p) :
  Calls Tryd.prog 111 #[.pointer (some ⟨g, 0, none⟩), p, .int .i64 e1] w fun e w' => e = .returned (.bool (e1 == 0)) ∧ Rd w' g S (if e1 = 0 then m else l) e1 ∧ Only (· = g) w w' := by
 obtain ⟨L, hL⟩ : ∃ L, L = if e1 = 0 then m else l := ⟨_, rfl⟩
 rw [← hL]
 have HL := Lib.hid hL
 clear hL
 by_cases h0 : e1 = 0
 ·subst h0
  obtain ⟨ao, nn, cap, rfl⟩ := Sl.shape hp
  have hLm : L = m := by
   have := HL.out
   rwa [if_pos rfl] at this
  subst hLm
  clear HL
  have hr' := hr
  obtain ⟨v, a1, a2, a3⟩ := hr'
  have c0 : w.cell? ⟨g, 0, none⟩ = some v := by simp [World.cell?, a1]
  have f0 : w.frozen? ⟨g, 0, none⟩ = false := by simp [World.frozen?, a1]
  have A1 := Lib.hid a1
  clear a1
  go_enter Tryd.func111, Tryd.ntmps111
  go_wp2_with (first | ((with_reducible apply ugZ); rfl) | ((with_reducible (first | apply len_B | apply len_BB | apply len_N | apply len_V | apply len_VV)); assumption) | ((with_reducible refine stop_if kS ?_ ?_); rfl))
  go_ret
  exact ⟨rfl, Rd.set_p A1.out hp a3, Only.of_set w ⟨g, 0, none⟩ _⟩
 ·have hne : (e1 != 0) = true := by simpa using h0
  have heq : (e1 == 0) = false := beq_eq_false_iff_ne.2 h0
  rw [heq]
  go_enter Tryd.func111, Tryd.ntmps111
  go_wp2_with (first | ((with_reducible apply ugZ); rfl) | ((with_reducible (first | apply len_B | apply len_BB | apply len_N | apply len_V | apply len_VV)); assumption) | ((with_reducible refine stop_if kS ?_ ?_); rfl))
  refine (fail_any w g S l 0 e1 hr).mono ?_
  rintro e w1 ⟨⟨r, rfl⟩, h1, h2⟩
  rw [if_pos rfl] at h1
  go_wp2_with (first | ((with_reducible apply ugZ); rfl) | ((with_reducible (first | apply len_B | apply len_BB | apply len_N | apply len_V | apply len_VV)); assumption) | ((with_reducible refine stop_if kS ?_ ?_); rfl))
  go_ret
  have e := HL.out
  rw [if_neg h0] at e
  rw [e]
  exact ⟨rfl, h1, h2⟩
theorem num_any' (w : World) (g : Nat) (S : Nat → Prop) (l : List UInt8) (e0 : Int) (most : Nat) (hr : Rd w g S l e0) :
  Calls Tryd.prog 89 #[.pointer (some ⟨g, 0, none⟩), .int .u64 most] w fun e w' => e = .returned (.int .u64 (rnum l e0 most).1) ∧ Rd w' g S (rnum l e0 most).2.1 (rnum l e0 most).2.2 ∧ Only (· = g) w w' := by
 obtain ⟨R, hR⟩ : ∃ R, R = rnum l e0 most := ⟨_, rfl⟩
 rw [← hR]
 unfold rnum at hR
 have HR := Lib.hid hR
 clear hR
 by_cases h0 : e0 = 0
 ·subst h0
  have hR : R = if (taken l most).2.2 ≠ 0 then (0, l, (taken l most).2.2) else ((taken l most).1, (taken l most).2.1, 0) := by
   have := HR.out
   rwa [if_neg (by decide)] at this
  have hr' := hr
  obtain ⟨v, a1, a2, a3⟩ := hr'
  have c0 : w.cell? ⟨g, 0, none⟩ = some v := by simp [World.cell?, a1]
  clear a1 HR
  obtain ⟨T, hT⟩ : ∃ T, T = taken l most := ⟨_, rfl⟩
  rw [← hT] at hR
  have HR := Lib.hid hR
  clear hR
  go_enter Tryd.func89, Tryd.ntmps89
  go_wp2_with (first | ((with_reducible apply ugZ); rfl) | ((with_reducible (first | apply len_B | apply len_BB | apply len_N | apply len_V | apply len_VV)); assumption) | ((with_reducible refine stop_if kS ?_ ?_); rfl))
  refine (dead_any w g S l 0 hr).mono ?_
  rintro e w1 ⟨rfl, rfl⟩
  rw [show ((0 : Int) != 0) = false by decide]
  go_wp2_with (first | ((with_reducible apply ugZ); rfl) | ((with_reducible (first | apply len_B | apply len_BB | apply len_N | apply len_V | apply len_VV)); assumption) | ((with_reducible refine stop_if kS ?_ ?_); rfl))
  refine (take_any w S l v most a2).mono ?_
  rintro e w1 ⟨u, nq, rfl, hu, rfl⟩
  rw [← hT] at hu ⊢
  clear hT
  go_wp2_with (first | ((with_reducible apply ugZ); rfl) | ((with_reducible (first | apply len_B | apply len_BB | apply len_N | apply len_V | apply len_VV)); assumption) | ((with_reducible refine stop_if kS ?_ ?_); rfl))
  refine (step_any (w.drewN nq) g S l T.2.1 u T.2.2 (hr.drewN nq) (hu.drewN nq)).mono ?_
  rintro e w2 ⟨rfl, h1, h2⟩
  have h2' := (Only.drewN (· = g) w nq).trans h2 (fun _ _ h => h)
  by_cases hE : T.2.2 = 0
  ·rw [hE] at h1 ⊢
   rw [if_pos rfl] at h1
   rw [show ((0 : Int) == 0) = true by decide]
   have e := HR.out
   rw [if_neg (by simpa using hE)] at e
   have HE := Lib.hid e
   clear e hE HR
   go_wp2_with (first | ((with_reducible apply ugZ); rfl) | ((with_reducible (first | apply len_B | apply len_BB | apply len_N | apply len_V | apply len_VV)); assumption) | ((with_reducible refine stop_if kS ?_ ?_); rfl))
   go_ret
   rw [HE.out]
   exact ⟨rfl, h1, h2'⟩
  ·rw [if_neg hE] at h1
   rw [show (T.2.2 == 0) = false from beq_eq_false_iff_ne.2 hE]
   have e := HR.out
   rw [if_pos hE] at e
   have HE := Lib.hid e
   clear e hE HR
   go_wp2_with (first | ((with_reducible apply ugZ); rfl) | ((with_reducible (first | apply len_B | apply len_BB | apply len_N | apply len_V | apply len_VV)); assumption) | ((with_reducible refine stop_if kS ?_ ?_); rfl))
   go_ret
   rw [HE.out]
   exact ⟨rfl, h1, h2'⟩
 ·have hR := HR.out
  rw [if_pos h0] at hR
  have HR := Lib.hid hR
  clear hR
  go_enter Tryd.func89, Tryd.ntmps89
  go_wp2_with (first | ((with_reducible apply ugZ); rfl) | ((with_reducible (first | apply len_B | apply len_BB | apply len_N | apply len_V | apply len_VV)); assumption) | ((with_reducible refine stop_if kS ?_ ?_); rfl))
  refine (dead_any w g S l e0 hr).mono ?_
  rintro e w1 ⟨rfl, rfl⟩
  rw [show (e0 != 0) = true by simpa using h0]
  go_wp2_with (first | ((with_reducible apply ugZ); rfl) | ((with_reducible (first | apply len_B | apply len_BB | apply len_N | apply len_V | apply len_VV)); assumption) | ((with_reducible refine stop_if kS ?_ ?_); rfl))
  go_ret
  rw [HR.out]
  exact ⟨rfl, hr, Only.refl _ _⟩
theorem end_any (w : World) (g : Nat) (S : Nat → Prop) (l : List UInt8) (e0 : Int) (hr : Rd w g S l e0) :
  Calls Tryd.prog 47 #[.pointer (some ⟨g, 0, none⟩)] w fun e w' => e = .returned (.int .i64 (rend l e0)) ∧ w = w' := by
 obtain ⟨R, hR⟩ : ∃ R, R = rend l e0 := ⟨_, rfl⟩
 rw [← hR]
 unfold rend at hR
 have HR := Lib.hid hR
 clear hR
 obtain ⟨v, a1, a2, a3⟩ := hr
 have c0 : w.cell? ⟨g, 0, none⟩ = some v := by simp [World.cell?, a1]
 have c1 : w.cell? ⟨g, 1, none⟩ = some (.int .i64 e0) := by simp [World.cell?, a1]
 clear a1 a3
 by_cases h0 : e0 = 0
 ·subst h0
  by_cases hl : 0 < l.length
  ·go_enter Tryd.func47, Tryd.ntmps47
   go_wp2_with (first | ((with_reducible apply ugZ); rfl) | ((with_reducible (first | apply len_B | apply len_BB | apply len_N | apply len_V | apply len_VV)); assumption) | ((with_reducible refine stop_if kS ?_ ?_); rfl))
   go_ret
   have e := HR.out
   rw [if_neg (by decide), if_pos hl] at e
   rw [e]
   exact ⟨rfl, rfl⟩
  ·go_enter Tryd.func47, Tryd.ntmps47
   go_wp2_with (first | ((with_reducible apply ugZ); rfl) | ((with_reducible (first | apply len_B | apply len_BB | apply len_N | apply len_V | apply len_VV)); assumption) | ((with_reducible refine stop_if kS ?_ ?_); rfl))
   go_ret
   have e := HR.out
   rw [if_neg (by decide), if_neg hl] at e
   rw [e]
   exact ⟨rfl, rfl⟩
 ·have hne : (e0 != 0) = true := by simpa using h0
  go_enter Tryd.func47, Tryd.ntmps47
  go_wp2_with (first | ((with_reducible apply ugZ); rfl) | ((with_reducible (first | apply len_B | apply len_BB | apply len_N | apply len_V | apply len_VV)); assumption) | ((with_reducible refine stop_if kS ?_ ?_); rfl))
  go_ret
  have e := HR.out
  rw [if_pos h0] at e
  rw [e]
  exact ⟨rfl, rfl⟩
end Go.Proofs.YtjkffjngamagkaaDoor
/- copy over a row of the call's own; v[:n:n]. -/
namespace Go.Proofs.YtjkffjngamagkaaDoor
open Go Go.RowKit Go.Arm
section
variable {ops : Array Oper} {a : Act} {w : World} {rest : List Oper}
variable {dst : Option Tmp} {ty : TypeId} {pos : String} {after : Array Edge}
theorem copy_B {Q : Exit → Act → World → Prop} {d s : Operand} {B : Nat} {S : Nat → Prop} {l z : List UInt8} (hd : OwnB w B z (a.eval d)) (hx : Sl w S l (a.eval s)) (hl : z.length = l.length)
  (h : ∀ w', OwnB w' B l (a.eval d) → w.grownBy w' (a.eval d).ownBlock → wpList Tryd.prog ops Q rest (a.put dst (.int .i64 (l.length : Int))) w') :
  wpList Tryd.prog ops Q (⟨dst, .call ⟨.builtin .copy, #[d, s], #[22, 22]⟩, ty, pos, after, none⟩ :: rest) a w := by
 obtain ⟨cs, h1, h2⟩ := hd
 rcases h2 with ⟨hv, hn, rfl⟩ | ⟨g, o, cap, cur, hv, hg, hh, hcap, hm, hs, ht⟩
 ·have hl0 : l.length = 0 := by omega
  obtain rfl : l = [] := List.eq_nil_of_length_eq_zero hl0
  obtain ⟨ht, hinfo⟩ := rowB
  obtain ⟨inf, hi, hi2⟩ := Option.map_eq_some_iff.1 hinfo
  simp only [Prod.mk.injEq] at hi2
  have hsz : (Tryd.prog.info? 5).map (·.size) = some 1 := by rw [hi]; simp [hi2.2.1]
  obtain ⟨ao, cp, cs', hsv, _⟩ := hx
  refine wpList_copy_nothing rfl d s _ _ rfl _ ht hsz none ao 0 0 0 cp hv hsv (by simp) ?_
  exact h w (by rw [hv]; exact Own.nil _ _ _ _) (World.grownBy.refl w _)
 ·have e1 : cap * Rep.sz UInt8 = cap := Nat.mul_one _
  rw [e1] at hs
  refine wpList_copyB (l := l) rowB g o cur.toList (by simpa using hh) hv hx (fun _ => rfl) (by omega) (by simp; omega) fun w' k1 k2 => ?_
  refine h w' ?_ (by rw [hv]; exact k2)
  refine ⟨l.map fun b => Value.int .u8 (b.toNat : Int), rds_u8_cells.2 rfl, .inr ⟨g, o, cap, _, by rw [hv, hl], hg, k1, by omega, hm, ?_, ?_⟩⟩
  ·rw [e1]
   have := length_splice cur.toList o (l.map fun b => Value.int .u8 (b.toNat : Int)) (by simp; omega)
   simp at this ⊢
   omega
  ·have e2 : l.length * Rep.sz UInt8 = l.length := Nat.mul_one _
   rw [e2]
   simp only [splice]
   rw [List.drop_append_of_le_length (by simp; omega), List.drop_of_length_le (by simp; omega), List.nil_append, List.take_append_of_le_length (by simp), List.take_of_length_le (by simp)]
theorem max0 {Q : Exit → Act → World → Prop} {x y : Operand} {n : Int} (hx : a.eval x = .int .i64 n) (hy : a.eval y = .int .i64 0) (h : wpList Tryd.prog ops Q rest (a.put dst (.int .i64 (n.toNat : Int))) w) :
  wpList Tryd.prog ops Q (⟨dst, .call ⟨.builtin .max, #[x, y], #[3, 3]⟩, ty, pos, after, none⟩ :: rest) a w := by
 refine wpList_plain rfl fun K hK => ?_
 have hrun := run_max_int2 (P := Tryd.prog) w #[3, 3] ty .i64 .i64 n 0
 have hm : (if 0 > n then 0 else n) = (n.toNat : Int) := by split <;> omega
 unfold Oper.wp
 simp only [BigFrame.execOp_builtin, BigFrame.builtin_max, List.map_toArray, List.map_cons, List.map_nil, hx, hy, Sem.run_bind, hrun, Result.andThen_ok, Sem.run_pure, hm]
 exact hK _ _ h
end
end Go.Proofs.YtjkffjngamagkaaDoor
/- package scroll: NewReader, Reader.Text. -/
namespace Go.Arm
end Go.Arm
namespace Go.Proofs.YtjkffjngamagkaaDoor
open Go Go.RowKit Go.Arm
theorem new_any (w : World) (S : Nat → Prop) (l : List UInt8) (p : Value) (hp : Sl w S l p) (hl : l.length ≤ 16777216) :
  Calls Tryd.prog 45 #[p] w fun e w' => ∃ g, e = .returned (.pointer (some ⟨g, 0, none⟩)) ∧ w.heap.size ≤ g ∧ Rd w' g (fun k => w.heap.size ≤ k ∧ k ≠ g) l 0 ∧ Below w.heap.size w w' := by
 go_enter Tryd.func45, Tryd.ntmps45
 go_wp2_with (first | ((with_reducible apply ugZ); rfl) | ((with_reducible (first | apply len_B | apply len_BB | apply len_N | apply len_V | apply len_VV)); assumption) | ((with_reducible refine stop_if kS ?_ ?_); rfl))
 refine Stop.go (make_B rfl rfl (by omega) fun v w1 h1 h2 => ?_)
 have hb1 := below_of_grown h2 (Nat.le_refl _) (by simp)
 have hp1 := hp.grown0 h2
 obtain ⟨ao, nn, cap, rfl⟩ := Own.shape h1
 go_wp2_with (first | ((with_reducible apply ugZ); rfl) | ((with_reducible (first | apply len_B | apply len_BB | apply len_N | apply len_V | apply len_VV)); assumption) | ((with_reducible refine stop_if kS ?_ ?_); rfl))
 refine Stop.go (copy_B h1 hp1 (by simp) fun w2 h3 h4 => ?_)
 have h3' : OwnB w2 w.heap.size l (.slice ao nn cap) := h3
 have hb2 := hb1.grown h4 hb1.size (fun k hk => (h1.ge k hk).1)
 clear h3 h4 h1 h2
 go_wp2_with (first | ((with_reducible apply ugZ); rfl) | ((with_reducible (first | apply len_B | apply len_BB | apply len_N | apply len_V | apply len_VV)); assumption) | ((with_reducible refine stop_if kS ?_ ?_); rfl))
 go_ret
 have hal : Only (fun _ => False) w2 (w2.alloc (.cells #[.slice ao nn cap, .int .i64 0] 173)) :=
  (Only.of_below ((Below.refl w2.heap.size w2).alloc (Nat.le_refl _) _)).mono fun k hk h => by omega
 refine ⟨w2.heap.size, rfl, hb2.size, ⟨_, heap_alloc_new w2 _, ?_, fun h => h.2 rfl⟩, hb2.alloc hb2.size _⟩
 have h4 := h3'.only hal (fun _ _ h => h)
 refine h4.sl (fun _ h _ => h.elim) fun b hb => ?_
 have := h3'.ge b hb
 exact ⟨this.1, by omega⟩
theorem taken_len (l : List UInt8) (m : Nat) : (taken l m).2.1.length ≤ l.length := by
 unfold taken
 split
 ·simp
 ·split
  ·simp
  ·simp
end Go.Proofs.YtjkffjngamagkaaDoor
/- package scroll: Reader.Vec. -/
namespace Go.Arm
open Go.RowKit
theorem and_one (m : Nat) (h : m < 18446744073709551616) : bits .and .u64 (m : Int) 1 = ((m % 2 : Nat) : Int) := by
 have e := (bits_of_nat .u64 rfl m 1 h (by decide)).1
 rw [show ((1 : Nat) : Int) = 1 from rfl] at e
 rw [e, Nat.and_one_is_mod]
theorem xor_i32 (x y : Int) : bits .xor .i32 x y = IntKind.i32.wrap ((BitVec.ofInt 32 x ^^^ BitVec.ofInt 32 y).toNat : Int) := rfl
theorem bxor (a : Nat) (h : a < 2147483648) : bits .xor .i32 (a : Int) 0 = (a : Int) ∧ bits .xor .i32 (a : Int) (-1) = -(a : Int) - 1 := by
 constructor
 ·rw [xor_i32, BitVec.ofInt_natCast, show BitVec.ofInt 32 0 = 0#32 by decide, BitVec.xor_zero, BitVec.toNat_ofNat]
  simp [IntKind.wrap, IntKind.signed, IntKind.bits]
  omega
 ·rw [xor_i32, BitVec.ofInt_natCast, show (BitVec.ofInt 32 (-1)) = BitVec.allOnes 32 by decide, BitVec.xor_allOnes, BitVec.toNat_not, BitVec.toNat_ofNat]
  simp [IntKind.wrap, IntKind.signed, IntKind.bits]
  omega
def unzig (u : Nat) : Int := if u % 2 = 0 then (u / 2 : Nat) else -(u / 2 : Nat) - 1
theorem unzig_lt (u : Nat) (h : u < 4294967296) : -2147483648 ≤ unzig u ∧ unzig u < 2147483648 := by unfold unzig; split <;> omega
theorem zag_code (m : Nat) (h : m < 18446744073709551616) :
  bits .xor .i32 ((m : Int) % 4294967296 / 2) (wrap32 (-wrap32 (bits .and .u64 (m : Int) 1))) = (Int32.ofInt (unzig (m % 4294967296))).toInt := by
 rw [and_one m h]
 have hb := unzig_lt (m % 4294967296) (Nat.mod_lt _ (by decide))
 rw [Int32.toInt_ofInt_of_le hb.1 hb.2]
 have hx : (m : Int) % 4294967296 / 2 = ((m % 4294967296 / 2 : Nat) : Int) := by omega
 have hl : m % 4294967296 / 2 < 2147483648 := by omega
 rw [hx]
 have hbx := bxor _ hl
 rcases Nat.mod_two_eq_zero_or_one m with e | e
 ·rw [e, show wrap32 (-wrap32 ((0 : Nat) : Int)) = 0 by simp [wrap32], hbx.1, unzig, if_pos (by omega)]
 ·rw [e, show wrap32 (-wrap32 ((1 : Nat) : Int)) = -1 by simp [wrap32], hbx.2, unzig, if_neg (by omega)]
theorem zag_code' (m : Nat) (h : m ≤ 4294967295) :
  bits .xor .i32 ((m : Int) / 2) (wrap32 (-wrap32 (bits .and .u64 (m : Int) 1))) = (Int32.ofInt (unzig m)).toInt := by
 have e := zag_code m (by omega)
 rw [Nat.mod_eq_of_lt (by omega), show ((m : Int) % 4294967296) = (m : Int) by omega] at e
 exact e
def rvec : Nat → List UInt8 → List Int32 × List UInt8 × Int
 | 0, l => ([], l, 0)
 | n + 1, l =>
  if (taken l 18446744073709551615).2.2 ≠ 0 then ([], [], (taken l 18446744073709551615).2.2)
  else if 4294967295 < (taken l 18446744073709551615).1 then ([], [], 4)
  else
   let r := rvec n (taken l 18446744073709551615).2.1
   (Int32.ofInt (unzig (taken l 18446744073709551615).1) :: r.1, r.2)
def rvecs (l : List UInt8) (e : Int) (most : Nat) : List Int32 × List UInt8 × Int :=
 if e ≠ 0 then ([], l, e) else if (taken l most).2.2 ≠ 0 then ([], l, (taken l most).2.2)
 else if (rvec (taken l most).1 (taken l most).2.1).2.2 ≠ 0 then ([], l, (rvec (taken l most).1 (taken l most).2.1).2.2)
 else rvec (taken l most).1 (taken l most).2.1
end Go.Arm
namespace Go.Proofs.YtjkffjngamagkaaDoor
open Go Go.RowKit Go.Arm
theorem rds_V2 {w w' : World} {S S' : Nat → Prop} : ∀ {l : List Int32} {cs : List Value}, rds w S l cs → rds w' S' l cs
 | [], _, h => h
 | _ :: _, _, h => by
  obtain ⟨c, d, rfl, h1, h2⟩ := h
  exact ⟨c, d, rfl, h1, rds_V2 h2⟩
theorem app_V {ops : Array Oper} {a : Act} {w : World} {rest : List Oper} {dst : Option Tmp} {ty : TypeId} {pos : String} {after : Array Edge} {Q : Exit → Act → World → Prop} {s x : Operand} {B : Nat} {S : Nat → Prop} {l m : List Int32} (hs : Own w B 21 (fun _ => False) l (a.eval s)) (hx : Sl w S m (a.eval x))
  (hl : l.length + m.length ≤ 35184372088832) (hB : B ≤ w.heap.size)
  (h : ∀ v' w', Own w' B 21 (fun _ => False) (l ++ m) v' → w.grownBy w' (a.eval s).ownBlock → (v'.ownBlock = (a.eval s).ownBlock ∨ ∃ g, v'.ownBlock = some g ∧ w.heap.size ≤ g) → wpList Tryd.prog ops Q rest (a.put dst v') w') :
  wpList Tryd.prog ops Q (⟨dst, .call ⟨.builtin .append, #[s, x], #[30, 30]⟩, ty, pos, after, none⟩ :: rest) a w :=
 wpList_append rowV rfl (by decide) hs hx (fun _ _ h => rds_V2 h) (fun _ h => h.elim) (by simp only [maxLen]; omega) (by omega) hB h
theorem Own.drewN {α : Type} [Rep α] {w : World} {B : Nat} {e : TypeId} {S : Nat → Prop} {l : List α} {v : Value} (h : Own w B e S l v) (n : Nat) : Own (w.drewN n) B e S l v := h.keep (fun _ hb _ => ⟨rfl, hb⟩) fun _ _ => rfl
theorem taken_num (l : List UInt8) (m : Nat) (h : m < 18446744073709551616) : (taken l m).1 < 18446744073709551616 := by
 unfold taken
 split
 ·simp
 ·split
  ·simp
  ·simp; omega
theorem peekGo_pos : ∀ (l : List UInt8) (i acc : Nat), (peekGo l i acc).2.2 = 0 → i < (peekGo l i acc).2.1
 | [], i, acc => by simp [peekGo]
 | b :: l, i, acc => by
  have ih := peekGo_pos l (i + 1) (acc + 128 ^ i * (b.toNat - 128))
  rw [peekGo]
  split
  ·simp
  ·split
   ·split <;> simp
   ·intro h
    have := ih h
    omega
theorem taken_lt (l : List UInt8) (m : Nat) (h : (taken l m).2.2 = 0) : (taken l m).2.1.length < l.length := by
 unfold taken at h ⊢
 by_cases h1 : (peek l).2.2 = 0
 ·rw [if_neg (by simpa using h1)] at h ⊢
  have h2 := peekGo_pos l 0 0 h1
  have h3 := peek_size l
  split
  ·rw [if_pos (by assumption)] at h
   simp at h
  ·have h4 : 0 < (peek l).2.1 := h2
   simp only [List.length_drop]
   omega
 ·rw [if_pos h1] at h
  exact absurd h h1
set_option maxRecDepth 100000 in
theorem vec_any (w : World) (g : Nat) (S : Nat → Prop) (l : List UInt8) (e0 : Int) (most : Int) (hr : Rd w g S l e0) (hm : most < 9223372036854775808) (hl : l.length ≤ 1000000000) :
  Calls Tryd.prog 91 #[.pointer (some ⟨g, 0, none⟩), .int .i64 most] w fun e w' => ∃ v, e = .returned v ∧ Own w' w.heap.size 21 (fun _ => False) (rvecs l e0 most.toNat).1 v ∧ Rd w' g S (rvecs l e0 most.toNat).2.1 (rvecs l e0 most.toNat).2.2 ∧ Only (· = g) w w' := by
 obtain ⟨R, hR⟩ : ∃ R, R = rvecs l e0 most.toNat := ⟨_, rfl⟩
 rw [← hR]
 unfold rvecs at hR
 have HR := Lib.hid hR
 clear hR
 by_cases h0 : e0 = 0
 ·subst h0
  have hR := HR.out
  rw [if_neg (by decide)] at hR
  have hr' := hr
  obtain ⟨v, a1, a2, a3⟩ := hr'
  have c0 : w.cell? ⟨g, 0, none⟩ = some v := by simp [World.cell?, a1]
  clear a1 HR
  obtain ⟨T, hT⟩ : ∃ T, T = taken l most.toNat := ⟨_, rfl⟩
  rw [← hT] at hR
  have HR := Lib.hid hR
  clear hR
  go_enter Tryd.func91, Tryd.ntmps91
  go_wp2_with (first | ((with_reducible apply ugZ); rfl) | ((with_reducible (first | apply len_B | apply len_BB | apply len_N | apply len_V | apply len_VV)); assumption) | ((with_reducible refine stop_if kS ?_ ?_); rfl))
  refine (dead_any w g S l 0 hr).mono ?_
  rintro e w1 ⟨rfl, rfl⟩
  rw [show ((0 : Int) != 0) = false by decide]
  go_wp2_with (first | ((with_reducible apply ugZ); rfl) | ((with_reducible (first | apply len_B | apply len_BB | apply len_N | apply len_V | apply len_VV)); assumption) | ((with_reducible refine stop_if kS ?_ ?_); rfl))
  refine Stop.go (max0 rfl rfl ?_)
  obtain ⟨M, hM⟩ : ∃ M, M = most.toNat := ⟨_, rfl⟩
  have hMl : M < 9223372036854775808 := by omega
  rw [← hM] at hT ⊢
  have HM := Lib.hid hM
  clear hM
  go_wp2_with (first | ((with_reducible apply ugZ); rfl) | ((with_reducible (first | apply len_B | apply len_BB | apply len_N | apply len_V | apply len_VV)); assumption) | ((with_reducible refine stop_if kS ?_ ?_); rfl))
  refine (take_any w S l v M a2).mono ?_
  rintro e w1 ⟨u, nq, rfl, hu, rfl⟩
  rw [← hT] at hu ⊢
  have hTl : T.2.1.length ≤ l.length := by rw [hT]; exact taken_len l M
  have hTn : T.1 < 18446744073709551616 := by rw [hT]; exact taken_num l M (by omega)
  have hu1 := hu.drewN nq
  have hr1 := hr.drewN nq
  have ho1 := Only.drewN (· = g) w nq
  clear hT hu hr c0 a2
  generalize w.drewN nq = w1 at *
  have hsz := ho1.size
  have HO1 := Lib.hid ho1
  clear ho1
  obtain ⟨RV, hRV⟩ : ∃ RV, RV = if T.2.2 ≠ 0 then ([], [], T.2.2) else rvec T.1 T.2.1 := ⟨_, rfl⟩
  have HRR : Hid (R = if RV.2.2 ≠ 0 then ([], l, RV.2.2) else RV) := by
   refine Lib.hid ?_
   have e := HR.out
   by_cases h : T.2.2 = 0
   ·rw [if_neg (by simpa using h)] at e hRV
    rw [hRV]; exact e
   ·rw [if_pos h] at e hRV
    rw [hRV, if_pos h]; exact e
  have hst0 : (T.2.2 = 0 ∧ RV = ([] ++ (rvec (T.1 - 0) T.2.1).1, (rvec (T.1 - 0) T.2.1).2)) ∨ (T.2.2 ≠ 0 ∧ RV.2.2 = T.2.2) := by
   by_cases h : T.2.2 = 0
   ·rw [if_neg (by simpa using h)] at hRV
    exact .inl ⟨h, by rw [hRV]; simp⟩
   ·rw [if_pos h] at hRV
    exact .inr ⟨h, by rw [hRV]⟩
  clear HR hRV
  have Hst0 := Lib.hid hst0
  clear hst0
  have hu1' : Sl w1 (fun b => S b ∧ b < w1.heap.size) T.2.1 u := hu1.wide fun b h1 h2 => ⟨h1, h2⟩
  clear hu1
  go_wp2_with (first | ((with_reducible apply ugZ); rfl) | ((with_reducible (first | apply len_B | apply len_BB | apply len_N | apply len_V | apply len_VV)); assumption) | ((with_reducible refine stop_if kS ?_ ?_); rfl))
  go_loopg [6, 7, 8, 9, 10] (T.1 + 1) (fun k r e o i x wr => ∃ (j : Nat) (L : List UInt8) (E : Int) (D : List Int32), k = T.1 - j + 1 ∧ j ≤ T.1 ∧ Sl wr (fun b => S b ∧ b < w1.heap.size) L r ∧ e = .int .i64 E ∧ i = .int .u64 j ∧ Own wr w1.heap.size 21 (fun _ => False) D o ∧ Below w1.heap.size w1 wr
   ∧ D.length + L.length ≤ l.length + 1 ∧ (E = 0 → D.length + L.length ≤ l.length) ∧ ((E = 0 ∧ RV = (D ++ (rvec (T.1 - j) L).1, (rvec (T.1 - j) L).2)) ∨ (E ≠ 0 ∧ RV.2.2 = E)))
  case atStart => exact ⟨0, T.2.1, T.2.2, [], rfl, by omega, hu1', rfl, rfl, Own.nil _ _ _ _, Below.refl _ _, by simp; omega, fun _ => by simpa using hTl, Hst0.out⟩
  case round =>
   obtain ⟨j, L, E, D, hk, hj, hL, rfl, rfl, ho, hb, hlen, hlen0, hst⟩ := hrel
   have Hst := Lib.hid hst
   clear hst
   by_cases hE : E = 0
   ·subst hE
    by_cases hlt : j < T.1
    ·go_wp2_with (first | ((with_reducible apply ugZ); rfl) | ((with_reducible (first | apply len_B | apply len_BB | apply len_N | apply len_V | apply len_VV)); assumption) | ((with_reducible refine stop_if kS ?_ ?_); rfl))
     refine (take_any wr _ L _ 18446744073709551615 hL).mono ?_
     rintro e w2 ⟨u2, nq2, rfl, hu2, rfl⟩
     obtain ⟨U, hU⟩ : ∃ U, U = taken L 18446744073709551615 := ⟨_, rfl⟩
     rw [← hU] at hu2 ⊢
     have hul : U.1 < 18446744073709551616 := by rw [hU]; exact taken_num _ _ (by decide)
     have hlt2 : U.2.2 = 0 → U.2.1.length < L.length := by rw [hU]; exact taken_lt L _
     have hle2 : U.2.1.length ≤ L.length := by rw [hU]; exact taken_len L _
     have hrv : rvec (T.1 - j) L = if U.2.2 ≠ 0 then ([], [], U.2.2) else if 4294967295 < U.1 then ([], [], 4) else (Int32.ofInt (unzig U.1) :: (rvec (T.1 - (j + 1)) U.2.1).1, (rvec (T.1 - (j + 1)) U.2.1).2) := by
      rw [show T.1 - j = T.1 - (j + 1) + 1 by omega, rvec, ← hU]
     have Hrv := Lib.hid hrv
     have HU := Lib.hid hU
     clear hrv hU
     by_cases hE2 : U.2.2 = 0
     ·by_cases hbig : 4294967295 < U.1
      ·have hbig' : (4294967295 : Int) < (U.1 : Int) := by omega
       go_wp2_with (first | ((with_reducible apply ugZ); rfl) | ((with_reducible (first | apply len_B | apply len_BB | apply len_N | apply len_V | apply len_VV)); assumption) | ((with_reducible refine stop_if kS ?_ ?_); rfl))
       rw [zag_code _ hul]
       obtain ⟨c, hc⟩ : ∃ c, c = Int32.ofInt (unzig (U.1 % 4294967296)) := ⟨_, rfl⟩
       rw [← hc]
       have HC := Lib.hid hc
       clear hc
       refine Stop.go (build_V (S := fun _ => False) ([c] : List Int32) [_] rfl rfl rds_V (by simp) fun q w3 k1 k2 k3 k4 => ?_)
       have hbd : Below w1.heap.size w1 (wr.drewN nq2) := ⟨hb.os, hb.tape, hb.output, hb.size, hb.block⟩
       have ho3 := (Own.drewN ho nq2).grown0 k2
       have hb3 : Below w1.heap.size w1 w3 := hbd.grown k2 hbd.size (by simp)
       have hL3 := (hu2.drewN nq2).grown0 k2
       clear k2 k3 k4
       go_wp2_with (first | ((with_reducible apply ugZ); rfl) | ((with_reducible (first | apply len_B | apply len_BB | apply len_N | apply len_V | apply len_VV)); assumption) | ((with_reducible refine stop_if kS ?_ ?_); rfl))
       refine Stop.go (app_V ho3 k1.sl' (by simp; omega) hb3.size fun v' w4 g1 g2 g3 => ?_)
       have hb4 := hb3.grown g2 hb3.size (fun k hk => (ho3.ge k hk).1)
       have hL4 := hL3.grown g2 (fun b hb e => by have e : u8.ownBlock = some b := e; have := (ho3.ge b e).1; have := hb.2; omega)
       clear g2 g3 k1 ho3 hL3 hb3
       go_wp2_with (first | ((with_reducible apply ugZ); rfl) | ((with_reducible (first | apply len_B | apply len_BB | apply len_N | apply len_V | apply len_VV)); assumption) | ((with_reducible refine stop_if kS ?_ ?_); rfl))
       go_roundg (T.1 - (j + 1) + 1)
       case measure => omega
       case rel =>
        have e1 := Hst.out
        have e2 := Hrv.out
        rw [if_neg (by simpa using hE2), if_pos hbig] at e2
        rw [e2] at e1
        have e3 : RV.2.2 = 4 := by
         rcases e1 with ⟨_, e1⟩ | ⟨e1, _⟩
         ·rw [e1]
         ·exact absurd rfl e1
        exact ⟨j + 1, U.2.1, 4, D ++ [c], rfl, by omega, hL4, rfl, by go_num, g1, hb4, by have := hlt2 hE2; simp; omega, (fun h => absurd h (by decide)), .inr ⟨by decide, e3⟩⟩
      ·have hbig' : ¬ (4294967295 : Int) < (U.1 : Int) := by omega
       go_wp2_with (first | ((with_reducible apply ugZ); rfl) | ((with_reducible (first | apply len_B | apply len_BB | apply len_N | apply len_V | apply len_VV)); assumption) | ((with_reducible refine stop_if kS ?_ ?_); rfl))
       rw [zag_code' _ (by omega)]
       obtain ⟨c, hc⟩ : ∃ c, c = Int32.ofInt (unzig U.1) := ⟨_, rfl⟩
       rw [← hc]
       have HC := Lib.hid hc
       clear hc
       refine Stop.go (build_V (S := fun _ => False) ([c] : List Int32) [_] rfl rfl rds_V (by simp) fun q w3 k1 k2 k3 k4 => ?_)
       have hbd : Below w1.heap.size w1 (wr.drewN nq2) := ⟨hb.os, hb.tape, hb.output, hb.size, hb.block⟩
       have ho3 := (Own.drewN ho nq2).grown0 k2
       have hb3 : Below w1.heap.size w1 w3 := hbd.grown k2 hbd.size (by simp)
       have hL3 := (hu2.drewN nq2).grown0 k2
       clear k2 k3 k4
       go_wp2_with (first | ((with_reducible apply ugZ); rfl) | ((with_reducible (first | apply len_B | apply len_BB | apply len_N | apply len_V | apply len_VV)); assumption) | ((with_reducible refine stop_if kS ?_ ?_); rfl))
       refine Stop.go (app_V ho3 k1.sl' (by simp; omega) hb3.size fun v' w4 g1 g2 g3 => ?_)
       have hb4 := hb3.grown g2 hb3.size (fun k hk => (ho3.ge k hk).1)
       have hL4 := hL3.grown g2 (fun b hb e => by have e : u8.ownBlock = some b := e; have := (ho3.ge b e).1; have := hb.2; omega)
       clear g2 g3 k1 ho3 hL3 hb3
       go_wp2_with (first | ((with_reducible apply ugZ); rfl) | ((with_reducible (first | apply len_B | apply len_BB | apply len_N | apply len_V | apply len_VV)); assumption) | ((with_reducible refine stop_if kS ?_ ?_); rfl))
       go_roundg (T.1 - (j + 1) + 1)
       case measure => omega
       case rel =>
        have e1 := Hst.out
        have e2 := Hrv.out
        rw [if_neg (by simpa using hE2), if_neg hbig, ← HC.out] at e2
        rw [e2] at e1
        have e3 : RV = (D ++ [c] ++ (rvec (T.1 - (j + 1)) U.2.1).1, (rvec (T.1 - (j + 1)) U.2.1).2) := by
         rcases e1 with ⟨_, e1⟩ | ⟨e1, _⟩
         ·rw [e1]; simp
         ·exact absurd rfl e1
        exact ⟨j + 1, U.2.1, 0, D ++ [c], rfl, by omega, hL4, rfl, by go_num, g1, hb4, by have := hlt2 hE2; simp; omega, (fun _ => by have := hlt2 hE2; have := hlen0 trivial; simp; omega), .inl ⟨rfl, e3⟩⟩
     ·have hne2 : (U.2.2 == 0) = false := beq_eq_false_iff_ne.2 hE2
      go_wp2_with (first | ((with_reducible apply ugZ); rfl) | ((with_reducible (first | apply len_B | apply len_BB | apply len_N | apply len_V | apply len_VV)); assumption) | ((with_reducible refine stop_if kS ?_ ?_); rfl))
      rw [zag_code _ hul]
      obtain ⟨c, hc⟩ : ∃ c, c = Int32.ofInt (unzig (U.1 % 4294967296)) := ⟨_, rfl⟩
      rw [← hc]
      have HC := Lib.hid hc
      clear hc
      refine Stop.go (build_V (S := fun _ => False) ([c] : List Int32) [_] rfl rfl rds_V (by simp) fun q w3 k1 k2 k3 k4 => ?_)
      have hbd : Below w1.heap.size w1 (wr.drewN nq2) := ⟨hb.os, hb.tape, hb.output, hb.size, hb.block⟩
      have ho3 := (Own.drewN ho nq2).grown0 k2
      have hb3 : Below w1.heap.size w1 w3 := hbd.grown k2 hbd.size (by simp)
      have hL3 := (hu2.drewN nq2).grown0 k2
      clear k2 k3 k4
      go_wp2_with (first | ((with_reducible apply ugZ); rfl) | ((with_reducible (first | apply len_B | apply len_BB | apply len_N | apply len_V | apply len_VV)); assumption) | ((with_reducible refine stop_if kS ?_ ?_); rfl))
      refine Stop.go (app_V ho3 k1.sl' (by simp; omega) hb3.size fun v' w4 g1 g2 g3 => ?_)
      have hb4 := hb3.grown g2 hb3.size (fun k hk => (ho3.ge k hk).1)
      have hL4 := hL3.grown g2 (fun b hb e => by have e : u8.ownBlock = some b := e; have := (ho3.ge b e).1; have := hb.2; omega)
      clear g2 g3 k1 ho3 hL3 hb3
      go_wp2_with (first | ((with_reducible apply ugZ); rfl) | ((with_reducible (first | apply len_B | apply len_BB | apply len_N | apply len_V | apply len_VV)); assumption) | ((with_reducible refine stop_if kS ?_ ?_); rfl))
      go_roundg (T.1 - (j + 1) + 1)
      case measure => omega
      case rel =>
       have e1 := Hst.out
       have e2 := Hrv.out
       rw [if_pos hE2] at e2
       rw [e2] at e1
       have e3 : RV.2.2 = U.2.2 := by
        rcases e1 with ⟨_, e1⟩ | ⟨e1, _⟩
        ·rw [e1]
        ·exact absurd rfl e1
       exact ⟨j + 1, U.2.1, U.2.2, D ++ [c], rfl, by omega, hL4, rfl, by go_num, g1, hb4, by have := hlen0 trivial; simp; omega, (fun h => absurd h hE2), .inr ⟨hE2, e3⟩⟩
    ·have hrr := hr1.only (Only.of_below hb) (by have := hr1.lt; omega) (fun b _ hlt => by omega)
     go_wp2_with (first | ((with_reducible apply ugZ); rfl) | ((with_reducible (first | apply len_B | apply len_BB | apply len_N | apply len_V | apply len_VV)); assumption) | ((with_reducible refine stop_if kS ?_ ?_); rfl))
     refine (step_any wr g S l L u6 0 hrr (hL.wide fun b h _ => h.1)).mono ?_
     rintro e w2 ⟨rfl, h1, h2⟩
     rw [if_pos rfl] at h1
     rw [show ((0 : Int) == 0) = true by decide]
     have ho2 := ho.only h2 (fun b hb (e : b = g) => by have := (ho.ge b hb).1; have := hr1.lt; omega)
     have HO2 := Lib.hid ((HO1.out.trans (Only.of_below hb) (fun k hk h => by omega)).trans h2 (fun _ _ h => h))
     clear h2
     go_wp2_with (first | ((with_reducible apply ugZ); rfl) | ((with_reducible (first | apply len_B | apply len_BB | apply len_N | apply len_V | apply len_VV)); assumption) | ((with_reducible refine stop_if kS ?_ ?_); rfl))
     go_ret
     obtain rfl : j = T.1 := by omega
     have e1 : RV = (D, L, 0) := by
      rcases Hst.out with ⟨_, e1⟩ | ⟨e1, _⟩
      ·rw [e1, Nat.sub_self, rvec]; simp
      ·exact absurd rfl e1
     have e2 := HRR.out
     rw [e1, if_neg (by simp)] at e2
     rw [e2]
     exact ⟨_, rfl, ho2.rebase fun b hb => by have := (ho.ge b hb).1; omega, h1, HO2.out⟩
   ·have hne : (E == 0) = false := beq_eq_false_iff_ne.2 hE
    have hrr := hr1.only (Only.of_below hb) (by have := hr1.lt; omega) (fun b _ hlt => by omega)
    go_wp2_with (first | ((with_reducible apply ugZ); rfl) | ((with_reducible (first | apply len_B | apply len_BB | apply len_N | apply len_V | apply len_VV)); assumption) | ((with_reducible refine stop_if kS ?_ ?_); rfl))
    refine (step_any wr g S l L u6 E hrr (hL.wide fun b h _ => h.1)).mono ?_
    rintro e w2 ⟨rfl, h1, h2⟩
    rw [if_neg hE] at h1
    rw [hne]
    have ho2 := ho.only h2 (fun b hb (e : b = g) => by have := (ho.ge b hb).1; have := hr1.lt; omega)
    have HO2 := Lib.hid ((HO1.out.trans (Only.of_below hb) (fun k hk h => by omega)).trans h2 (fun _ _ h => h))
    clear h2
    go_wp2_with (first | ((with_reducible apply ugZ); rfl) | ((with_reducible (first | apply len_B | apply len_BB | apply len_N | apply len_V | apply len_VV)); assumption) | ((with_reducible refine stop_if kS ?_ ?_); rfl))
    go_ret
    have e1 : RV.2.2 = E := by
     rcases Hst.out with ⟨e1, _⟩ | ⟨_, e1⟩
     ·exact absurd e1 hE
     ·exact e1
    have e2 := HRR.out
    rw [e1, if_pos hE] at e2
    rw [e2]
    exact ⟨_, rfl, Own.nil _ _ _ _, h1, HO2.out⟩
 ·have hR := HR.out
  rw [if_pos h0] at hR
  have HR := Lib.hid hR
  clear hR
  go_enter Tryd.func91, Tryd.ntmps91
  go_wp2_with (first | ((with_reducible apply ugZ); rfl) | ((with_reducible (first | apply len_B | apply len_BB | apply len_N | apply len_V | apply len_VV)); assumption) | ((with_reducible refine stop_if kS ?_ ?_); rfl))
  refine (dead_any w g S l e0 hr).mono ?_
  rintro e w1 ⟨rfl, rfl⟩
  rw [show (e0 != 0) = true by simpa using h0]
  go_wp2_with (first | ((with_reducible apply ugZ); rfl) | ((with_reducible (first | apply len_B | apply len_BB | apply len_N | apply len_V | apply len_VV)); assumption) | ((with_reducible refine stop_if kS ?_ ?_); rfl))
  go_ret
  rw [HR.out]
  exact ⟨_, rfl, Own.nil _ _ _ _, hr, Only.refl _ _⟩
end Go.Proofs.YtjkffjngamagkaaDoor
/- armillaryref02: CutVec, SameVec. -/
namespace Go.Arm
open Go.RowKit
theorem Sl.index_run1 {α : Type} [Rep α] {P : Program} {w : World} {t e : TypeId} {z : Value} {bytes : Nat} {S : Nat → Prop} {l : List α} {v : Value} (hx : Sl w S l v) (hr : Row P t e z 1 bytes) (h1 : Rep.sz α = 1)
  (k : IntKind) (n : Int) (h0 : 0 ≤ n) (hn : n < l.length) :
  ∃ b o y u, l[n.toNat]? = some y ∧ Rep.rd w S y [u] ∧ (∀ w', (Instr.indexAt t v (.int k n)).run P w' = .ok (.pointer (some ⟨b, o, none⟩)) w') ∧ w.cell? ⟨b, o, none⟩ = some u := by
 obtain ⟨ao, cap, cs, rfl, hcap, _, hnone, hcs, _, hloc⟩ := hx
 have he : P.elem t = e := by simp [Program.elem, hr.1]
 have hlt : n.toNat < l.length := by omega
 obtain ⟨y, hy⟩ : ∃ y, l[n.toNat]? = some y := ⟨_, List.getElem?_eq_getElem hlt⟩
 obtain ⟨c, hc1, hc2⟩ := rds_get n.toNat hcs hy
 have hlen := Rep.len hc1
 rw [h1] at hlen
 obtain ⟨u, rfl⟩ : ∃ u, c = [u] := by
  match c, hlen with
  | [u], _ => exact ⟨u, rfl⟩
 have hcu := hc2 0 u rfl
 rw [h1, Nat.mul_one, Nat.add_zero] at hcu
 cases ao with
 | none => have := hnone rfl; omega
 | some ad =>
  have hcell := hloc ad rfl n.toNat u hcu
  have hspot : ∃ b o, ad.add n.toNat = ⟨b, o, none⟩ := by
   generalize ad.add n.toNat = q at hcell
   obtain ⟨b, o, sp⟩ := q
   cases sp with
   | none => exact ⟨b, o, rfl⟩
   | some s =>
    exfalso
    unfold World.cell? at hcell
    split at hcell <;> simp at hcell
  obtain ⟨b, o, hq⟩ := hspot
  rw [hq] at hcell
  refine ⟨b, o, _, _, hy, hc1, fun w' => ?_, hcell⟩
  have hrun := run_indexAt_slice (P := P) w' t ad l.length cap k n (by rw [he]; exact hr.1)
  rw [if_pos ⟨h0, hn⟩, he, run_sizeOf_row hr] at hrun
  simp only [Result.andThen, Nat.mul_one, hq] at hrun
  exact hrun
end Go.Arm
namespace Go.Proofs.YtjkffjngamagkaaDoor
open Go Go.RowKit Go.Arm
theorem cutvec_any (w : World) (S : Nat → Prop) (l : List Int32) (p : Value) (n : Int) (hp : Sl w S l p) (hn : 0 ≤ n) (hn2 : n ≤ 1000000) :
  Calls Tryd.prog 67 #[p, .int .i64 n] w fun e w' => ∃ v, e = .returned v ∧ Own w' w.heap.size 21 (fun _ => False) (l.take n.toNat) v ∧ Below w.heap.size w w' := by
 have hl : l.length ≤ 9223372036854775807 := hp.length_le
 go_enter Tryd.func67, Tryd.ntmps67
 go_wp2_with (first | ((with_reducible apply ugZ); rfl) | ((with_reducible (first | apply len_B | apply len_BB | apply len_N | apply len_V | apply len_VV)); assumption) | ((with_reducible refine stop_if kS ?_ ?_); rfl))
 refine Stop.go (build_V (S := fun _ => False) ([] : List Int32) [] rfl rfl rds_V (by simp) fun v w1 hv1 k2 k3 k4 => ?_)
 have hb0 := below_of_grown k2 (Nat.le_refl _) (by simp)
 have hp1 := hp.grown0 k2
 go_wp2_with (first | ((with_reducible apply ugZ); rfl) | ((with_reducible (first | apply len_B | apply len_BB | apply len_N | apply len_V | apply len_VV)); assumption) | ((with_reducible refine stop_if kS ?_ ?_); rfl))
 refine Stop.go (min2 rfl rfl ?_)
 go_wp2_with (first | ((with_reducible apply ugZ); rfl) | ((with_reducible (first | apply len_B | apply len_BB | apply len_N | apply len_V | apply len_VV)); assumption) | ((with_reducible refine stop_if kS ?_ ?_); rfl))
 refine Stop.go (wpList_slice_h rowV hp1 rfl (by omega) (by omega) fun u hu => ?_)
 go_wp2_with (first | ((with_reducible apply ugZ); rfl) | ((with_reducible (first | apply len_B | apply len_BB | apply len_N | apply len_V | apply len_VV)); assumption) | ((with_reducible refine stop_if kS ?_ ?_); rfl))
 refine Stop.go (app_V (l := []) hv1 hu (by simp; omega) hb0.size fun v' w2 h1 h2 h3 => ?_)
 have hb1 := hb0.grown h2 hb0.size (fun k hk => (hv1.ge k hk).1)
 go_wp2_with (first | ((with_reducible apply ugZ); rfl) | ((with_reducible (first | apply len_B | apply len_BB | apply len_N | apply len_V | apply len_VV)); assumption) | ((with_reducible refine stop_if kS ?_ ?_); rfl))
 go_ret
 refine ⟨v', rfl, ?_, hb1⟩
 have e : l.take (min (l.length : Int) n).toNat = l.take n.toNat := by
  rw [List.take_eq_take_iff]; omega
 rw [e] at h1
 simpa using h1
theorem same_take (l m : List Int32) (j : Nat) (h : l.length = m.length) (hj : l.length ≤ j) (he : l.take j = m.take j) : l = m := by
 rwa [List.take_of_length_le hj, List.take_of_length_le (by omega)] at he
theorem drewN_twice (w : World) (n : Nat) : ∀ k, (w.drewN n).drewN k = w.drewN (n + k)
 | 0 => rfl
 | k + 1 => by
  have := drewN_twice w n k
  show ((w.drewN n).drewN k).drew = (w.drewN (n + k)).drew
  rw [this]
theorem samevec_any (w : World) (S S' : Nat → Prop) (l m : List Int32) (p q : Value) (hp : Sl w S l p) (hq : Sl w S' m q) :
  Calls Tryd.prog 54 #[p, q] w fun e w' => ∃ nq, e = .returned (.bool (l == m)) ∧ w' = w.drewN nq := by
 have hll : l.length ≤ 9223372036854775807 := hp.length_le
 by_cases hlen : l.length = m.length
 ·obtain ⟨R, hR⟩ : ∃ R, R = (l == m) := ⟨_, rfl⟩
  rw [← hR]
  have HR := Lib.hid hR
  clear hR
  have hne : ((l.length : Int) != (m.length : Int)) = false := by simp [hlen]
  have Hlen := Lib.hid hlen
  clear hlen
  go_enter Tryd.func54, Tryd.ntmps54
  go_wp2_with (first | ((with_reducible apply ugZ); rfl) | ((with_reducible (first | apply len_B | apply len_BB | apply len_N | apply len_V | apply len_VV)); assumption) | ((with_reducible refine stop_if kS ?_ ?_); rfl))
  go_loopg [5, 13] (l.length + 1) (fun k x i wr => ∃ (j n : Nat), k = l.length - j + 1 ∧ j ≤ l.length ∧ i = .int .i64 j ∧ wr = w.drewN n ∧ l.take j = m.take j)
  case atStart => exact ⟨0, 0, by omega, by omega, rfl, rfl, by simp⟩
  case round =>
   obtain ⟨j, n, hk, hj, rfl, hwr, htk⟩ := hrel
   have hp' : Sl wr S l p := by rw [hwr]; exact hp.drewN n
   have hq' : Sl wr S' m q := by rw [hwr]; exact hq.drewN n
   have Hwr := Lib.hid hwr
   clear hwr
   have Hk := Lib.hid hk
   have Htk := Lib.hid htk
   clear hk htk
   by_cases hlt : j < l.length
   ·have hjm : j < m.length := by rw [← Hlen.out]; exact hlt
    obtain ⟨b1, o1, y1, x1, hy1, hr1, hx1, hc1⟩ := hp'.index_run1 (P := Tryd.prog) rowV rfl .i64 j (by omega) (by omega)
    obtain ⟨b3, o3, y3, x3, hy3, hr3, hx3, hc3⟩ := hq'.index_run1 (P := Tryd.prog) rowV rfl .i64 j (by omega) (by omega)
    have e1 : [x1] = [Value.int .i32 y1.toInt] := hr1
    have e3 : [x3] = [Value.int .i32 y3.toInt] := hr3
    simp only [List.cons.injEq, and_true] at e1 e3
    subst e1
    subst e3
    have Hy1 := Lib.hid hy1
    have Hy3 := Lib.hid hy3
    clear hr1 hr3 hy1 hy3
    by_cases hyy : y1 = y3
    ·subst hyy
     go_wp2_with (first | ((with_reducible apply ugZ); rfl) | ((with_reducible (first | apply len_B | apply len_BB | apply len_N | apply len_V | apply len_VV)); assumption) | ((with_reducible refine stop_if kS ?_ ?_); rfl))
     go_quiet (fail)
     go_wp2_with (first | ((with_reducible apply ugZ); rfl) | ((with_reducible (first | apply len_B | apply len_BB | apply len_N | apply len_V | apply len_VV)); assumption) | ((with_reducible refine stop_if kS ?_ ?_); rfl))
     go_roundg (l.length - (j + 1) + 1)
     case measure => have := Hk.out; omega
     case rel =>
      refine ⟨j + 1, n + nq, rfl, by omega, rfl, by rw [Hwr.out, drewN_twice], ?_⟩
      rw [take_snoc l j y1 (by simpa using Hy1.out), take_snoc m j y1 (by simpa using Hy3.out), Htk.out]
    ·have hyb : (y1.toInt != y3.toInt) = true := by
      rw [bne_iff_ne]
      exact fun e => hyy (Int32.toInt_inj.1 e)
     go_wp2_with (first | ((with_reducible apply ugZ); rfl) | ((with_reducible (first | apply len_B | apply len_BB | apply len_N | apply len_V | apply len_VV)); assumption) | ((with_reducible refine stop_if kS ?_ ?_); rfl))
     go_quiet (fail)
     go_wp2_with (first | ((with_reducible apply ugZ); rfl) | ((with_reducible (first | apply len_B | apply len_BB | apply len_N | apply len_V | apply len_VV)); assumption) | ((with_reducible refine stop_if kS ?_ ?_); rfl))
     go_ret
     have e : (l == m) = false := by
      rw [beq_eq_false_iff_ne]
      rintro rfl
      have := Hy1.out.symm.trans Hy3.out
      exact hyy (Option.some.inj this)
     rw [HR.out, e]
     exact ⟨n + nq, rfl, by rw [Hwr.out, drewN_twice]⟩
   ·go_wp2_with (first | ((with_reducible apply ugZ); rfl) | ((with_reducible (first | apply len_B | apply len_BB | apply len_N | apply len_V | apply len_VV)); assumption) | ((with_reducible refine stop_if kS ?_ ?_); rfl))
    go_ret
    have e : (l == m) = true := by
     rw [beq_iff_eq]
     exact same_take l m j Hlen.out (by omega) Htk.out
    rw [HR.out, e]
    exact ⟨n, rfl, Hwr.out⟩
 ·have hne : ((l.length : Int) != (m.length : Int)) = true := by rw [bne_iff_ne]; omega
  have e : (l == m) = false := by
   rw [beq_eq_false_iff_ne]
   rintro rfl
   exact hlen rfl
  rw [e]
  go_enter Tryd.func54, Tryd.ntmps54
  go_wp2_with (first | ((with_reducible apply ugZ); rfl) | ((with_reducible (first | apply len_B | apply len_BB | apply len_N | apply len_V | apply len_VV)); assumption) | ((with_reducible refine stop_if kS ?_ ?_); rfl))
  go_ret
  exact ⟨0, rfl, rfl⟩
end Go.Proofs.YtjkffjngamagkaaDoor
