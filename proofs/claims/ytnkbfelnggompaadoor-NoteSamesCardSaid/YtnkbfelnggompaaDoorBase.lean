/- Readings of memory as lists, for whatever program: what a slice value reads as in a world, and the laws by which a walk goes on past the operations on slices. -/
import Derived.WalkKit
import Derived.WalkSpells
import Derived.WalkLawsBesides
import Derived.Lib.Hide
import Derived.Deep.Cut
import Derived.Deep.CutRange
import Derived.Deep.DeepFit
import Derived.BigQuiet
import Derived.Deep.QuietTactic
import Derived.Deep.RegionWith
import Derived.Deep.Draws
import Derived.Laws.CopyOwn
import Derived.Lib.MakeNoZero
namespace Go.Arm
open Go.RowKit

/-- How a value of a Lean type lies in cells; 'S' are the blocks behind it. -/
class Rep (α : Type) where
  sz : Nat
  rd : World → (Nat → Prop) → α → List Value → Prop
  len : ∀ {w S x cs}, rd w S x cs → cs.length = sz
  one : ∀ {w S x cs}, rd w S x cs → ∀ u ∈ cs, u.oneCell' = true
  keep : ∀ {w w' S S' x cs}, rd w S x cs → (∀ b, S b → b < w.heap.size → w'.heap[b]? = w.heap[b]? ∧ S' b) → rd w' S' x cs

section
variable {α : Type} [Rep α]

def rds (w : World) (S : Nat → Prop) : List α → List Value → Prop
  | [], cs => cs = []
  | x :: xs, cs => ∃ c d, cs = c ++ d ∧ Rep.rd w S x c ∧ rds w S xs d

theorem rds_nil {w : World} {S : Nat → Prop} : rds w S ([] : List α) [] := rfl

theorem rds_len {w : World} {S : Nat → Prop} : ∀ {l : List α} {cs : List Value}, rds w S l cs → cs.length = l.length * Rep.sz α
  | [], cs, h => by obtain rfl : cs = [] := h; simp
  | x :: xs, cs, h => by
    obtain ⟨c, d, rfl, h1, h2⟩ := h
    rw [List.length_append, Rep.len h1, rds_len h2, List.length_cons, Nat.add_mul]; omega

theorem rds_one {w : World} {S : Nat → Prop} : ∀ {l : List α} {cs : List Value}, rds w S l cs → ∀ u ∈ cs, u.oneCell' = true
  | [], cs, h, u, hu => by obtain rfl : cs = [] := h; simp at hu
  | x :: xs, cs, h, u, hu => by
    obtain ⟨c, d, rfl, h1, h2⟩ := h
    rcases List.mem_append.1 hu with hu | hu
    · exact Rep.one h1 u hu
    · exact rds_one h2 u hu

theorem rds_keep {w w' : World} {S S' : Nat → Prop} : ∀ {l : List α} {cs : List Value}, rds w S l cs → (∀ b, S b → b < w.heap.size → w'.heap[b]? = w.heap[b]? ∧ S' b) → rds w' S' l cs
  | [], _, h, _ => h
  | x :: xs, cs, h, hk => by
    obtain ⟨c, d, rfl, h1, h2⟩ := h
    exact ⟨c, d, rfl, Rep.keep h1 hk, rds_keep h2 hk⟩

theorem rds_append {w : World} {S : Nat → Prop} : ∀ {l m : List α} {cs ds : List Value}, rds w S l cs → rds w S m ds → rds w S (l ++ m) (cs ++ ds)
  | [], m, cs, ds, h, k => by obtain rfl : cs = [] := h; simpa using k
  | x :: xs, m, cs, ds, h, k => by
    obtain ⟨c, d, rfl, h1, h2⟩ := h
    exact ⟨c, d ++ ds, by simp, h1, rds_append h2 k⟩

theorem rds_split {w : World} {S : Nat → Prop} : ∀ {l : List α} {cs : List Value} (k : Nat), rds w S l cs → rds w S (l.take k) (cs.take (k * Rep.sz α)) ∧ rds w S (l.drop k) (cs.drop (k * Rep.sz α))
  | [], cs, k, h => by obtain rfl : cs = [] := h; simp [rds]
  | x :: xs, cs, 0, h => by simpa [rds] using h
  | x :: xs, cs, k + 1, h => by
    obtain ⟨c, d, rfl, h1, h2⟩ := h
    have hc := Rep.len h1
    have ⟨i1, i2⟩ := rds_split k h2
    have e : (k + 1) * Rep.sz α = c.length + k * Rep.sz α := by rw [hc, Nat.add_mul]; omega
    rw [e]
    refine ⟨⟨c, d.take (k * Rep.sz α), ?_, h1, i1⟩, ?_⟩
    · rw [List.take_length_add_append]
    · rw [List.drop_length_add_append]; exact i2

theorem rds_get {w : World} {S : Nat → Prop} : ∀ {l : List α} {cs : List Value} (i : Nat) {x : α}, rds w S l cs → l[i]? = some x → ∃ c, Rep.rd w S x c ∧ ∀ j u, c[j]? = some u → cs[i * Rep.sz α + j]? = some u
  | [], cs, i, x, h, hx => by simp at hx
  | y :: ys, cs, 0, x, h, hx => by
    obtain ⟨c, d, rfl, h1, h2⟩ := h
    simp at hx; subst hx
    refine ⟨c, h1, fun j u hu => ?_⟩
    have := (List.getElem?_eq_some_iff.1 hu).1
    rw [Nat.zero_mul, Nat.zero_add, List.getElem?_append_left this]; exact hu
  | y :: ys, cs, i + 1, x, h, hx => by
    obtain ⟨c, d, rfl, h1, h2⟩ := h
    obtain ⟨e, h3, h4⟩ := rds_get i h2 (by simpa using hx)
    refine ⟨e, h3, fun j u hu => ?_⟩
    have hc := Rep.len h1
    have := h4 j u hu
    have e1 : (i + 1) * Rep.sz α + j = c.length + (i * Rep.sz α + j) := by rw [hc, Nat.add_mul]; omega
    rw [e1, List.getElem?_append_right (by omega)]
    simpa using this

/-- The cells 'cs' lie at the address. -/
def located (w : World) (ao : Option Addr) (cs : List Value) : Prop := ∀ a, ao = some a → ∀ j u, cs[j]? = some u → w.cell? (a.add j) = some u

/-- The slice value v reads as the list l. -/
def Sl (w : World) (S : Nat → Prop) (l : List α) (v : Value) : Prop :=
  ∃ ao cap cs, v = .slice ao l.length cap ∧ l.length ≤ cap ∧ cap ≤ maxLen ∧ (ao = none → cap = 0) ∧ rds w S l cs ∧ (∀ a, ao = some a → cs ≠ [] → S a.block) ∧ located w ao cs

theorem cell?_same {w w' : World} {a : Addr} (h : w'.heap[a.block]? = w.heap[a.block]?) : w'.cell? a = w.cell? a := World.cell?_of_block (w := w) h

theorem Addr.add_block (a : Addr) (n : Nat) : (a.add n).block = a.block := by unfold Addr.add; split <;> rfl

theorem located_keep {w w' : World} {ao : Option Addr} {cs : List Value} (h : located w ao cs) (hk : ∀ a, ao = some a → cs ≠ [] → w'.heap[a.block]? = w.heap[a.block]?) : located w' ao cs := by
  intro a ha j u hu
  have hne : cs ≠ [] := by intro e; rw [e] at hu; simp at hu
  rw [cell?_same (w := w) (by rw [Addr.add_block]; exact hk a ha hne)]
  exact h a ha j u hu

theorem located_lt {w : World} {a : Addr} {cs : List Value} (h : located w (some a) cs) (hne : cs ≠ []) : a.block < w.heap.size := by
  cases cs with
  | nil => exact absurd rfl hne
  | cons u us =>
    have := h a rfl 0 u rfl
    have := World.block_lt_of_cell? w _ this
    rwa [Addr.add_block] at this

theorem Sl.keep {w w' : World} {S S' : Nat → Prop} {l : List α} {v : Value} (h : Sl w S l v) (hk : ∀ b, S b → b < w.heap.size → w'.heap[b]? = w.heap[b]? ∧ S' b) : Sl w' S' l v := by
  obtain ⟨ao, cap, cs, rfl, h1, h2, h3, h4, h5, h6⟩ := h
  refine ⟨ao, cap, cs, rfl, h1, h2, h3, rds_keep h4 hk, ?_, ?_⟩
  · intro a ha hne
    exact (hk a.block (h5 a ha hne) (located_lt (ha ▸ h6) hne)).2
  · refine located_keep h6 fun a ha hne => ?_
    exact (hk a.block (h5 a ha hne) (located_lt (ha ▸ h6) hne)).1

theorem Sl.below {w w' : World} {S : Nat → Prop} {l : List α} {v : Value} (h : Sl w S l v) {B : Nat} (hb : Below B w w') (hB : w.heap.size ≤ B) : Sl w' S l v :=
  h.keep fun b hS hlt => ⟨hb.block b (by omega), hS⟩

theorem Sl.wide {w : World} {S S' : Nat → Prop} {l : List α} {v : Value} (h : Sl w S l v) (hS : ∀ b, S b → b < w.heap.size → S' b) : Sl w S' l v :=
  h.keep fun b hb hlt => ⟨rfl, hS b hb hlt⟩

theorem Sl.nil (w : World) (S : Nat → Prop) : Sl w S ([] : List α) (.slice none 0 0) :=
  ⟨none, 0, [], rfl, Nat.le_refl _, Nat.zero_le _, (fun _ => rfl), rfl, (fun a h => by cases h), (fun a h => by cases h)⟩

theorem Sl.length_le {w : World} {S : Nat → Prop} {l : List α} {v : Value} (h : Sl w S l v) : l.length ≤ maxLen := by
  obtain ⟨ao, cap, cs, rfl, h1, h2, _⟩ := h; omega

/-- n elements in a row of the call's own (block B or later); the slice may begin anywhere in it, and its capacity may end ahead of the row's end. -/
def rowAt (w : World) (B : Nat) (e : TypeId) (size : Nat) (v : Value) (n : Nat) (cs : List Value) : Prop :=
  (v = .slice none 0 0 ∧ n = 0 ∧ cs = []) ∨
  ∃ g o cap cur, v = .slice (some ⟨g, o, none⟩) n cap ∧ B ≤ g ∧ w.heap[g]? = some (.cells cur e (0, 0)) ∧ n ≤ cap ∧ cap ≤ maxLen ∧ o + cap * size ≤ cur.size ∧ (cur.toList.drop o).take (n * size) = cs

theorem add_lit (g o j : Nat) : (⟨g, o, none⟩ : Addr).add j = ⟨g, o + j, none⟩ := by unfold Addr.add; split <;> simp_all

theorem rowAt.cells {w : World} {B : Nat} {e : TypeId} {size : Nat} {v : Value} {n : Nat} {cs : List Value} (h : rowAt w B e size v n cs) {g o cap n' : Nat} (hv : v = .slice (some ⟨g, o, none⟩) n' cap) : ∀ j u, cs[j]? = some u → w.cell? ⟨g, o + j, none⟩ = some u := by
  intro j u hu
  rcases h with ⟨h, _⟩ | ⟨g', o', cap', cur, rfl, h1, h2, h3, h4, h5, rfl⟩
  · rw [h] at hv; cases hv
  · cases hv
    have hj := (List.getElem?_eq_some_iff.1 hu).1
    rw [List.getElem?_take] at hu
    split at hu
    · rw [List.getElem?_drop] at hu
      simp only [World.cell?, h2]
      simpa using hu
    · cases hu

theorem rowAt.of_owns {w : World} {B : Nat} {e : TypeId} {size : Nat} {v : Value} {n : Nat} {cs : List Value} (h : w.ownsRow B e size v n cs) : rowAt w B e size v n cs := by
  rcases h with ⟨h0, ⟨rfl, rfl⟩ | ⟨g, cap, cur, rfl, hg, hh, hc, hm, hs, ht⟩⟩
  · exact .inl ⟨rfl, rfl, List.eq_nil_of_length_eq_zero (by simpa using h0)⟩
  · exact .inr ⟨g, 0, cap, cur, rfl, hg, hh, hc, hm, by omega, by simpa using ht⟩

/-- A row that the call itself has made, and may still lengthen. -/
def Own (w : World) (B : Nat) (e : TypeId) (S : Nat → Prop) (l : List α) (v : Value) : Prop := ∃ cs, rds w S l cs ∧ rowAt w B e (Rep.sz α) v l.length cs

theorem Own.nil (w : World) (B : Nat) (e : TypeId) (S : Nat → Prop) : Own w B e S ([] : List α) (.slice none 0 0) := ⟨[], rfl, .inl ⟨rfl, rfl, rfl⟩⟩

theorem Own.sl {w : World} {B : Nat} {e : TypeId} {S S' : Nat → Prop} {l : List α} {v : Value} (h : Own w B e S l v) (hS : ∀ b, S b → b < w.heap.size → S' b) (hv : ∀ b, v.ownBlock = some b → S' b) : Sl w S' l v := by
  obtain ⟨cs, h1, h2⟩ := h
  have hc := fun g o cap n' => rowAt.cells h2 (g := g) (o := o) (cap := cap) (n' := n')
  rcases h2 with ⟨rfl, hn, rfl⟩ | ⟨g, o, cap, cur, rfl, hg, hh, hcap, hm, hs, ht⟩
  · have : l = [] := List.eq_nil_of_length_eq_zero hn
    subst this
    exact Sl.nil w S'
  · refine ⟨some ⟨g, o, none⟩, cap, cs, rfl, hcap, hm, by simp, rds_keep h1 fun b hb hlt => ⟨rfl, hS b hb hlt⟩, ?_, ?_⟩
    · intro a ha _
      cases ha
      exact hv g rfl
    · intro a ha j u hu
      cases ha
      rw [add_lit]
      exact hc g o cap _ rfl j u hu

theorem Own.ge {w : World} {B : Nat} {e : TypeId} {S : Nat → Prop} {l : List α} {v : Value} (h : Own w B e S l v) : ∀ b, v.ownBlock = some b → B ≤ b ∧ b < w.heap.size := by
  obtain ⟨cs, h1, h2⟩ := h
  intro b hb
  rcases h2 with ⟨rfl, _⟩ | ⟨g, o, cap, cur, rfl, hg, hh, _⟩
  · cases hb
  · cases hb; exact ⟨hg, (Array.getElem?_eq_some_iff.1 hh).1⟩

theorem Own.keep {w w' : World} {B : Nat} {e : TypeId} {S S' : Nat → Prop} {l : List α} {v : Value} (h : Own w B e S l v) (hk : ∀ b, S b → b < w.heap.size → w'.heap[b]? = w.heap[b]? ∧ S' b)
    (hv : ∀ b, v.ownBlock = some b → w'.heap[b]? = w.heap[b]?) : Own w' B e S' l v := by
  obtain ⟨cs, h1, h2⟩ := h
  refine ⟨cs, rds_keep h1 hk, ?_⟩
  rcases h2 with h3 | ⟨g, o, cap, cur, rfl, hg, hh, r⟩
  · exact .inl h3
  · exact .inr ⟨g, o, cap, cur, rfl, hg, by rw [hv g rfl]; exact hh, r⟩

theorem Own.below {w w' : World} {B : Nat} {e : TypeId} {S : Nat → Prop} {l : List α} {v : Value} (h : Own w B e S l v) {C : Nat} (hb : Below C w w') (hC : w.heap.size ≤ C) : Own w' B e S l v :=
  h.keep (fun b hS hlt => ⟨hb.block b (by omega), hS⟩) fun b hv => hb.block b (by have := h.ge b hv; omega)

theorem Own.rebase {w : World} {B B' : Nat} {e : TypeId} {S : Nat → Prop} {l : List α} {v : Value} (h : Own w B e S l v) (hB : ∀ b, v.ownBlock = some b → B' ≤ b) : Own w B' e S l v := by
  obtain ⟨cs, h1, h2⟩ := h
  refine ⟨cs, h1, ?_⟩
  rcases h2 with h3 | ⟨g, o, cap, cur, rfl, hg, hh, r⟩
  · exact .inl h3
  · exact .inr ⟨g, o, cap, cur, rfl, hB g rfl, hh, r⟩

theorem Own.of_owns {w : World} {B : Nat} {e : TypeId} {S : Nat → Prop} {l : List α} {v : Value} {cs : List Value} (h1 : rds w S l cs) (h2 : w.ownsRow B e (Rep.sz α) v l.length cs) : Own w B e S l v := ⟨cs, h1, .of_owns h2⟩

/-- v[:k] -/
theorem Own.take {w : World} {B : Nat} {e : TypeId} {S : Nat → Prop} {l : List α} {g o cap : Nat} (h : Own w B e S l (.slice (some ⟨g, o, none⟩) l.length cap)) (k : Nat) (hk : k ≤ l.length) : Own w B e S (l.take k) (.slice (some ⟨g, o, none⟩) k cap) := by
  obtain ⟨cs, h1, h2⟩ := h
  have hl : (l.take k).length = k := by simp; omega
  refine ⟨cs.take (k * Rep.sz α), (rds_split k h1).1, ?_⟩
  rw [hl]
  rcases h2 with ⟨h, _⟩ | ⟨g', o', cap', cur, hv, hg, hh, hcap, hm, hs, ht⟩
  · cases h
  · cases hv
    refine .inr ⟨g, o, cap, cur, rfl, hg, hh, by omega, hm, hs, ?_⟩
    rw [← ht, List.take_take]
    congr 1
    have : k * Rep.sz α ≤ l.length * Rep.sz α := Nat.mul_le_mul_right _ hk
    omega

end

instance : Rep UInt8 where
  sz := 1
  rd _ _ x cs := cs = [.int .u8 (x.toNat : Int)]
  len h := by subst h; rfl
  one h := by subst h; intro u hu; simp at hu; subst hu; rfl
  keep h _ := h

/-- A slice as an element. -/
instance {α : Type} [Rep α] : Rep (List α) where
  sz := 1
  rd w S l cs := ∃ v, cs = [v] ∧ Sl w S l v
  len h := by obtain ⟨v, rfl, _⟩ := h; rfl
  one h := by
    obtain ⟨v, rfl, ao, cap, cs, rfl, _⟩ := h
    intro u hu; simp at hu; subst hu; rfl
  keep h hk := by
    obtain ⟨v, rfl, h⟩ := h
    exact ⟨v, rfl, h.keep hk⟩

/-- The row of a table for an element's type, in one closed fact. -/
def Row (P : Program) (t e : TypeId) (z : Value) (size bytes : Nat) : Prop :=
  P.underlying t = some (.slice e) ∧ (P.info? e).map (fun i => (i.zero, i.size, i.bytes)) = some (some z, size, bytes)

section laws
variable {P : Program} {ops : Array Oper} {Q : Exit → Act → World → Prop} {a : Act} {w : World} {rest : List Oper}
variable {dst : Option Tmp} {ty : TypeId} {pos : String} {after : Array Edge}

/-- len of a slice. -/
theorem wpList_len {α : Type} [Rep α] {x : Operand} {t e : TypeId} {S : Nat → Prop} {l : List α} (ht : P.underlying t = some (.slice e)) (hx : Sl w S l (a.eval x))
    (h : wpList P ops Q rest (a.put dst (.int .i64 (l.length : Int))) w) :
    wpList P ops Q (⟨dst, .call ⟨.builtin .len, #[x], #[t]⟩, ty, pos, after, none⟩ :: rest) a w := by
  obtain ⟨ao, cap, cs, hv, _⟩ := hx
  refine wpList_plain rfl fun K hK => ?_
  have he : P.elem t = e := by simp [Program.elem, ht]
  unfold Oper.wp
  simp [BigFrame.execOp_builtin, BigFrame.builtin_len, hv, run_len_slice (P := P) w t ty ao l.length cap (by rw [he]; exact ht), Result.andThen]
  exact hK _ _ h

/-- &x[i], one cell an element. -/
theorem wpList_index1 {α : Type} [Rep α] {x i : Operand} {t e : TypeId} {z : Value} {bytes : Nat} {S : Nat → Prop} {l : List α} (hr : Row P t e z 1 bytes) (h1 : Rep.sz α = 1) (hx : Sl w S l (a.eval x))
    {k : IntKind} {n : Int} (hi : a.eval i = .int k n) (h0 : 0 ≤ n) (hn : n < l.length)
    (h : ∀ b o u y, l[n.toNat]? = some y → Rep.rd w S y [u] → w.cell? ⟨b, o, none⟩ = some u → wpList P ops Q rest (a.put dst (.pointer (some ⟨b, o, none⟩))) w) :
    wpList P ops Q (⟨dst, .indexAddr t x i, ty, pos, after, none⟩ :: rest) a w := by
  obtain ⟨ao, cap, cs, hv, _, _, hnone, hcs, _, hloc⟩ := hx
  obtain ⟨ht, hinfo⟩ := hr
  have hlt : n.toNat < l.length := by omega
  obtain ⟨y, hy⟩ : ∃ y, l[n.toNat]? = some y := ⟨_, List.getElem?_eq_getElem hlt⟩
  obtain ⟨c, hc1, hc2⟩ := rds_get n.toNat hcs hy
  have hlen := Rep.len hc1
  rw [h1] at hlen
  obtain ⟨u, rfl⟩ : ∃ u, c = [u] := by
    match c, hlen with
    | [u], _ => exact ⟨u, rfl⟩
  have hcu := hc2 0 u rfl
  rw [h1] at hcu
  cases ao with
  | none =>
    have := hnone rfl
    have := rds_len hcs
    obtain ⟨_, hj⟩ := List.getElem?_eq_some_iff.1 hcu
    omega
  | some ad =>
    have hcell := hloc ad rfl _ _ hcu
    have hspot : ∃ b o, ad.add (n.toNat * 1) = ⟨b, o, none⟩ := by
      simp only [Nat.add_zero] at hcell
      generalize ad.add (n.toNat * 1) = q at hcell
      obtain ⟨b, o, sp⟩ := q
      cases sp with
      | none => exact ⟨b, o, rfl⟩
      | some s =>
        exfalso
        unfold World.cell? at hcell
        split at hcell <;> simp at hcell
    obtain ⟨b, o, hq⟩ := hspot
    simp only [Nat.add_zero, hq] at hcell
    refine wpList_plain rfl fun K hK => ?_
    have he : P.elem t = e := by simp [Program.elem, ht]
    obtain ⟨inf, hi1, hi2⟩ := Option.map_eq_some_iff.1 hinfo
    simp only [Prod.mk.injEq] at hi2
    have hsz : (Go.sizeOf e).run P w = .ok 1 w := by simp [Go.sizeOf, typeInfo, hi1, hi2.2.1]
    have hrun := run_indexAt_slice (P := P) w t ad l.length cap k n (by rw [he]; exact ht)
    rw [if_pos ⟨h0, hn⟩, he, hsz] at hrun
    simp only [Result.andThen, hq] at hrun
    unfold Oper.wp
    simp [execOp, hi, hv, hrun, Result.andThen]
    exact hK _ _ (h b o u y hy hc1 hcell)

theorem Sl.cut {α : Type} [Rep α] {S : Nat → Prop} {l : List α} {ao : Option Addr} {cap : Nat} (hx : Sl w S l (.slice ao l.length cap)) (lo hi : Nat) (h1 : lo ≤ hi) (h2 : hi ≤ l.length) :
    Sl w S ((l.take hi).drop lo) (sliced ao lo hi cap (Rep.sz α)) := by
  obtain ⟨ao', cap', cs, hv, g1, g2, g3, g4, g5, g6⟩ := hx
  cases hv
  have hlen : ((l.take hi).drop lo).length = hi - lo := by simp; omega
  have s1 := (rds_split hi g4).1
  have s2 := (rds_split lo s1).2
  unfold sliced
  have hcl := rds_len g4
  refine ⟨if cap = lo then ao else ao.map (·.add (lo * Rep.sz α)), cap - lo, _, by rw [hlen], by rw [hlen]; omega, by omega, ?_, s2, ?_, ?_⟩
  · intro h
    split at h
    · omega
    · cases ao with
      | none => have := g3 rfl; omega
      | some ad => simp at h
  · intro ad had hne
    cases ao with
    | none => split at had <;> simp at had
    | some ad0 =>
      have hne' : cs ≠ [] := by rintro rfl; simp at hne
      have := g5 ad0 rfl hne'
      split at had
      · cases had; exact this
      · simp at had; subst had; rw [Addr.add_block]; exact this
  · intro ad had j u hu
    have hlenu := (List.getElem?_eq_some_iff.1 hu).1
    have hne : (l.take hi).drop lo ≠ [] ∧ 0 < Rep.sz α := by
      have hs2 := rds_len s2
      constructor
      · intro e; rw [hs2, e] at hlenu; simp at hlenu
      · rcases Nat.eq_zero_or_pos (Rep.sz α) with hz | hz
        · rw [hs2, hz] at hlenu; simp at hlenu
        · exact hz
    have hlt : lo < hi := by
      rcases Nat.lt_or_ge lo hi with h | h
      · exact h
      · exfalso; apply hne.1; apply List.eq_nil_of_length_eq_zero; omega
    rw [if_neg (by omega)] at had
    cases ao with
    | none => simp at had
    | some ad0 =>
      simp at had; subst had
      have : (ad0.add (lo * Rep.sz α)).add j = ad0.add (lo * Rep.sz α + j) := by
        unfold Addr.add
        split
        · split <;> simp_all
        · split <;> simp_all <;> (try omega) <;> (split <;> simp_all <;> omega)
      rw [this]
      refine g6 ad0 rfl _ _ ?_
      rw [List.getElem?_drop, List.getElem?_take] at hu
      split at hu
      · exact hu
      · cases hu

theorem run_sizeOf_row {t e : TypeId} {z : Value} {sz bytes : Nat} (hr : Row P t e z sz bytes) (w : World) : (Go.sizeOf e).run P w = .ok sz w := by
  obtain ⟨ht, hinfo⟩ := hr
  obtain ⟨inf, hi1, hi2⟩ := Option.map_eq_some_iff.1 hinfo
  simp only [Prod.mk.injEq] at hi2
  simp [Go.sizeOf, typeInfo, hi1, hi2.2.1]

/-- x[lo:hi] -/
theorem wpList_slice_lh {α : Type} [Rep α] {x i j : Operand} {t e : TypeId} {z : Value} {bytes : Nat} {S : Nat → Prop} {l : List α} (hr : Row P t e z (Rep.sz α) bytes) (hx : Sl w S l (a.eval x))
    {k k' : IntKind} {n m : Int} (hi : a.eval i = .int k n) (hj : a.eval j = .int k' m) (h0 : 0 ≤ n) (hn : n ≤ m) (hm : m ≤ l.length)
    (h : ∀ v, Sl w S ((l.take m.toNat).drop n.toNat) v → wpList P ops Q rest (a.put dst v) w) :
    wpList P ops Q (⟨dst, .slice t x (some i) (some j) none, ty, pos, after, none⟩ :: rest) a w := by
  have hx' := hx
  obtain ⟨ao, cap, cs, hv, hcap, _⟩ := hx
  rw [hv] at hx'
  have he : P.elem t = e := by simp [Program.elem, hr.1]
  have hrun := run_slice_lh (P := P) w t ao l.length cap (by rw [he]; exact hr.1) k k' n m h0 hn (by omega)
  rw [he, run_sizeOf_row hr] at hrun
  refine wpList_plain rfl fun K hK => ?_
  have hcut := hx'.cut n.toNat m.toNat (by omega) (by omega)
  have hsl : (Instr.sliceAt t (.slice ao l.length cap) (some (.int k n)) (some (.int k' m)) none).run P w = _ := (run_sliceAt_slice (P := P) w t _ _ _ _ (by rw [he]; exact hr.1)).trans hrun
  unfold Oper.wp
  simp [execOp, hi, hj, hv, hsl, Result.andThen]
  exact hK _ _ (h _ hcut)

/-- x[:hi] -/
theorem wpList_slice_h {α : Type} [Rep α] {x j : Operand} {t e : TypeId} {z : Value} {bytes : Nat} {S : Nat → Prop} {l : List α} (hr : Row P t e z (Rep.sz α) bytes) (hx : Sl w S l (a.eval x))
    {k' : IntKind} {m : Int} (hj : a.eval j = .int k' m) (hn : 0 ≤ m) (hm : m ≤ l.length)
    (h : ∀ v, Sl w S (l.take m.toNat) v → wpList P ops Q rest (a.put dst v) w) :
    wpList P ops Q (⟨dst, .slice t x none (some j) none, ty, pos, after, none⟩ :: rest) a w := by
  have hx' := hx
  obtain ⟨ao, cap, cs, hv, hcap, _⟩ := hx
  rw [hv] at hx'
  have he : P.elem t = e := by simp [Program.elem, hr.1]
  have hrun := run_slice_h (P := P) w t ao l.length cap (by rw [he]; exact hr.1) k' m hn (by omega)
  rw [he, run_sizeOf_row hr] at hrun
  refine wpList_plain rfl fun K hK => ?_
  have hcut := hx'.cut 0 m.toNat (by omega) (by omega)
  rw [List.drop_zero] at hcut
  have hsl : (Instr.sliceAt t (.slice ao l.length cap) none (some (.int k' m)) none).run P w = _ := (run_sliceAt_slice (P := P) w t _ _ _ _ (by rw [he]; exact hr.1)).trans hrun
  unfold Oper.wp
  simp [execOp, hj, hv, hsl, Result.andThen]
  exact hK _ _ (h _ hcut)

/-- x[lo:] -/
theorem wpList_slice_l {α : Type} [Rep α] {x i : Operand} {t e : TypeId} {z : Value} {bytes : Nat} {S : Nat → Prop} {l : List α} (hr : Row P t e z (Rep.sz α) bytes) (hx : Sl w S l (a.eval x))
    {k : IntKind} {n : Int} (hi : a.eval i = .int k n) (h0 : 0 ≤ n) (hn : n ≤ l.length)
    (h : ∀ v, Sl w S (l.drop n.toNat) v → wpList P ops Q rest (a.put dst v) w) :
    wpList P ops Q (⟨dst, .slice t x (some i) none none, ty, pos, after, none⟩ :: rest) a w := by
  have hx' := hx
  obtain ⟨ao, cap, cs, hv, hcap, _⟩ := hx
  rw [hv] at hx'
  have he : P.elem t = e := by simp [Program.elem, hr.1]
  have hrun := run_slice_l (P := P) w t ao l.length cap (by rw [he]; exact hr.1) k n h0 hn
  rw [he, run_sizeOf_row hr] at hrun
  refine wpList_plain rfl fun K hK => ?_
  have hcut := hx'.cut n.toNat l.length (by omega) (by omega)
  rw [List.take_length] at hcut
  have hsl : (Instr.sliceAt t (.slice ao l.length cap) (some (.int k n)) none none).run P w = _ := (run_sliceAt_slice (P := P) w t _ _ _ _ (by rw [he]; exact hr.1)).trans hrun
  unfold Oper.wp
  simp [execOp, hi, hv, hsl, Result.andThen]
  exact hK _ _ (h _ hcut)

/-- append where there is room: the cells behind the length are written. -/
theorem run_append_room_at {P : Program} (w : World) (t ty e : TypeId) (i : TypeInfo) (ht : P.underlying t = some (.slice e)) (hi : P.info? e = some i)
    (g o sLen sCap : Nat) (cur : Array Value) (hg : w.heap[g]? = some (.cells cur e (0, 0)))
    (a : Addr) (m c : Nat) (news : List Value) (hl : news.length = m * i.size) (hnews : ∀ j u, news[j]? = some u → w.cell? (a.add j) = some u) (h1 : ∀ u ∈ news, u.oneCell' = true)
    (hroom : sLen + m ≤ sCap) (hfit : o + sLen * i.size + news.length ≤ cur.size) :
    (Builtin.append_ #[t, t] ty #[.slice (some ⟨g, o, none⟩) sLen sCap, .slice (some a) m c]).run P w =
      .ok (.slice (some ⟨g, o, none⟩) (sLen + m) sCap) (w.setRow g (cur.toList.take (o + sLen * i.size) ++ news ++ cur.toList.drop (o + sLen * i.size + news.length)).toArray) := by
  have hf := run_firstCells_some (P := P) w i.size m a m c news hl hnews
  have hst := run_storeCells_at P g (o + sLen * i.size) e news 0 cur w hg (by simpa using hfit) h1
  simp only [Nat.add_zero] at hst
  simp [Builtin.append_, run_underlying ht, sizeOf, typeInfo, hi, Builtin.lenOf, hroom, hf, Addr.add_lit, hst]

/-- nothing is appended. -/
theorem run_append_none {P : Program} (w : World) (t ty e : TypeId) (i : TypeInfo) (ht : P.underlying t = some (.slice e)) (hi : P.info? e = some i) (ao : Option Addr) (n cap c : Nat) (h : n ≤ cap) :
    (Builtin.append_ #[t, t] ty #[.slice ao n cap, .slice none 0 c]).run P w = .ok (.slice ao n cap) w := by
  cases ao <;> simp [Builtin.append_, run_underlying ht, sizeOf, typeInfo, hi, Builtin.lenOf, h, Builtin.firstCells, storeCells]

/-- append to a row of the call's own. -/
theorem wpList_append {α : Type} [Rep α] {s x : Operand} {t e : TypeId} {z : Value} {bytes : Nat} {B : Nat} {S S' : Nat → Prop} {l m : List α} (hr : Row P t e z (Rep.sz α) bytes) (hz : z.cells.size = Rep.sz α) (hsz : 0 < Rep.sz α)
    (hs : Own w B e S l (a.eval s)) (hx : Sl w S' m (a.eval x)) (hSS : ∀ y cs, rds w S' (y : List α) cs → rds w S y cs) (hS : ∀ b, S b → b < w.heap.size → (a.eval s).ownBlock ≠ some b)
    (h63 : l.length + m.length ≤ maxLen) (hbytes : (l.length + m.length) * bytes ≤ 140737488355328) (hB : B ≤ w.heap.size)
    (h : ∀ v' w', Own w' B e S (l ++ m) v' → w.grownBy w' (a.eval s).ownBlock → (v'.ownBlock = (a.eval s).ownBlock ∨ ∃ g, v'.ownBlock = some g ∧ w.heap.size ≤ g) → wpList P ops Q rest (a.put dst v') w') :
    wpList P ops Q (⟨dst, .call ⟨.builtin .append, #[s, x], #[t, t]⟩, ty, pos, after, none⟩ :: rest) a w := by
  obtain ⟨cs, c1, c2⟩ := hs
  obtain ⟨ao, cap, ds, hv, d1, d2, d3, d4, d5, d6⟩ := hx
  have d4 := hSS _ _ d4
  obtain ⟨ht, hinfo⟩ := hr
  obtain ⟨inf, hi, hi2⟩ := Option.map_eq_some_iff.1 hinfo
  simp only [Prod.mk.injEq] at hi2
  obtain ⟨hzz, hisz, hby⟩ := hi2
  have hdl := rds_len d4
  have hcl := rds_len c1
  have hone := rds_one d4
  have fin : ∀ (v' : Value) (w' : World), rowAt w' B e (Rep.sz α) v' (l.length + m.length) (cs ++ ds) → w.grownBy w' (a.eval s).ownBlock → Own w' B e S (l ++ m) v' := by
    intro v' w' g1 g2
    refine ⟨cs ++ ds, rds_keep (rds_append c1 d4) (fun b hb hlt => ⟨g2.block b hlt (fun e => hS b hb hlt e.symm), hb⟩), ?_⟩
    rw [List.length_append]; exact g1
  have big : ∀ (v' : Value) (w' : World), w'.ownsRow w.heap.size e (Rep.sz α) v' (l.length + m.length) (cs ++ ds) → rowAt w' B e (Rep.sz α) v' (l.length + m.length) (cs ++ ds) := by
    intro v' w' g
    rcases rowAt.of_owns g with g | ⟨gg, o, cp, cur, q1, q2, q3⟩
    · exact .inl g
    · exact .inr ⟨gg, o, cp, cur, q1, by omega, q3⟩
  have newB : ∀ (v' : Value) (w' : World), w'.ownsRow w.heap.size e (Rep.sz α) v' (l.length + m.length) (cs ++ ds) → (a.eval s).ownBlock = none ∨ v'.ownBlock ≠ none → v'.ownBlock = (a.eval s).ownBlock ∨ ∃ g, v'.ownBlock = some g ∧ w.heap.size ≤ g := by
    intro v' w' g hne
    rcases g.2 with ⟨g, _⟩ | ⟨gg, cp, cur, q1, q2, q3⟩
    · rw [g] at hne ⊢
      rcases hne with hne | hne
      · left; rw [hne]; rfl
      · exact absurd rfl hne
    · right; exact ⟨gg, by rw [q1]; rfl, q2⟩
  cases ao with
  | none =>
    have hm0 : m = [] := by have := d3 rfl; exact List.eq_nil_of_length_eq_zero (by omega)
    subst hm0
    have hcap0 := d3 rfl
    subst hcap0
    have hds : ds = [] := by simpa using hdl
    subst hds
    obtain ⟨so, scap, hsv, hsc⟩ : ∃ so scap, a.eval s = .slice so l.length scap ∧ l.length ≤ scap := by
      rcases c2 with ⟨h1, h2, _⟩ | ⟨g, o, cp, cur, q1, _, _, q4, _⟩
      · exact ⟨none, 0, by rw [h1, h2], by omega⟩
      · exact ⟨_, cp, q1, q4⟩
    have hrun := run_append_none (P := P) w t ty e inf ht hi so l.length scap 0 hsc
    refine wpList_plain rfl fun K hK => ?_
    unfold Oper.wp
    simp [BigFrame.execOp_builtin, BigFrame.builtin_append, hv, hsv, hrun, Result.andThen]
    have h' := h (a.eval s) w (by simpa using ⟨cs, c1, c2⟩) (World.grownBy.refl w _) (.inl rfl)
    rw [hsv] at h'
    exact hK _ _ h'
  | some ad =>
    have hnews : ∀ j u, ds[j]? = some u → w.cell? (ad.add j) = some u := fun j u hu => d6 ad rfl j u hu
    rcases c2 with ⟨hnil, hn0, rfl⟩ | ⟨g, o, gcap, cur, hgv, hBg, hgh, hgc, hgm, hgs, hgt⟩
    · have hl0 : l = [] := List.eq_nil_of_length_eq_zero hn0
      subst hl0
      obtain ⟨v', w', r1, r2, r3, r4⟩ := run_append_own (P := P) w w.heap.size t ty e inf z (Rep.sz α) bytes ht hi hzz hisz hby hz hsz (a.eval s) 0 [] (by rw [hnil]; exact World.ownsRow_nil w _ e _) ad m.length cap ds (by rw [hdl]) hnews hone (by simpa using h63) (by simpa using hbytes) (Nat.le_refl _)
      refine wpList_plain rfl fun K hK => ?_
      unfold Oper.wp
      simp [BigFrame.execOp_builtin, BigFrame.builtin_append, hv, r1, Result.andThen]
      refine hK _ _ (h _ _ (fin _ _ (big _ _ (by simpa using r2)) r3) r3 (newB _ _ (by simpa using r2) (.inl (by rw [hnil]; rfl))))
    · by_cases hroom : l.length + m.length ≤ gcap
      · have hmul : (l.length + m.length) * Rep.sz α ≤ gcap * Rep.sz α := Nat.mul_le_mul_right _ hroom
        rw [Nat.add_mul] at hmul
        have hfit : o + l.length * Rep.sz α + ds.length ≤ cur.size := by omega
        have r1 := run_append_room_at (P := P) w t ty e inf ht hi g o l.length gcap cur hgh ad m.length cap ds (by rw [hdl, hisz]) hnews hone hroom (by rw [hisz]; exact hfit)
        rw [hisz] at r1
        have hob : (a.eval s).ownBlock = some g := by rw [hgv]; rfl
        have r3 : w.grownBy (w.setRow g (cur.toList.take (o + l.length * Rep.sz α) ++ ds ++ cur.toList.drop (o + l.length * Rep.sz α + ds.length)).toArray) (some g) :=
          ⟨rfl, rfl, rfl, by simp, fun k hk hne => setRow_other w g k _ (fun e => hne (by rw [e]))⟩
        have r2 : rowAt (w.setRow g (cur.toList.take (o + l.length * Rep.sz α) ++ ds ++ cur.toList.drop (o + l.length * Rep.sz α + ds.length)).toArray) B e (Rep.sz α) (.slice (some ⟨g, o, none⟩) (l.length + m.length) gcap) (l.length + m.length) (cs ++ ds) := by
          refine .inr ⟨g, o, gcap, _, rfl, hBg, setRow_heap w g cur _ e _ hgh, hroom, hgm, ?_, ?_⟩
          · simp only [List.size_toArray, List.length_append, List.length_take, List.length_drop, Array.length_toList]
            omega
          · have e1 : cur.toList.take (o + l.length * Rep.sz α) = cur.toList.take o ++ cs := by
              rw [List.take_add, hgt]
            have e2 : (cur.toList.take o).length = o := by simp; omega
            have e3 : (l.length + m.length) * Rep.sz α = (cs ++ ds).length := by rw [List.length_append, hcl, hdl, Nat.add_mul]
            have e4 : (cur.toList.take o ++ cs ++ ds ++ cur.toList.drop (o + l.length * Rep.sz α + ds.length)).drop o = cs ++ ds ++ cur.toList.drop (o + l.length * Rep.sz α + ds.length) := by
              conv => lhs; rw [List.append_assoc, List.append_assoc]; arg 1; rw [← e2]
              rw [List.drop_left, List.append_assoc]
            simp only []
            rw [e1, e4, e3, List.take_left]
        refine wpList_plain rfl fun K hK => ?_
        unfold Oper.wp
        simp only [BigFrame.execOp_builtin, BigFrame.builtin_append, List.map_toArray, List.map_cons, List.map_nil, hv, hgv, Sem.run_bind, r1, Result.andThen_ok, Sem.run_pure]
        exact hK _ _ (h _ _ (fin _ _ r2 (by rw [hob]; exact r3)) (by rw [hob]; exact r3) (.inl (by rw [hob]; rfl)))
      · have c2 : rowAt w B e (Rep.sz α) (a.eval s) l.length cs := .inr ⟨g, o, gcap, cur, hgv, hBg, hgh, hgc, hgm, hgs, hgt⟩
        have holds : ∀ j u, cs[j]? = some u → w.cell? ((⟨g, o, none⟩ : Addr).add j) = some u := fun j u hu => by rw [add_lit]; exact rowAt.cells c2 hgv j u hu
        obtain ⟨v', w', r1, r2, r3⟩ := run_append_arg_grows (P := P) w t ty e inf z (Rep.sz α) bytes ht hi hzz hisz hby hz hsz ⟨g, o, none⟩ l.length gcap cs hcl holds ad m.length cap ds (by rw [hdl]) hnews (by omega) h63 hbytes
        refine wpList_plain rfl fun K hK => ?_
        unfold Oper.wp
        simp [BigFrame.execOp_builtin, BigFrame.builtin_append, hv, hgv, r1, Result.andThen]
        have r3' : w.grownBy w' (a.eval s).ownBlock := ⟨r3.os, r3.tape, r3.output, r3.size, fun k hk _ => r3.block k hk (by simp)⟩
        have hne : v'.ownBlock ≠ none := by
          rcases r2.2 with ⟨q, q'⟩ | ⟨gg, cp, cur, q1, _⟩
          · omega
          · rw [q1]; simp [Value.ownBlock]
        exact hK _ _ (h _ _ (fin _ _ (big _ _ r2) r3') r3' (newB _ _ r2 (.inr hne)))

end laws

/-- Where the walk is to stand still: simp does not go into it. -/
inductive Tok (p : Prop) : Type | mk
def Stop (p : Prop) (_ : Tok p) : Prop := p
theorem Stop.go {p : Prop} {t : Tok p} (h : p) : Stop p t := h

section stops
variable {P : Program} {ops : Array Oper} {Q : Exit → Act → World → Prop} {a : Act} {w : World} {rest : List Oper}
variable {dst : Option Tmp} {ty : TypeId} {pos : String} {after : Array Edge}
theorem stop_builtin {b : Builtin} {args : Array Operand} {ts : Array TypeId} (h : Stop (wpList P ops Q (⟨dst, .call ⟨.builtin b, args, ts⟩, ty, pos, after, none⟩ :: rest) a w) .mk) : wpList P ops Q (⟨dst, .call ⟨.builtin b, args, ts⟩, ty, pos, after, none⟩ :: rest) a w := h
theorem stop_slice {t : TypeId} {x : Operand} {lo hi mx : Option Operand} (h : Stop (wpList P ops Q (⟨dst, .slice t x lo hi mx, ty, pos, after, none⟩ :: rest) a w) .mk) : wpList P ops Q (⟨dst, .slice t x lo hi mx, ty, pos, after, none⟩ :: rest) a w := h
theorem stop_indexAddr {t : TypeId} {x i : Operand} (h : Stop (wpList P ops Q (⟨dst, .indexAddr t x i, ty, pos, after, none⟩ :: rest) a w) .mk) : wpList P ops Q (⟨dst, .indexAddr t x i, ty, pos, after, none⟩ :: rest) a w := h
theorem stop_convert {t u : TypeId} {x : Operand} (h : Stop (wpList P ops Q (⟨dst, .convert t u x, ty, pos, after, none⟩ :: rest) a w) .mk) : wpList P ops Q (⟨dst, .convert t u x, ty, pos, after, none⟩ :: rest) a w := h
theorem stop_buildSlice {t : TypeId} {n : Nat} {ps : Array (Nat × Operand)} (h : Stop (wpList P ops Q (⟨dst, .buildSlice t n ps, ty, pos, after, none⟩ :: rest) a w) .mk) : wpList P ops Q (⟨dst, .buildSlice t n ps, ty, pos, after, none⟩ :: rest) a w := h
theorem stop_load {t : TypeId} {x : Operand} (h : Stop (wpList P ops Q (⟨dst, .load t x, ty, pos, after, none⟩ :: rest) a w) .mk) : wpList P ops Q (⟨dst, .load t x, ty, pos, after, none⟩ :: rest) a w := h
end stops

theorem Own.made {α : Type} [Rep α] (w : World) (e : TypeId) (S : Nat → Prop) (B : Nat) (hB : B ≤ w.heap.size) : Own (w.alloc (.cells #[] e)) B e S ([] : List α) (.slice (some ⟨w.heap.size, 0, none⟩) 0 0) :=
  .of_owns (cs := []) rfl (by simpa using World.ownsRow_made (size := Rep.sz α) w #[] 0 hB (Nat.zero_le _) (by simp))

theorem rds_u8 {w w' : World} {S S' : Nat → Prop} : ∀ {l : List UInt8} {cs : List Value}, rds w S l cs → rds w' S' l cs
  | [], _, h => h
  | _ :: _, _, h => by obtain ⟨c, d, rfl, h1, h2⟩ := h; exact ⟨c, d, rfl, h1, rds_u8 h2⟩

theorem rds_u8_cells {w : World} {S : Nat → Prop} : ∀ {l : List UInt8} {cs : List Value}, rds w S l cs ↔ cs = l.map fun b => Value.int .u8 (b.toNat : Int)
  | [], cs => by simp [rds]
  | x :: xs, cs => by
    constructor
    · rintro ⟨c, d, rfl, h1, h2⟩
      rw [rds_u8_cells.1 h2]
      have h1 : c = [.int .u8 (x.toNat : Int)] := h1
      simp [h1]
    · rintro rfl
      exact ⟨[_], _, rfl, rfl, rds_u8_cells.2 rfl⟩

/-- string(x) -/
theorem run_convert_sl {P : Program} {w : World} {S : Nat → Prop} {l : List UInt8} {v : Value} {src dst e : TypeId} (hs : P.underlying src = some (.slice e)) (he : P.underlying e = some (.int .u8)) (hd : P.underlying dst = some .string) (h : Sl w S l v) :
    (convert src dst v).run P w = .ok (.string ⟨l.toArray⟩) w := by
  obtain ⟨ao, cap, cs, rfl, h1, h2, h3, h4, h5, h6⟩ := h
  cases ao with
  | none =>
    have := h3 rfl
    obtain rfl : l = [] := List.eq_nil_of_length_eq_zero (by omega)
    exact run_convert_bytes_nil w src e hs he _ _ dst hd
  | some ad =>
    refine run_convert_bytes_back w src dst e ad cap l hs he hd fun j hj => ?_
    obtain rfl := rds_u8_cells.1 h4
    exact h6 ad rfl j _ (by simp [hj])

theorem fill_one : ∀ (vs : List Value) (k : Nat) (cells : Array Value), (∀ u ∈ vs, u.cells = #[u]) → k + vs.length ≤ cells.size →
    ∃ r, Instr.fill (fun i => some (i, 1)) cells ((vs.zipIdx k).map fun x => (x.2, x.1)) = some r ∧ r.toList = cells.toList.take k ++ (vs ++ cells.toList.drop (k + vs.length))
  | [], k, cells, _, _ => ⟨cells, rfl, by simp⟩
  | v :: vs, k, cells, h1, hl => by
    have hv := h1 v (by simp)
    simp only [List.length_cons] at hl
    obtain ⟨r, h2, h3⟩ := fill_one vs (k + 1) (cells.setIfInBounds k v) (fun u hu => h1 u (by simp [hu])) (by simp; omega)
    refine ⟨r, ?_, ?_⟩
    · simp only [List.zipIdx_cons, List.map_cons, Instr.fill, hv]
      simp only [List.size_toArray, List.length_cons, List.length_nil, Nat.zero_add, ne_eq, not_true_eq_false, decide_false, Bool.false_or, decide_eq_true_eq]
      rw [if_neg (by omega)]
      simpa using h2
    · rw [h3]
      simp only [Array.toList_setIfInBounds, List.length_cons]
      apply List.ext_getElem?
      intro j
      simp only [List.getElem?_append, List.getElem?_take, List.getElem?_set, List.getElem?_drop, List.length_take, List.length_set, List.getElem?_cons, Array.length_toList]
      have e1 : min (k + 1) cells.size = k + 1 := by omega
      have e2 : min k cells.size = k := by omega
      rw [e1, e2]
      by_cases hj : j < k
      · have : k ≠ j := by omega
        simp [hj, this, show j < k + 1 by omega]
      · by_cases hj2 : j = k
        · subst hj2; simp [show j < cells.size by omega]
        · have e3 : j - k ≠ 0 := by omega
          have e4 : j - k - 1 = j - (k + 1) := by omega
          have e5 : (j - k < vs.length + 1) = (j - (k + 1) < vs.length) := by apply propext; omega
          have e6 : k ≠ k + 1 + vs.length + (j - (k + 1) - vs.length) := by omega
          have e7 : k + (vs.length + 1) + (j - k - (vs.length + 1)) = k + 1 + vs.length + (j - (k + 1) - vs.length) := by omega
          simp [hj, show ¬ j < k + 1 by omega, e3, e4, e6, e7]
          grind

theorem zipIdx_len {α : Type} (l : List α) : l.zipIdx.length = l.length := by simp

/-- []T{x, y, ..}, one cell an element. -/
theorem run_buildSlice1 {P : Program} {t e : TypeId} {z : Value} {bytes : Nat} (hr : Row P t e z 1 bytes) (w : World) (vs : List Value) (h1 : ∀ u ∈ vs, u.cells = #[u]) (hl : vs.length ≤ 16777216) :
    (Instr.buildSlice t vs.length (vs.zipIdx.map fun x => (x.2, x.1)).toArray).run P w = .ok (.slice (some ⟨w.heap.size, 0, none⟩) vs.length vs.length) (w.alloc (.cells vs.toArray e)) := by
  have hsz := fun w => run_sizeOf_row hr w
  obtain ⟨ht, hinfo⟩ := hr
  obtain ⟨inf, hi, hi2⟩ := Option.map_eq_some_iff.1 hinfo
  simp only [Prod.mk.injEq] at hi2
  have hzv : ∀ w, (zeroValue e).run P w = .ok z w := by intro w; simp [zeroValue, typeInfo, hi, hi2.1]
  have key : ∀ cells : Array Value, cells.size = vs.length → Instr.fill (fun i => some (i, 1)) cells (vs.zipIdx.map fun x => (x.2, x.1)) = some vs.toArray := by
    intro cells hc
    obtain ⟨r, hf, hrl⟩ := fill_one vs 0 cells h1 (by omega)
    rw [hf]
    congr 1
    apply Array.toList_inj.1
    rw [hrl]
    simp [hc]
  by_cases h0 : vs.length = 0
  · obtain rfl : vs = [] := List.eq_nil_of_length_eq_zero h0
    simp [Instr.buildSlice, run_underlying ht, hsz, Instr.fill, newRow, Array.range_zero']
  · have h0' : ¬ (16777216 < vs.length) := by omega
    simp only [Instr.buildSlice, Sem.run_bind, run_underlying ht, Result.andThen_ok, hsz, Nat.mul_one]
    rw [if_neg (by omega)]
    simp only [h0, if_false, Sem.run_bind, Sem.run_pure, Result.andThen_ok, hzv]
    rw [key _ (by simp)]
    simp [newRow]

theorem Own.built {α : Type} [Rep α] (w : World) (e : TypeId) (S : Nat → Prop) (B : Nat) (hB : B ≤ w.heap.size) (l : List α) (vs : List Value) (h : rds w S l vs) (h1 : Rep.sz α = 1) (hm : l.length ≤ maxLen) :
    Own (w.alloc (.cells vs.toArray e)) B e S l (.slice (some ⟨w.heap.size, 0, none⟩) vs.length vs.length) := by
  have hl := rds_len h
  rw [h1, Nat.mul_one] at hl
  refine .of_owns (cs := vs) (rds_keep h fun b hb hlt => ⟨Below.heap_alloc _ _ _ hlt, hb⟩) ?_
  rw [hl]
  refine ⟨by rw [h1, hl, Nat.mul_one], .inr ⟨w.heap.size, l.length, vs.toArray, rfl, hB, heap_alloc_new w _, Nat.le_refl _, hm, by simp [h1, hl], by rw [h1, ← hl]; simp⟩⟩

theorem wpList_build1 {P : Program} {ops : Array Oper} {Q : Exit → Act → World → Prop} {a : Act} {w : World} {rest : List Oper} {dst : Option Tmp} {ty : TypeId} {pos : String} {after : Array Edge}
    {α : Type} [Rep α] {t e : TypeId} {z : Value} {bytes : Nat} (hr : Row P t e z 1 bytes) (h1 : Rep.sz α = 1) {n : Nat} {ps : Array (Nat × Operand)} {S : Nat → Prop} (l : List α)
    (vs : List Value) (hps : (ps.toList.map fun x => (x.1, a.eval x.2)) = vs.zipIdx.map fun x => (x.2, x.1)) (hn : n = vs.length) (hcs : rds w S l vs) (hl : l.length ≤ 16777216)
    (h : ∀ v w', Own w' w.heap.size e S l v → w.grownBy w' none → v.ownBlock = some w.heap.size → w'.heap.size = w.heap.size + 1 → wpList P ops Q rest (a.put dst v) w') :
    wpList P ops Q (⟨dst, .buildSlice t n ps, ty, pos, after, none⟩ :: rest) a w := by
  subst hn
  have hlen := rds_len hcs
  rw [h1, Nat.mul_one] at hlen
  have hps : (ps.map fun x => (x.1, a.eval x.2)) = (vs.zipIdx.map fun x => (x.2, x.1)).toArray := by
    apply Array.toList_inj.1
    rw [Array.toList_map]
    exact hps
  have hone : ∀ u ∈ vs, u.cells = #[u] := by
    intro u hu
    have := rds_one hcs u hu
    cases u <;> simp_all [Value.oneCell', Value.cells]
  have hrun := run_buildSlice1 (P := P) hr w vs hone (by omega)
  have ho := Own.built w e S w.heap.size (Nat.le_refl _) l vs hcs h1 (by simp only [maxLen]; omega)
  refine wpList_plain rfl fun K hK => ?_
  unfold Oper.wp
  simp only [execOp, hps, Sem.run_bind, hrun, Result.andThen_ok, Sem.run_pure]
  exact hK _ _ (h _ _ ho (World.grownBy_alloc w _ none) rfl (by simp))

theorem below_of_grown {w w' : World} {row : Option Nat} {B : Nat} (h : w.grownBy w' row) (hB : B ≤ w.heap.size) (hr : ∀ k, row = some k → B ≤ k) : Below B w w' := (Below.refl B w).grown h hB hr

theorem Sl.grown {α : Type} [Rep α] {w w' : World} {S : Nat → Prop} {l : List α} {v : Value} {row : Option Nat} (h : Sl w S l v) (hg : w.grownBy w' row) (hS : ∀ b, S b → row ≠ some b) : Sl w' S l v :=
  h.keep fun b hb hlt => ⟨hg.block b hlt (fun e => hS b hb e.symm), hb⟩

theorem Sl.old {α : Type} [Rep α] {w : World} {S : Nat → Prop} {l : List α} {v : Value} (h : Sl w S l v) : Sl w (· < w.heap.size) l v := h.wide fun _ _ h => h

theorem Own.grown0 {α : Type} [Rep α] {w w' : World} {B : Nat} {e : TypeId} {S : Nat → Prop} {l : List α} {v : Value} (h : Own w B e S l v) (hg : w.grownBy w' none) : Own w' B e S l v :=
  h.below (below_of_grown hg (Nat.le_refl _) (by simp)) (Nat.le_refl _)
theorem Sl.grown0 {α : Type} [Rep α] {w w' : World} {S : Nat → Prop} {l : List α} {v : Value} (h : Sl w S l v) (hg : w.grownBy w' none) : Sl w' S l v := h.grown hg (by simp)
theorem Own.sl' {α : Type} [Rep α] {w : World} {B : Nat} {e : TypeId} {l : List α} {v : Value} (h : Own w B e (fun _ => False) l v) : Sl w (fun b => B ≤ b) l v :=
  h.sl (fun _ h => h.elim) fun b hb => (h.ge b hb).1
theorem _root_.Go.RowKit.Below.grown0 {B : Nat} {a w w' : World} (h : Below B a w) (hg : w.grownBy w' none) (hB : B ≤ w.heap.size) : Below B a w' := h.grown hg hB (by simp)

theorem Sl.drew {α : Type} [Rep α] {w : World} {S : Nat → Prop} {l : List α} {v : Value} (h : Sl w S l v) : Sl w.drew S l v := h.keep fun _ hb _ => ⟨rfl, hb⟩
theorem Sl.drewN {α : Type} [Rep α] {w : World} {S : Nat → Prop} {l : List α} {v : Value} (h : Sl w S l v) (n : Nat) : Sl (w.drewN n) S l v := h.keep fun _ hb _ => ⟨by simp, hb⟩

/-- x[lo:hi] in whatever world, as an equation for the walk. -/
theorem Sl.slice_run {P : Program} {α : Type} [Rep α] {w : World} {t e : TypeId} {z : Value} {bytes : Nat} {S : Nat → Prop} {l : List α} {v : Value} (hx : Sl w S l v) (hr : Row P t e z (Rep.sz α) bytes)
    (k k' : IntKind) (n m : Int) (h0 : 0 ≤ n) (hn : n ≤ m) (hm : m ≤ l.length) :
    ∃ u, (∀ w', (Instr.slice t v (some (.int k n)) (some (.int k' m)) none).run P w' = .ok u w') ∧ Sl w S ((l.take m.toNat).drop n.toNat) u := by
  have hx' := hx
  obtain ⟨ao, cap, cs, rfl, hcap, _⟩ := hx
  have he : P.elem t = e := by simp [Program.elem, hr.1]
  refine ⟨_, fun w' => ?_, hx'.cut n.toNat m.toNat (by omega) (by omega)⟩
  have hrun := run_slice_lh (P := P) w' t ao l.length cap (by rw [he]; exact hr.1) k k' n m h0 hn (by omega)
  rw [he, run_sizeOf_row hr] at hrun
  exact hrun

theorem Sl.slice_run_h {P : Program} {α : Type} [Rep α] {w : World} {t e : TypeId} {z : Value} {bytes : Nat} {S : Nat → Prop} {l : List α} {v : Value} (hx : Sl w S l v) (hr : Row P t e z (Rep.sz α) bytes)
    (k' : IntKind) (m : Int) (h0 : 0 ≤ m) (hm : m ≤ l.length) :
    ∃ u, (∀ w', (Instr.slice t v none (some (.int k' m)) none).run P w' = .ok u w') ∧ Sl w S (l.take m.toNat) u := by
  have hx' := hx
  obtain ⟨ao, cap, cs, rfl, hcap, _⟩ := hx
  have he : P.elem t = e := by simp [Program.elem, hr.1]
  have hcut := hx'.cut 0 m.toNat (by omega) (by omega)
  rw [List.drop_zero] at hcut
  refine ⟨_, fun w' => ?_, hcut⟩
  have hrun := run_slice_h (P := P) w' t ao l.length cap (by rw [he]; exact hr.1) k' m h0 (by omega)
  rw [he, run_sizeOf_row hr] at hrun
  exact hrun

theorem Sl.slice_run_l {P : Program} {α : Type} [Rep α] {w : World} {t e : TypeId} {z : Value} {bytes : Nat} {S : Nat → Prop} {l : List α} {v : Value} (hx : Sl w S l v) (hr : Row P t e z (Rep.sz α) bytes)
    (k : IntKind) (n : Int) (h0 : 0 ≤ n) (hn : n ≤ l.length) :
    ∃ u, (∀ w', (Instr.slice t v (some (.int k n)) none none).run P w' = .ok u w') ∧ Sl w S (l.drop n.toNat) u := by
  have hx' := hx
  obtain ⟨ao, cap, cs, rfl, hcap, _⟩ := hx
  have he : P.elem t = e := by simp [Program.elem, hr.1]
  have hcut := hx'.cut n.toNat l.length (by omega) (by omega)
  rw [List.take_length] at hcut
  refine ⟨_, fun w' => ?_, hcut⟩
  have hrun := run_slice_l (P := P) w' t ao l.length cap (by rw [he]; exact hr.1) k n h0 hn
  rw [he, run_sizeOf_row hr] at hrun
  exact hrun

theorem Sl.len_run {P : Program} {α : Type} [Rep α] {w : World} {t e : TypeId} {S : Nat → Prop} {l : List α} {v : Value} (hx : Sl w S l v) (ht : P.underlying t = some (.slice e)) :
    ∀ ty w', (Builtin.len_ #[t] ty #[v]).run P w' = .ok (.int .i64 (l.length : Int)) w' := by
  obtain ⟨ao, cap, cs, rfl, _⟩ := hx
  intro ty w'
  have he : P.elem t = e := by simp [Program.elem, ht]
  exact run_len_slice (P := P) w' t ty ao l.length cap (by rw [he]; exact ht)

/-- &x[i] in whatever world, as an equation for the walk; the byte that lies there. -/
theorem Sl.index_run {P : Program} {w : World} {t e : TypeId} {z : Value} {bytes : Nat} {S : Nat → Prop} {l : List UInt8} {v : Value} (hx : Sl w S l v) (hr : Row P t e z 1 bytes)
    (k : IntKind) (n : Int) (h0 : 0 ≤ n) (hn : n < l.length) :
    ∃ b o y, l[n.toNat]? = some y ∧ (∀ w', (Instr.indexAt t v (.int k n)).run P w' = .ok (.pointer (some ⟨b, o, none⟩)) w') ∧ w.cell? ⟨b, o, none⟩ = some (.int .u8 (y.toNat : Int)) := by
  obtain ⟨ao, cap, cs, rfl, hcap, _, hnone, hcs, _, hloc⟩ := hx
  obtain rfl := rds_u8_cells.1 hcs
  have he : P.elem t = e := by simp [Program.elem, hr.1]
  have hlt : n.toNat < l.length := by omega
  have hy : l[n.toNat]? = some l[n.toNat] := List.getElem?_eq_getElem hlt
  cases ao with
  | none => have := hnone rfl; omega
  | some ad =>
    have hcell := hloc ad rfl n.toNat (.int .u8 (l[n.toNat].toNat : Int)) (by simp [hy])
    have hspot : ∃ b o, ad.add n.toNat = ⟨b, o, none⟩ := by
      generalize ad.add n.toNat = q at hcell
      obtain ⟨b, o, sp⟩ := q
      cases sp with
      | none => exact ⟨b, o, rfl⟩
      | some s =>
        exfalso
        unfold World.cell? at hcell
        split at hcell <;> simp at hcell
    obtain ⟨b, o, hq⟩ := hspot
    rw [hq] at hcell
    refine ⟨b, o, _, hy, fun w' => ?_, hcell⟩
    have hrun := run_indexAt_slice (P := P) w' t ad l.length cap k n (by rw [he]; exact hr.1)
    rw [if_pos ⟨h0, hn⟩, he, run_sizeOf_row hr] at hrun
    simp only [Result.andThen, Nat.mul_one, hq] at hrun
    exact hrun

theorem quiet_same {P : Program} {f : FuncId} {args : Array Value} {w : World} {n : Nat} {v : Value}
    (h : Calls P f args (w.drewN n) fun e w' => e = .returned v ∧ w.drewN n = w') : Calls P f args (w.drewN n) fun e w'' => e = .returned v ∧ ∃ m, w'' = w.drewN m :=
  h.mono fun _ _ ⟨he, hm⟩ => ⟨he, n, hm.symm⟩
theorem below_draws (B : Nat) (w : World) (n : Nat) : Below B w (w.drewN n) := ⟨rfl, rfl, rfl, Nat.le_refl _, fun _ _ => rfl⟩

/-- A row of the call's own whose elements lie in other blocks. -/
def OwnR {α : Type} [Rep α] (w : World) (B : Nat) (e : TypeId) (l : List α) (v : Value) : Prop := Own w B e (fun b => b < w.heap.size ∧ v.ownBlock ≠ some b) l v

theorem OwnR.nil {α : Type} [Rep α] (w : World) (B : Nat) (e : TypeId) : OwnR w B e ([] : List α) (.slice none 0 0) := Own.nil _ _ _ _

theorem OwnR.ge {α : Type} [Rep α] {w : World} {B : Nat} {e : TypeId} {l : List α} {v : Value} (h : OwnR w B e l v) : ∀ b, v.ownBlock = some b → B ≤ b ∧ b < w.heap.size := Own.ge h

theorem OwnR.below {α : Type} [Rep α] {w w' : World} {B : Nat} {e : TypeId} {l : List α} {v : Value} (h : OwnR w B e l v) {C : Nat} (hb : Below C w w') (hC : w.heap.size ≤ C) : OwnR w' B e l v :=
  Own.keep h (fun b hb' hlt => ⟨hb.block b (by omega), by have := hb.size; omega, hb'.2⟩) fun b hv => hb.block b (by have := h.ge b hv; omega)

theorem OwnR.grown {α : Type} [Rep α] {w w' : World} {B : Nat} {e : TypeId} {l : List α} {v : Value} {row : Option Nat} (h : OwnR w B e l v) (hg : w.grownBy w' row) (hr : ∀ k, row = some k → w.heap.size ≤ k) : OwnR w' B e l v :=
  h.below (below_of_grown hg (Nat.le_refl _) hr) (Nat.le_refl _)

theorem OwnR.grown0 {α : Type} [Rep α] {w w' : World} {B : Nat} {e : TypeId} {l : List α} {v : Value} (h : OwnR w B e l v) (hg : w.grownBy w' none) : OwnR w' B e l v := h.grown hg (by simp)

theorem OwnR.sl {α : Type} [Rep α] {w : World} {B : Nat} {e : TypeId} {l : List α} {v : Value} (h : OwnR w B e l v) : Sl w (· < w.heap.size) l v :=
  Own.sl h (fun _ h _ => h.1) fun b hb => (h.ge b hb).2

theorem wpList_appendR {P : Program} {ops : Array Oper} {Q : Exit → Act → World → Prop} {a : Act} {w : World} {rest : List Oper} {dst : Option Tmp} {ty : TypeId} {pos : String} {after : Array Edge}
    {α : Type} [Rep α] {s x : Operand} {t e : TypeId} {z : Value} {bytes : Nat} {B : Nat} {S' : Nat → Prop} {l m : List α} (hr : Row P t e z (Rep.sz α) bytes) (hz : z.cells.size = Rep.sz α) (hsz : 0 < Rep.sz α)
    (hs : OwnR w B e l (a.eval s)) (hx : Sl w S' m (a.eval x)) (hS : ∀ b, S' b → b < w.heap.size → (a.eval s).ownBlock ≠ some b)
    (h63 : l.length + m.length ≤ maxLen) (hbytes : (l.length + m.length) * bytes ≤ 140737488355328) (hB : B ≤ w.heap.size)
    (h : ∀ v' w', OwnR w' B e (l ++ m) v' → w.grownBy w' (a.eval s).ownBlock → (v'.ownBlock = (a.eval s).ownBlock ∨ ∃ g, v'.ownBlock = some g ∧ w.heap.size ≤ g) → wpList P ops Q rest (a.put dst v') w') :
    wpList P ops Q (⟨dst, .call ⟨.builtin .append, #[s, x], #[t, t]⟩, ty, pos, after, none⟩ :: rest) a w := by
  refine wpList_append hr hz hsz hs (hx.wide (S' := fun b => S' b ∧ b < w.heap.size) fun b h1 h2 => ⟨h1, h2⟩) (fun y cs hy => rds_keep hy fun b hb hlt => ⟨rfl, hlt, hS b hb.1 hlt⟩) (fun b hb _ => hb.2) h63 hbytes hB fun v' w' h1 h2 h3 => ?_
  refine h v' w' ?_ h2 h3
  refine Own.keep h1 (fun b hb hlt => ⟨rfl, hlt, ?_⟩) fun b _ => rfl
  rcases h3 with h3 | ⟨g, h3, h4⟩
  · rw [h3]; exact hb.2
  · rw [h3]; intro e; cases e; omega

/-- Element i of bytes of the call's own: where it lies, and what is owned when it has been written. -/
theorem Own.at {P : Program} {w : World} {B : Nat} {t e : TypeId} {z : Value} {bytes : Nat} {l : List UInt8} {v : Value} (h : Own w B e (fun _ => False) l v) (hr : Row P t e z 1 bytes) (i : Nat) (hi : i < l.length) :
    ∃ g o y, l[i]? = some y ∧ v.ownBlock = some g ∧ (∀ (k : IntKind) w', (Instr.indexAt t v (.int k (i : Int))).run P w' = .ok (.pointer (some ⟨g, o, none⟩)) w') ∧ w.cell? ⟨g, o, none⟩ = some (.int .u8 (y.toNat : Int)) ∧ w.frozen? ⟨g, o, none⟩ = false ∧
      ∀ y' : UInt8, Own (w.setCell ⟨g, o, none⟩ (.int .u8 (y'.toNat : Int))) B e (fun _ => False) (l.set i y') v := by
  obtain ⟨cs, c1, c2⟩ := h
  obtain rfl := rds_u8_cells.1 c1
  have he : P.elem t = e := by simp [Program.elem, hr.1]
  have hcells := fun g o cap n' => rowAt.cells c2 (g := g) (o := o) (cap := cap) (n' := n')
  rcases c2 with ⟨rfl, hn, _⟩ | ⟨g, o, cap, cur, rfl, hg, hh, hcap, hm, hs, ht⟩
  · omega
  · have hs : o + cap ≤ cur.size := by have e1 : cap * Rep.sz UInt8 = cap := Nat.mul_one _; omega
    have ht : (cur.toList.drop o).take l.length = l.map fun b => Value.int .u8 (b.toNat : Int) := by rw [← ht]; congr 1; exact (Nat.mul_one _).symm
    have hcell := hcells g o cap _ rfl i (.int .u8 (l[i].toNat : Int)) (by simp [hi])
    refine ⟨g, o + i, l[i], by simp [hi], rfl, fun k w' => ?_, hcell, by simp [World.frozen?, hh], fun y' => ?_⟩
    · have hrun := run_indexAt_slice (P := P) w' t ⟨g, o, none⟩ l.length cap k i (by rw [he]; exact hr.1)
      rw [if_pos ⟨by omega, by omega⟩, he, run_sizeOf_row hr] at hrun
      simp only [Result.andThen, Nat.mul_one, add_lit] at hrun
      exact hrun
    · refine ⟨(l.set i y').map fun b => Value.int .u8 (b.toNat : Int), rds_u8_cells.2 rfl, .inr ⟨g, o, cap, cur.setIfInBounds (o + i) (.int .u8 (y'.toNat : Int)), by simp, hg, ?_, by simpa using hcap, hm, ?_, ?_⟩⟩
      · simp only [World.setCell, Array.getElem?_modify, if_true, hh, Option.map_some]
        rfl
      · have e1 : cap * Rep.sz UInt8 = cap := Nat.mul_one _
        simp; omega
      · have e1 : (l.set i y').length * Rep.sz UInt8 = l.length := by rw [List.length_set]; exact Nat.mul_one _
        rw [e1, Array.toList_setIfInBounds, List.drop_set, if_neg (by omega), show o + i - o = i by omega, List.take_set, ht, List.map_set]

theorem Own.drew {α : Type} [Rep α] {w : World} {B : Nat} {e : TypeId} {S : Nat → Prop} {l : List α} {v : Value} (h : Own w B e S l v) : Own w.drew B e S l v := h.keep (fun _ hb _ => ⟨rfl, hb⟩) fun _ _ => rfl

/-- copy into a row that is known whole; all of the source has room. -/
theorem wpList_copyB {P : Program} {ops : Array Oper} {Q : Exit → Act → World → Prop} {a : Act} {w : World} {rest : List Oper} {dst : Option Tmp} {ty : TypeId} {pos : String} {after : Array Edge}
    {d s : Operand} {t e : TypeId} {z : Value} {bytes : Nat} {S : Nat → Prop} {l : List UInt8} (hr : Row P t e z 1 bytes) (g off : Nat) (cur : List Value) (hg : w.heap[g]? = some (.cells cur.toArray e (0, 0)))
    {dp : Option Addr} {dLen dCap : Nat} (hd : a.eval d = .slice dp dLen dCap) (hx : Sl w S l (a.eval s)) (hpos : 0 < l.length → dp = some ⟨g, off, none⟩) (hlen : l.length ≤ dLen) (hfit : off + l.length ≤ cur.length)
    (h : ∀ w', w'.heap[g]? = some (.cells (splice cur off (l.map fun b => Value.int .u8 (b.toNat : Int))).toArray e (0, 0)) → w.grownBy w' (some g) → wpList P ops Q rest (a.put dst (.int .i64 (l.length : Int))) w') :
    wpList P ops Q (⟨dst, .call ⟨.builtin .copy, #[d, s], #[t, t]⟩, ty, pos, after, none⟩ :: rest) a w := by
  obtain ⟨ao, cap, cs, hv, h1, h2, h3, h4, h5, h6⟩ := hx
  obtain rfl := rds_u8_cells.1 h4
  obtain ⟨ht, hinfo⟩ := hr
  obtain ⟨inf, hi, hi2⟩ := Option.map_eq_some_iff.1 hinfo
  simp only [Prod.mk.injEq] at hi2
  have hsz : (P.info? e).map (·.size) = some 1 := by rw [hi]; simp [hi2.2.1]
  by_cases h0 : l.length = 0
  · obtain rfl : l = [] := List.eq_nil_of_length_eq_zero h0
    refine wpList_copy_nothing rfl d s t t rfl e ht hsz dp ao dLen dCap 0 cap hd (by simpa using hv) (by simp) ?_
    exact h w (by simpa [splice] using hg) (World.grownBy.refl w _)
  · have hdp := hpos (by omega)
    subst hdp
    cases ao with
    | none => have := h3 rfl; omega
    | some ad =>
      have hcl : (l.map fun b => Value.int .u8 (b.toNat : Int)).length = l.length := by simp
      have hrun := run_copy_row (P := P) w t t ty e g off dLen dCap ad l.length cap cur.toArray e (l.map fun b => Value.int .u8 (b.toNat : Int)) ht hsz hg (by rw [hcl]; exact (Nat.min_eq_left hlen).symm) (fun j v hj => h6 ad rfl j v hj) (by rw [hcl]; simpa using hfit)
        (by intro v hv; obtain ⟨b, _, rfl⟩ := List.mem_map.1 hv; rfl)
      refine wpList_plain rfl fun K hK => ?_
      unfold Oper.wp
      simp only [BigFrame.execOp_builtin, BigFrame.builtin_copy, List.map_toArray, List.map_cons, List.map_nil, hv, hd, Sem.run_bind, hrun, Result.andThen_ok, Sem.run_pure]
      refine hK _ _ ?_
      have h' := h (w.setRow g (splice cur off (l.map fun b => Value.int .u8 (b.toNat : Int))).toArray) (setRow_heap w g _ _ e _ hg) ⟨rfl, rfl, rfl, by simp, fun k hk hne => setRow_other w g k _ (fun e => hne (by rw [e]))⟩
      rw [hcl]
      simpa [splice, goInt] using h'

/-- v[:n:n] at a row's head. -/
theorem wpList_slice_full {P : Program} {ops : Array Oper} {Q : Exit → Act → World → Prop} {a : Act} {w : World} {rest : List Oper} {dst : Option Tmp} {ty : TypeId} {pos : String} {after : Array Edge}
    {x i j : Operand} {t e : TypeId} {z : Value} {bytes sz : Nat} (hr : Row P t e z sz bytes) {ad : Addr} {len cap : Nat} (hx : a.eval x = .slice (some ad) len cap) {k k' : IntKind} {n : Nat} (hi : a.eval i = .int k n) (hj : a.eval j = .int k' n) (hn : n ≤ cap)
    (h : wpList P ops Q rest (a.put dst (.slice (some ad) n n)) w) :
    wpList P ops Q (⟨dst, .slice t x none (some i) (some j), ty, pos, after, none⟩ :: rest) a w := by
  have he : P.elem t = e := by simp [Program.elem, hr.1]
  have hrun := run_slice_hm (P := P) w t (some ad) len cap (by rw [he]; exact hr.1) k k' n n (by omega) (by omega) (by omega)
  rw [he, run_sizeOf_row hr] at hrun
  have hsl := (run_sliceAt_slice (P := P) w t (.slice (some ad) len cap) none (some (.int k n)) (some (.int k' n)) (by rw [he]; exact hr.1)).trans hrun
  have e1 : sliced (some ad) 0 n n sz = .slice (some ad) n n := by simp [sliced, Addr.add]
  refine wpList_plain rfl fun K hK => ?_
  unfold Oper.wp
  simp only [execOp, hi, hj, hx, Option.map_some, Option.map_none, Sem.run_bind, hsl, Result.andThen_ok, Sem.run_pure, Int.toNat_natCast, e1]
  exact hK _ _ h

/-- v[off:] of a slice that is written out. -/
theorem wpList_slice_from {P : Program} {ops : Array Oper} {Q : Exit → Act → World → Prop} {a : Act} {w : World} {rest : List Oper} {dst : Option Tmp} {ty : TypeId} {pos : String} {after : Array Edge}
    {x i : Operand} {t e : TypeId} {z : Value} {bytes : Nat} (hr : Row P t e z 1 bytes) {g o len : Nat} (hx : a.eval x = .slice (some ⟨g, o, none⟩) len len) {k : IntKind} {n : Nat} (hi : a.eval i = .int k n) (hn : n ≤ len)
    (h : ∀ ao, (n < len → ao = some ⟨g, o + n, none⟩) → wpList P ops Q rest (a.put dst (.slice ao (len - n) (len - n))) w) :
    wpList P ops Q (⟨dst, .slice t x (some i) none none, ty, pos, after, none⟩ :: rest) a w := by
  have he : P.elem t = e := by simp [Program.elem, hr.1]
  have hrun := run_slice_l (P := P) w t (some ⟨g, o, none⟩) len len (by rw [he]; exact hr.1) k n (by omega) (by omega)
  rw [he, run_sizeOf_row hr] at hrun
  have hsl := (run_sliceAt_slice (P := P) w t (.slice (some ⟨g, o, none⟩) len len) (some (.int k n)) none none (by rw [he]; exact hr.1)).trans hrun
  refine wpList_plain rfl fun K hK => ?_
  unfold Oper.wp
  simp only [execOp, hi, hx, Option.map_some, Option.map_none, Sem.run_bind, hsl, Result.andThen_ok, Sem.run_pure, Int.toNat_natCast, sliced]
  refine hK _ _ (h _ fun hlt => ?_)
  rw [if_neg (by omega)]
  simp [add_lit]

theorem splice_end {α : Type} (A R C : List α) : splice (A ++ R) A.length C = A ++ C ++ R.drop C.length := by
  unfold splice
  rw [List.take_left, List.drop_append, List.drop_eq_nil_of_le (by omega)]
  simp

theorem rds_cons {α : Type} [Rep α] {w : World} {S : Nat → Prop} {y : List α} {l : List (List α)} {v : Value} {vs : List Value} (h : Sl w S y v) (hs : rds w S l vs) : rds w S (y :: l) (v :: vs) := ⟨[v], vs, rfl, ⟨v, rfl, h⟩, hs⟩

theorem Own.slGe {α : Type} [Rep α] {w : World} {B : Nat} {e : TypeId} {S : Nat → Prop} {l : List α} {v : Value} (h : Own w B e S l v) : Sl w (fun b => S b ∨ B ≤ b) l v := h.sl (fun _ h _ => .inl h) fun b hb => .inr (h.ge b hb).1

/-- An operation whose guard lets it be carried out, as if it had none. -/
theorem wpList_unguard {P : Program} {ops : Array Oper} {Q : Exit → Act → World → Prop} {a : Act} {w : World} {rest : List Oper} {dst : Option Tmp} {op : Op} {ty : TypeId} {pos : String} {after : Array Edge} {g : Nat × Bool}
    (hw : Region.wanted ⟨dst, op, ty, pos, after, some g⟩ (yielded ops a.tmps) = true) (h : wpList P ops Q (⟨dst, op, ty, pos, after, none⟩ :: rest) a w) :
    wpList P ops Q (⟨dst, op, ty, pos, after, some g⟩ :: rest) a w := by
  have h' : Oper.wp P ⟨dst, op, ty, pos, after, none⟩ a w (wpList P ops Q rest) Q ∨ (Oper.asks P ⟨dst, op, ty, pos, after, none⟩ a w ∧ LetsOut Q) := by
    unfold wpList at h
    rw [if_pos (by simp [Region.wanted])] at h
    exact h
  have e : execOp a.eval ⟨dst, op, ty, pos, after, some g⟩ = execOp a.eval ⟨dst, op, ty, pos, after, none⟩ := by
    cases op <;> rfl
  unfold wpList
  rw [if_pos hw]
  rcases h' with h' | ⟨h1, h2⟩
  · left
    unfold Oper.wp at h' ⊢
    rw [e]
    exact h'
  · right
    refine ⟨?_, h2⟩
    unfold Oper.asks at h1 ⊢
    rw [e]
    exact h1

theorem cell?_freeze (w : World) (a b : Addr) (n : Nat) : (w.freeze a n).cell? b = w.cell? b := by
  unfold World.freeze
  split
  · rfl
  · simp only [World.cell?, Array.getElem?_modify]
    by_cases h : a.block = b.block
    · simp only [h, if_true]
      cases hh : w.heap[b.block]? with
      | none => rfl
      | some o => cases o <;> simp
    · simp [h]

theorem grownBy_freeze (w : World) (a : Addr) (n : Nat) : w.grownBy (w.freeze a n) (some a.block) ∧ (w.freeze a n).heap.size = w.heap.size := by
  unfold World.freeze
  split
  · exact ⟨World.grownBy.refl _ _, rfl⟩
  · refine ⟨⟨rfl, rfl, rfl, by simp, fun k hk hne => ?_⟩, by simp⟩
    simp only [Array.getElem?_modify]
    rw [if_neg (fun e => hne (by rw [e]))]

/-- cells read the same: so do values. -/
theorem cells_sl_u8 {w w' : World} {S : Nat → Prop} {l : List UInt8} {v : Value} (h : Sl w S l v) (hc : ∀ a, w'.cell? a = w.cell? a) : Sl w' S l v := by
  obtain ⟨ao, cap, cs, rfl, h1, h2, h3, h4, h5, h6⟩ := h
  exact ⟨ao, cap, cs, rfl, h1, h2, h3, rds_u8 h4, h5, fun a ha j u hu => by rw [hc]; exact h6 a ha j u hu⟩

/-- []byte(x) of a slice: a mark behind its block. -/
theorem wpList_mark {P : Program} {ops : Array Oper} {Q : Exit → Act → World → Prop} {a : Act} {w : World} {rest : List Oper} {dst : Option Tmp} {ty : TypeId} {pos : String} {after : Array Edge}
    {x : Operand} {t e : TypeId} {S : Nat → Prop} {l : List UInt8} {g : Nat} (ht : P.underlying t = some (.slice e)) (he : P.underlying e = some (.int .u8)) (hx : Sl w S l (a.eval x)) (hg : (a.eval x).ownBlock = some g)
    (h : ∀ w', Sl w' S l (a.eval x) → w.grownBy w' (some g) → w'.heap.size = w.heap.size → wpList P ops Q rest (a.put dst (a.eval x)) w') :
    wpList P ops Q (⟨dst, .convert t t x, ty, pos, after, none⟩ :: rest) a w := by
  have hx' := hx
  obtain ⟨ao, cap, cs, hv, _⟩ := hx
  have had : ∃ ad, ao = some ad ∧ ad.block = g := by
    rw [hv] at hg
    cases ao with
    | none => cases hg
    | some ad => cases hg; exact ⟨ad, rfl, rfl⟩
  obtain ⟨ad, rfl, hgb⟩ := had
  subst hgb
  rw [hv] at hx' h
  refine wpList_plain rfl fun K hK => ?_
  cases hsh : w.shape? ad.block with
  | none =>
    have hrun : (convert t t (.slice (some ad) l.length cap)).run P w = .ok (.slice (some ad) l.length cap) w := by
      simp [convert, run_underlying ht, run_underlying he, markStringish, hsh]
    unfold Oper.wp
    simp only [execOp, hv, Sem.run_bind, hrun, Result.andThen_ok, Sem.run_pure]
    exact hK _ _ (h w hx' (World.grownBy.refl _ _) rfl)
  | some p =>
    obtain ⟨q, n⟩ := p
    have hrun : (convert t t (.slice (some ad) l.length cap)).run P w = .ok (.slice (some ad) l.length cap) (w.freeze ⟨ad.block, n, none⟩ 1) := by
      simp [convert, run_underlying ht, run_underlying he, markStringish, hsh]
    have hf := grownBy_freeze w ⟨ad.block, n, none⟩ 1
    unfold Oper.wp
    simp only [execOp, hv, Sem.run_bind, hrun, Result.andThen_ok, Sem.run_pure]
    exact hK _ _ (h _ (cells_sl_u8 hx' (cell?_freeze w _ · _)) hf.1 hf.2)

end Go.Arm
