/- The bytes of a note; package note: Pack's own function; the state in which Pack writes. -/
import Derived.Test.YtjkffjngamagkaaDoorNoteRight
namespace Go.Arm
open Go.RowKit
def hasF (k i : Nat) : Bool := (sortMask k).testBit i
def numsOf (n : NoteR) : List Nat := [n.txn.toNat, n.batch.toNat, n.stamp.toNat, n.after.toNat, n.mark.toNat, n.query.toNat, n.id.toNat, n.k.toNat, n.ef.toNat, n.code.toNat, n.who.toNat]
def encFrom (k : Nat) : Nat → List Nat → List UInt8
 | _, [] => []
 | i, x :: l => (if hasF k i then enc x else []) ++ encFrom k (i + 1) l
def encParts (l : List Int) : List UInt8 := l.flatMap fun p => enc p.toNat
def encOps (l : List OpR) : List UInt8 := l.flatMap fun o => enc o.id.toNat ++ encVec o.vec
def encHits (l : List HitR) : List UInt8 := l.flatMap fun h => enc h.id.toNat ++ enc h.dist.toNat ++ encVec h.vec
def secP (n : NoteR) : List UInt8 := if hasF n.kind.toNat 11 then enc n.parts.length ++ encParts n.parts else []
def secO (n : NoteR) : List UInt8 := if hasF n.kind.toNat 12 then enc n.ops.length ++ encOps n.ops else []
def secV (n : NoteR) : List UInt8 := if hasF n.kind.toNat 13 then encVec n.vec else []
def secH (n : NoteR) : List UInt8 := if hasF n.kind.toNat 14 then enc n.hits.length ++ encHits n.hits else []
def encNote (n : NoteR) : List UInt8 := enc n.kind.toNat ++ encFrom n.kind.toNat 0 (numsOf n) ++ secP n ++ secO n ++ secV n ++ secH n
theorem encFrom_len (k : Nat) : ∀ (l : List Nat) (i : Nat), (∀ x ∈ l, x < 18446744073709551616) → (encFrom k i l).length ≤ l.length * 10
 | [], _, _ => by simp [encFrom]
 | x :: l, i, h => by
  have ih := encFrom_len k l (i + 1) fun y hy => h y (by simp [hy])
  have := enc_len10 x (h x (by simp))
  rw [encFrom, List.length_append, List.length_cons]
  split <;> simp <;> omega
end Go.Arm
namespace Go.Proofs.YtjkffjngamagkaaDoor
open Go Go.RowKit Go.Arm
theorem and_bit (k i : Nat) (hk : k < 23) (hi : i < 15) : (bits .and .i64 (sortMask k : Int) ((2 ^ i : Nat) : Int) != 0) = hasF k i := by
 have h1 := sortMask_lt k
 have hp : 2 ^ i ≤ 2 ^ 14 := Nat.pow_le_pow_right (by decide) (by omega)
 rw [(i64_bits _ _ (by omega) (by omega)).2]
 have : ∀ k : Fin 23, ∀ i : Fin 15, (((sortMask k.val &&& 2 ^ i.val : Nat) : Int) != 0) = hasF k.val i.val := by decide +kernel
 exact this ⟨k, hk⟩ ⟨i, hi⟩
set_option maxRecDepth 100000 in
theorem pack1_any (w : World) (b : Nat) (n : NoteR) (vp vo vv vh : Value) (i : Nat) (hN : Srt w) (hb : Box w b n vp vo vv vh) (hk : n.kind.toNat < 23) (hi : i < 15) :
  Calls Tryd.prog 59 #[.int .i64 ((2 ^ i : Nat) : Int), .pointer (some ⟨b, 0, none⟩)] w fun e w' => e = .returned (.bool (hasF n.kind.toNat i)) ∧ w = w' := by
 have c0 := hb.cells.1
 have ha := and_bit n.kind.toNat i hk hi
 generalize 2 ^ i = F at *
 clear hb
 go_enter Tryd.func59, Tryd.ntmps59
 go_wp2_with (first | ((with_reducible apply ugZ); rfl) | ((with_reducible (first | apply len_B | apply len_BB | apply len_N | apply len_V | apply len_VV | apply len_P | apply len_O | apply len_H)); assumption) | ((with_reducible refine stop_if kT ?_ ?_); rfl))
 refine Stop.go (idx_sort hN rfl hk fun s0 s1 => ?_)
 go_wp2_with (first | ((with_reducible apply ugZ); rfl) | ((with_reducible (first | apply len_B | apply len_BB | apply len_N | apply len_V | apply len_VV | apply len_P | apply len_O | apply len_H)); assumption) | ((with_reducible refine stop_if kT ?_ ?_); rfl))
 go_ret
 exact ⟨rfl, rfl⟩
structure PkS (w0 w : World) (b g : Nat) (n : NoteR) (vp vo vv vh : Value) (h : Option Nat) (L : List UInt8) : Prop where
 bx : Box w b n vp vo vv vh
 wf : Wf w0 w g h L
 bl : Below w0.heap.size w0 w
 bg : b ≠ g
 bh : h ≠ some b
 bge : w0.heap.size ≤ b
section
variable {w0 w w' : World} {b g : Nat} {n : NoteR} {vp vo vv vh : Value} {h h' : Option Nat} {L L' : List UInt8}
theorem PkS.alloc (s : PkS w0 w b g n vp vo vv vh h L) (hb : Below w.heap.size w w') : PkS w0 w' b g n vp vo vv vh h L :=
 ⟨s.bx.below hb s.bx.lt, s.wf.keep hb, below_on s.bl hb s.bl.size, s.bg, s.bh, s.bge⟩
theorem PkS.write (s : PkS w0 w b g n vp vo vv vh h L) (hw : Wr w' g h' L') (hm : Mv w w' g h h') : PkS w0 w' b g n vp vo vv vh h' L' := by
 have hbl := s.bx.lt
 refine ⟨s.bx.only hm.2 ?_, s.wf.step hw hm, s.wf.below s.bl hm, s.bg, ?_, s.bge⟩
 ·rintro (e | e)
  ·exact s.bg e
  ·exact s.bh e
 ·rcases hm.1 with e | ⟨j, e, hj⟩
  ·rw [e]; exact s.bh
  ·rw [e]; intro e2; cases e2; omega
theorem PkS.free (s : PkS w0 w b g n vp vo vv vh h L) (hb : Below w.heap.size w w') (hlt : w.heap.size < w'.heap.size) : ∀ k, (k = w.heap.size ∨ k < w0.heap.size) → k < w'.heap.size ∧ k ≠ g ∧ h ≠ some k := by
 have h1 := s.wf.wr.lt
 have h2 := s.wf.ge
 have h3 := s.bl.size
 have h4 := hb.size
 rintro k (rfl | hk)
 ·exact ⟨hlt, by omega, fun e => by have := s.wf.wr.row_lt _ e; omega⟩
 ·exact ⟨by omega, by omega, fun e => by have := s.wf.row _ e; omega⟩
theorem PkS.nums (s : PkS w0 w b g n vp vo vv vh h L) (ns : List UInt64) (q : Value) (hb : Below w.heap.size w w') (hlt : w.heap.size < w'.heap.size) (hq : Sl w' (· = w.heap.size) ns q) (hL : L.length ≤ 1000000000) (hn : ns.length ≤ 1000000) :
  Calls Tryd.prog 58 #[.pointer (some ⟨g, 0, none⟩), q] w' fun e w2 => e = .returned (.pointer (some ⟨g, 0, none⟩)) ∧ ∃ h2, PkS w0 w2 b g n vp vo vv vh h2 (L ++ encs ns) ∧ Only (fun k => k = g ∨ h = some k) w' w2 := by
 have s' := s.alloc hb
 refine (wnums_any w' g h L _ ns q s'.wf.wr hq (fun k hk => s.free hb hlt k (.inl hk)) hL hn).mono ?_
 rintro e w2 ⟨rfl, h2, a1, a2⟩
 exact ⟨rfl, h2, s'.write a1 a2, a2.2⟩
theorem PkS.vecs (s : PkS w0 w b g n vp vo vv vh h L) (vs : List (List Int32)) (q : Value) (hb : Below w.heap.size w w') (hlt : w.heap.size < w'.heap.size) (hq : Sl w' (fun k => k = w.heap.size ∨ k < w0.heap.size) vs q) (hL : L.length ≤ 1000000000) (hn : vs.length ≤ 1000000) (ht : ∀ t ∈ vs, t.length ≤ 1000) :
  Calls Tryd.prog 60 #[.pointer (some ⟨g, 0, none⟩), q] w' fun e w2 => e = .returned (.pointer (some ⟨g, 0, none⟩)) ∧ ∃ h2, PkS w0 w2 b g n vp vo vv vh h2 (L ++ encVecs vs) ∧ Only (fun k => k = g ∨ h = some k) w' w2 := by
 have s' := s.alloc hb
 refine (wvecs_any w' g h L _ vs q s'.wf.wr hq (s.free hb hlt) hL hn ht).mono ?_
 rintro e w2 ⟨rfl, h2, a1, a2⟩
 exact ⟨rfl, h2, s'.write a1 a2, a2.2⟩
end
section
variable {w0 w w' : World} {b g : Nat} {n : NoteR} {vp vo vv vh : Value} {h h' : Option Nat} {L L' : List UInt8}
theorem PkS.free' (s : PkS w0 w b g n vp vo vv vh h L) (hb : Below w.heap.size w w') {S : Nat → Prop} (hS : ∀ k, S k → w.heap.size ≤ k ∨ k < w0.heap.size) : ∀ k, S k → k < w'.heap.size → k ≠ g ∧ h ≠ some k := by
 have h1 := s.wf.wr.lt
 have h2 := s.wf.ge
 have h3 := s.bl.size
 have h4 := hb.size
 intro k hk hlt
 rcases hS k hk with hk | hk
 ·exact ⟨by omega, fun e => by have := s.wf.wr.row_lt _ e; omega⟩
 ·exact ⟨by omega, fun e => by have := s.wf.row _ e; omega⟩
theorem Sl.oldS {α : Type} [Rep α] {w : World} {S : Nat → Prop} {l : List α} {v : Value} (h : Sl w S l v) : Sl w (fun k => S k ∧ k < w.heap.size) l v := h.keep fun _ hb hlt => ⟨rfl, hb, hlt⟩
theorem PkS.nums' (s : PkS w0 w b g n vp vo vv vh h L) (ns : List UInt64) (q : Value) (hb : Below w.heap.size w w') {S : Nat → Prop} (hS : ∀ k, S k → k < w'.heap.size → k ≠ g ∧ h ≠ some k) (hq : Sl w' S ns q) (hL : L.length ≤ 1000000000) (hn : ns.length ≤ 1000000) :
  Calls Tryd.prog 58 #[.pointer (some ⟨g, 0, none⟩), q] w' fun e w2 => e = .returned (.pointer (some ⟨g, 0, none⟩)) ∧ ∃ h2, PkS w0 w2 b g n vp vo vv vh h2 (L ++ encs ns) ∧ Only (fun k => k = g ∨ h = some k) w' w2 ∧ ∀ k, k < w'.heap.size → h ≠ some k → h2 ≠ some k := by
 have s' := s.alloc hb
 refine (wnums_any w' g h L _ ns q s'.wf.wr (Sl.oldS hq) (fun k hk => ⟨hk.2, hS k hk.1 hk.2⟩) hL hn).mono ?_
 rintro e w2 ⟨rfl, h2, a1, a2⟩
 exact ⟨rfl, h2, s'.write a1 a2, a2.2, fun k h1 h2 => a2.far h1 h2⟩
theorem PkS.vecs' (s : PkS w0 w b g n vp vo vv vh h L) (vs : List (List Int32)) (q : Value) (hb : Below w.heap.size w w') {S : Nat → Prop} (hS : ∀ k, S k → k < w'.heap.size → k ≠ g ∧ h ≠ some k) (hq : Sl w' S vs q) (hL : L.length ≤ 1000000000) (hn : vs.length ≤ 1000000) (ht : ∀ t ∈ vs, t.length ≤ 1000) :
  Calls Tryd.prog 60 #[.pointer (some ⟨g, 0, none⟩), q] w' fun e w2 => e = .returned (.pointer (some ⟨g, 0, none⟩)) ∧ ∃ h2, PkS w0 w2 b g n vp vo vv vh h2 (L ++ encVecs vs) ∧ Only (fun k => k = g ∨ h = some k) w' w2 ∧ ∀ k, k < w'.heap.size → h ≠ some k → h2 ≠ some k := by
 have s' := s.alloc hb
 refine (wvecs_any w' g h L _ vs q s'.wf.wr (Sl.oldS hq) (fun k hk => ⟨hk.2, hS k hk.1 hk.2⟩) hL hn ht).mono ?_
 rintro e w2 ⟨rfl, h2, a1, a2⟩
 exact ⟨rfl, h2, s'.write a1 a2, a2.2, fun k h1 h2 => a2.far h1 h2⟩
theorem PkS.numsStep (s : PkS w0 w b g n vp vo vv vh h L) {bo : Nat} {ob : Obj} (hob : w.heap[bo]? = some ob) (hbg : bo ≠ g) (hbh : h ≠ some bo) (hb : Below w.heap.size w w') (ns : List UInt64) (q : Value) {S : Nat → Prop} (hS : ∀ k, S k → w.heap.size ≤ k ∨ k < w0.heap.size) (hq : Sl w' S ns q) {v : List Int32} {u : Value} (hv : Sl w (· < w0.heap.size) v u) (hL : L.length ≤ 1000000000) (hn : ns.length ≤ 1000000) :
  Calls Tryd.prog 58 #[.pointer (some ⟨g, 0, none⟩), q] w' fun e w2 => e = .returned (.pointer (some ⟨g, 0, none⟩)) ∧ ∃ h2, PkS w0 w2 b g n vp vo vv vh h2 (L ++ encs ns) ∧ w2.heap[bo]? = some ob ∧ h2 ≠ some bo ∧ Sl w2 (· < w0.heap.size) v u ∧
   ∀ (vs : List (List Int32)) (q2 : Value) (S2 : Nat → Prop), (∀ k, S2 k → w.heap.size ≤ k ∨ k < w0.heap.size) → Sl w' S2 vs q2 → Sl w2 (fun k => S2 k ∧ k < w'.heap.size) vs q2 ∧ ∀ k, S2 k ∧ k < w'.heap.size → k < w2.heap.size → k ≠ g ∧ h2 ≠ some k := by
 have hlt := (Array.getElem?_eq_some_iff.1 hob).1
 have hob' := (hb.block bo hlt).trans hob
 have hlt' := (Array.getElem?_eq_some_iff.1 hob').1
 refine (s.nums' ns q hb (s.free' hb hS) hq hL hn).mono ?_
 rintro e w2 ⟨rfl, h2, a1, a2, a3⟩
 have hfree : ∀ S2 : Nat → Prop, (∀ k, S2 k → w.heap.size ≤ k ∨ k < w0.heap.size) → ∀ k, S2 k → k < w'.heap.size → ¬ (k = g ∨ h = some k) := by
  rintro S2 h2 k hk hl (e | e)
  ·exact (s.free' hb h2 k hk hl).1 e
  ·exact (s.free' hb h2 k hk hl).2 e
 refine ⟨rfl, h2, a1, (a2.block bo hlt' ?_).trans hob', a3 bo hlt' hbh, (hv.below hb (Nat.le_refl _)).only a2 (hfree (· < w0.heap.size) fun _ hk => .inr hk), fun vs q2 S2 hS2 hq2 => ⟨(Sl.oldS hq2).only a2 fun k hk hl => hfree S2 hS2 k hk.1 hl, ?_⟩⟩
 ·rintro (e | e)
  ·exact hbg e
  ·exact hbh e
 ·rintro k ⟨hk, hl⟩ _
  have := hfree S2 hS2 k hk hl
  exact ⟨fun e => this (.inl e), a3 k hl fun e => this (.inr e)⟩
theorem PkS.vecsStep (s : PkS w0 w b g n vp vo vv vh h L) {bo : Nat} {ob : Obj} (hob : w.heap[bo]? = some ob) (hbg : bo ≠ g) (hbh : h ≠ some bo) (hb : Below w.heap.size w w') (v : List Int32) (q : Value) {S : Nat → Prop} (hS : ∀ k, S k → k < w'.heap.size → k ≠ g ∧ h ≠ some k) (hq : Sl w' S [v] q) (hL : L.length ≤ 1000000000) (hn : v.length ≤ 1000) :
  Calls Tryd.prog 60 #[.pointer (some ⟨g, 0, none⟩), q] w' fun e w2 => e = .returned (.pointer (some ⟨g, 0, none⟩)) ∧ ∃ h2, PkS w0 w2 b g n vp vo vv vh h2 (L ++ encVec v) ∧ w2.heap[bo]? = some ob := by
 have hlt := (Array.getElem?_eq_some_iff.1 hob).1
 have hob' := (hb.block bo hlt).trans hob
 have hlt' := (Array.getElem?_eq_some_iff.1 hob').1
 have e1 : encVecs [v] = encVec v := by simp [encVecs]
 refine (s.vecs' [v] q hb hS hq hL (by simp) (by simpa using hn)).mono ?_
 rintro e w2 ⟨rfl, h2, a1, a2, a3⟩
 rw [e1] at a1
 refine ⟨rfl, h2, a1, (a2.block bo hlt' ?_).trans hob'⟩
 rintro (e | e)
 ·exact hbg e
 ·exact hbh e
theorem only_block {F : Nat → Prop} {w w' : World} (ho : Only F w w') {k : Nat} {o : Obj} (h : w.heap[k]? = some o) (hF : ¬ F k) : w'.heap[k]? = some o := (ho.block k (Array.getElem?_eq_some_iff.1 h).1 hF).trans h
theorem two_old (w : World) (o o2 : Obj) : ((w.alloc o).alloc o2).drew.heap[w.heap.size]? = some o := by
 have h := heap_alloc_new w o
 have h2 := ((Below.refl (w.alloc o).heap.size (w.alloc o)).alloc (Nat.le_refl _) o2).block w.heap.size (Array.getElem?_eq_some_iff.1 h).1
 exact h2.trans h
theorem two_new (w : World) (o o2 : Obj) : ((w.alloc o).alloc o2).drew.heap[w.heap.size + 1]? = some o2 := by
 have e : (w.alloc o).heap.size = w.heap.size + 1 := by
  show (w.heap.push o).size = _
  exact Array.size_push _
 rw [← e]
 exact heap_alloc_new (w.alloc o) o2
end
theorem lit_n (W : World) (k v : Nat) (ty : TypeId) (hv : v < 18446744073709551616) (h : W.heap[k]? = some (.cells #[.int .u64 (v : Int)] ty (0, 0))) : Sl W (· = k) [UInt64.ofNat v] (.slice (some ⟨k, 0, none⟩) 1 1) := by
 have e : (UInt64.ofNat v).toNat = v := UInt64.toNat_ofNat_of_lt' hv
 refine ⟨some ⟨k, 0, none⟩, 1, [.int .u64 (v : Int)], rfl, by simp, by decide, by simp, ?_, ?_, ?_⟩
 ·have e2 : [Value.int .u64 (v : Int)] = [UInt64.ofNat v].map fun x => Value.int .u64 (x.toNat : Int) := by simp [e]
  rw [e2]
  exact rds_N
 ·intro a ha _; cases ha; rfl
 ·intro a ha i u hu
  cases ha
  match i, hu with
  | 0, hu => simp at hu; subst hu; simp [World.cell?, Addr.add, h]
theorem lit_n2 (W : World) (k v u : Nat) (ty : TypeId) (hv : v < 18446744073709551616) (hu : u < 18446744073709551616) (h : W.heap[k]? = some (.cells #[.int .u64 (v : Int), .int .u64 (u : Int)] ty (0, 0))) : Sl W (· = k) [UInt64.ofNat v, UInt64.ofNat u] (.slice (some ⟨k, 0, none⟩) 2 2) := by
 have e : (UInt64.ofNat v).toNat = v := UInt64.toNat_ofNat_of_lt' hv
 have e1 : (UInt64.ofNat u).toNat = u := UInt64.toNat_ofNat_of_lt' hu
 refine ⟨some ⟨k, 0, none⟩, 2, [.int .u64 (v : Int), .int .u64 (u : Int)], rfl, by simp, by decide, by simp, ?_, ?_, ?_⟩
 ·have e2 : [Value.int .u64 (v : Int), Value.int .u64 (u : Int)] = [UInt64.ofNat v, UInt64.ofNat u].map fun x => Value.int .u64 (x.toNat : Int) := by simp [e, e1]
  rw [e2]
  exact rds_N
 ·intro a ha _; cases ha; rfl
 ·intro a ha i u hu
  cases ha
  match i, hu with
  | 0, hu => simp at hu; subst hu; simp [World.cell?, Addr.add, h]
  | 1, hu => simp at hu; subst hu; simp [World.cell?, Addr.add, h]
theorem lit_v (W : World) (k m : Nat) (v : List Int32) (vv : Value) (ty : TypeId) (hv : Sl W (· < m) v vv) (h : W.heap[k]? = some (.cells #[vv] ty (0, 0))) : Sl W (fun b => b = k ∨ b < m) [v] (.slice (some ⟨k, 0, none⟩) 1 1) := by
 refine ⟨some ⟨k, 0, none⟩, 1, [vv], rfl, by simp, by decide, by simp, ?_, ?_, ?_⟩
 ·exact ⟨[vv], [], rfl, ⟨_, rfl, hv.keep fun _ hb _ => ⟨rfl, .inr hb⟩⟩, rfl⟩
 ·intro a ha _; cases ha; exact .inl rfl
 ·intro a ha i u hu
  cases ha
  match i, hu with
  | 0, hu => simp at hu; subst hu; simp [World.cell?, Addr.add, h]
section
variable {ops : Array Oper} {Q : Exit → Act → World → Prop} {a : Act} {w : World} {rest : List Oper}
variable {dst : Option Tmp} {ty : TypeId} {pos : String} {after : Array Edge}
theorem u64_of (v : Nat) (h : v < 18446744073709551616) : (UInt64.ofNat v).toNat = v := UInt64.toNat_ofNat_of_lt' h
theorem build_n1 {Q : Exit → Act → World → Prop} {x : Operand} (v : Nat) (hv : v < 18446744073709551616) (hx : a.eval x = .int .u64 (v : Int))
  (h : ∀ q w', Sl w' (· = w.heap.size) [UInt64.ofNat v] q → Below w.heap.size w w' → w.heap.size < w'.heap.size → wpList Tryd.prog ops Q rest (a.put dst q) w') :
  wpList Tryd.prog ops Q (⟨dst, .buildSlice 183 1 #[(0, x)], ty, pos, after, none⟩ :: rest) a w := by
 refine build_N (S := fun _ => False) [UInt64.ofNat v] [a.eval x] rfl rfl ?_ (by simp) fun q w' k1 k2 k3 k4 => ?_
 ·have e : [a.eval x] = [UInt64.ofNat v].map fun x => Value.int .u64 (x.toNat : Int) := by simp [hx, u64_of v hv]
  rw [e]
  exact rds_N
 ·exact h q w' (build_flat k1 k3) ⟨k2.os, k2.tape, k2.output, k2.size, fun k hk => k2.block k hk (by simp)⟩ (by omega)
theorem build_v1 {Q : Exit → Act → World → Prop} {x : Operand} {m : Nat} {v : List Int32} (hx : Sl w (· < m) v (a.eval x))
  (h : ∀ q w', Sl w' (fun k => k = w.heap.size ∨ k < m) [v] q → Below w.heap.size w w' → w.heap.size < w'.heap.size → wpList Tryd.prog ops Q rest (a.put dst q) w') :
  wpList Tryd.prog ops Q (⟨dst, .buildSlice 185 1 #[(0, x)], ty, pos, after, none⟩ :: rest) a w := by
 refine build_VV (S := (· < m)) [v] [a.eval x] rfl rfl ⟨_, _, rfl, ⟨_, rfl, hx⟩, rfl⟩ (by simp) fun q w' k1 k2 k3 k4 => ?_
 exact h q w' (k1.sl (fun b h _ => .inr h) fun b hb => .inl (by rw [k3] at hb; exact (Option.some.inj hb).symm)) ⟨k2.os, k2.tape, k2.output, k2.size, fun k hk => k2.block k hk (by simp)⟩ (by omega)
end
end Go.Proofs.YtjkffjngamagkaaDoor
