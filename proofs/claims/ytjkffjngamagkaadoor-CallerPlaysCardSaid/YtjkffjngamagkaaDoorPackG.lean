/- PackG: several texts in one. -/
import Derived.Test.YtjkffjngamagkaaDoorPackD
import Derived.Test.YtjkffjngamagkaaDoorPackE
import Derived.Test.YtjkffjngamagkaaDoorPackF
import Derived.Test.YtjkffjngamagkaaDoorPackB
import Derived.Test.YtjkffjngamagkaaDoorPackA
import Derived.Deep.DeepCutAuto
/- package note: the Reader as 'read' uses it; its own function. -/
namespace Go.Arm
open Go.RowKit
def absR (l : List UInt8) (e : Int) : RS := if e = 0 then some l else none
theorem rnum_abs (l : List UInt8) (e : Int) (most : Nat) : (rnum l e most).1 = (anum most (absR l e)).1 ∧ absR (rnum l e most).2.1 (rnum l e most).2.2 = (anum most (absR l e)).2 := by
 unfold rnum absR
 by_cases h : e = 0
 ·subst h
  simp only [ne_eq, not_true_eq_false, if_false, if_true, anum]
  by_cases h1 : (taken l most).2.2 = 0
  ·simp [h1]
  ·simp [h1]
 ·simp [h, anum]
theorem rvecs_abs (l : List UInt8) (e : Int) : (rvecs l e 8).1 = (avec (absR l e)).1 ∧ absR (rvecs l e 8).2.1 (rvecs l e 8).2.2 = (avec (absR l e)).2 := by
 unfold rvecs absR
 by_cases h : e = 0
 ·subst h
  simp only [ne_eq, not_true_eq_false, if_false, if_true, avec]
  by_cases h1 : (taken l 8).2.2 = 0
  ·by_cases h2 : (rvec (taken l 8).1 (taken l 8).2.1).2.2 = 0
   ·simp [h1, h2]
   ·simp [h1, h2]
  ·simp [h1]
 ·simp [h, avec]
theorem rvec_len : ∀ (n : Nat) (l : List UInt8), (rvec n l).2.1.length ≤ l.length
 | 0, l => by simp [rvec]
 | n + 1, l => by
  have ih := rvec_len n (taken l 18446744073709551615).2.1
  have := Go.Proofs.YtjkffjngamagkaaDoor.taken_len l 18446744073709551615
  rw [rvec]
  split
  ·simp
  ·split
   ·simp
   ·simp only; omega
theorem rnum_len (l : List UInt8) (e : Int) (most : Nat) : (rnum l e most).2.1.length ≤ l.length := by
 have := Go.Proofs.YtjkffjngamagkaaDoor.taken_len l most
 unfold rnum
 split
 ·simp
 ·split
  ·simp
  ·exact this
theorem rvecs_len (l : List UInt8) (e : Int) (m : Nat) : (rvecs l e m).2.1.length ≤ l.length := by
 have := Go.Proofs.YtjkffjngamagkaaDoor.taken_len l m
 have := rvec_len (taken l m).1 (taken l m).2.1
 unfold rvecs
 split
 ·simp
 ·split
  ·simp
  ·split
   ·simp
   ·omega
def plim : Lim := ⟨fun i => if i = 0 ∨ i = 1 ∨ i = 5 then 18446744073709551615 else if i = 7 then 16 else if i = 8 then 256 else if i = 9 then 13 else if i = 10 then 16 else 1099511627776, 16, 1099511627776⟩
def rlim : Lim := ⟨fun i => if i = 7 then 16 else if i = 8 then 256 else if i = 9 then 13 else if i = 10 then 15 else 18446744073709551615, 15, 18446744073709551615⟩
end Go.Arm
namespace Go.Proofs.YtjkffjngamagkaaDoor
open Go Go.RowKit Go.Arm
theorem lim_wide {L : Lim} (h : ∀ n : NoteR, NumsOk n → n.txn.toNat < 18446744073709551616 → n.batch.toNat < 18446744073709551616 → n.query.toNat < 18446744073709551616 → (∀ i x, (numsOf n)[i]? = some x → x ≤ L.num i)) (hp : 15 ≤ L.part) (hi : 1099511627776 ≤ L.id) (n : NoteR) (hn : nright n = true) :
  (∀ i x, (numsOf n)[i]? = some x → x ≤ L.num i) ∧ (∀ p ∈ n.parts, p.toNat ≤ L.part) ∧ (∀ o ∈ n.ops, o.id.toNat ≤ L.id) ∧ (∀ o ∈ n.hits, o.id.toNat ≤ L.id) := by
 obtain ⟨a, b, c, d, e, f⟩ := bounded_all (nright_split hn).2
 refine ⟨h n a n.txn.toNat_lt n.batch.toNat_lt n.query.toNat_lt, fun p hp' => ?_, fun o ho => ?_, fun o ho => ?_⟩
 ·have := partsFrom_mem _ _ d p hp'; omega
 ·have := e o ho
  simp only [opRight, Bool.and_eq_true, decide_eq_true_eq] at this
  omega
 ·have := f o ho
  simp only [hitRight, Bool.and_eq_true, decide_eq_true_eq] at this
  omega
set_option maxRecDepth 100000 in
theorem plim_ok : plim.Ok := by
 refine ⟨fun i => ?_, by decide, fun n hn => lim_wide (fun n hN h1 h2 h3 i x hx => ?_) (by decide) (by decide) n hn⟩
 ·unfold plim
  simp only
  (repeat' split) <;> omega
 ·obtain ⟨⟨a1, a2, a3⟩, a4, ⟨b1, b2, b3, b4⟩, c1, c2, c3, c4⟩ := hN
  rcases i with _ | _ | _ | _ | _ | _ | _ | _ | _ | _ | _ | i <;> simp [numsOf, plim] at hx ⊢ <;> omega
set_option maxRecDepth 100000 in
theorem rlim_ok : rlim.Ok := by
 refine ⟨fun i => ?_, by decide, fun n hn => lim_wide (fun n hN h1 h2 h3 i x hx => ?_) (by decide) (by decide) n hn⟩
 ·unfold rlim
  simp only
  (repeat' split) <;> omega
 ·have := n.stamp.toNat_lt
  have := n.after.toNat_lt
  have := n.mark.toNat_lt
  have := n.id.toNat_lt
  obtain ⟨⟨a1, a2, a3⟩, a4, ⟨b1, b2, b3, b4⟩, c1, c2, c3, c4⟩ := hN
  rcases i with _ | _ | _ | _ | _ | _ | _ | _ | _ | _ | _ | i <;> simp [numsOf, rlim] at hx ⊢ <;> omega
def RdA (w : World) (g : Nat) (S : Nat → Prop) (s : RS) : Prop := ∃ l e, Rd w g S l e ∧ absR l e = s ∧ l.length ≤ 1000000
theorem RdA.lt {w : World} {g : Nat} {S : Nat → Prop} {s : RS} (h : RdA w g S s) : g < w.heap.size := by
 obtain ⟨l, e, h1, _⟩ := h
 exact h1.lt
theorem RdA.only {w w' : World} {F : Nat → Prop} {g : Nat} {S : Nat → Prop} {s : RS} (h : RdA w g S s) (ho : Only F w w') (hg : ¬ F g) (hS : ∀ b, S b → b < w.heap.size → ¬ F b) : RdA w' g S s := by
 obtain ⟨l, e, h1, h2⟩ := h
 exact ⟨l, e, h1.only ho hg hS, h2⟩
theorem num_A (w : World) (g : Nat) (S : Nat → Prop) (s : RS) (most : Nat) (h : RdA w g S s) :
  Calls Tryd.prog 89 #[.pointer (some ⟨g, 0, none⟩), .int .u64 most] w fun e w' => e = .returned (.int .u64 (anum most s).1) ∧ RdA w' g S (anum most s).2 ∧ Only (· = g) w w' := by
 obtain ⟨l, e, h1, h2, h3⟩ := h
 refine (num_any' w g S l e most h1).mono ?_
 rintro _ w' ⟨rfl, h4, h5⟩
 obtain ⟨k1, k2⟩ := rnum_abs l e most
 rw [h2] at k1 k2
 exact ⟨by rw [k1], ⟨_, _, h4, k2, Nat.le_trans (rnum_len l e most) h3⟩, h5⟩
theorem vec_A (w : World) (g : Nat) (S : Nat → Prop) (s : RS) (h : RdA w g S s) :
  Calls Tryd.prog 91 #[.pointer (some ⟨g, 0, none⟩), .int .i64 8] w fun e w' => ∃ v, e = .returned v ∧ Own w' w.heap.size 21 (fun _ => False) (avec s).1 v ∧ RdA w' g S (avec s).2 ∧ Only (· = g) w w' := by
 obtain ⟨l, e, h1, h2, h3⟩ := h
 refine (vec_any w g S l e 8 h1 (by decide) (by omega)).mono ?_
 rintro _ w' ⟨v, rfl, h4, h5, h6⟩
 obtain ⟨k1, k2⟩ := rvecs_abs l e
 rw [h2] at k1 k2
 rw [show Int.toNat 8 = 8 from rfl] at h4 h5
 rw [k1] at h4
 exact ⟨v, rfl, h4, ⟨_, _, h5, k2, Nat.le_trans (rvecs_len l e 8) h3⟩, h6⟩
theorem anum_lt {most : Nat} (s : RS) : (anum most s).1 ≤ most := by
 cases s with
 | none => simp [anum]
 | some l =>
  rw [anum]
  by_cases h1 : (taken l most).2.2 = 0
  ·rw [if_neg (by simpa using h1)]
   exact (taken_form l most h1).2
  ·rw [if_pos h1]; simp
theorem cnum_lt {k i most : Nat} (s : RS) : (cnum k i most s).1 ≤ most := by
 unfold cnum
 split
 ·exact anum_lt s
 ·simp
theorem and_bit' (k i : Nat) (hi : i < 15) : (bits .and .i64 (sortMask k : Int) ((2 ^ i : Nat) : Int) == 0) = !hasF k i := by
 by_cases hk : k < 23
 ·have := and_bit k i hk hi
  rw [← this]
  simp [bne]
 ·have e : sortMask k = 0 := by rw [sortMask, sortAt_far k (by omega)]
  have e2 : hasF k i = false := by rw [hasF, e]; simp
  rw [e2, e]
  have : ∀ i : Fin 15, (bits .and .i64 ((0 : Nat) : Int) ((2 ^ i.val : Nat) : Int) == 0) = true := by decide +kernel
  exact this ⟨i, hi⟩
set_option maxRecDepth 100000 in
theorem read1_any (w : World) (g bR bF : Nat) (S : Nat → Prop) (s : RS) (k i most : Nat) (hi : i < 15) (hr : RdA w g S s) (cR : Blk w bR 99 #[.pointer (some ⟨g, 0, none⟩)]) (cF : Blk w bF 3 #[.int .i64 (sortMask k : Int)]) :
  Calls Tryd.prog 90 #[.int .i64 ((2 ^ i : Nat) : Int), .int .u64 most, .pointer (some ⟨bF, 0, none⟩), .pointer (some ⟨bR, 0, none⟩)] w fun e w' => e = .returned (.int .u64 (cnum k i most s).1) ∧ RdA w' g S (cnum k i most s).2 ∧ Only (· = g) w w' := by
 have c0 := cF.cell 0
 have c1 := cR.cell 0
 simp only [List.getElem?_toArray, List.getElem?_cons_zero] at c0 c1
 have hb := and_bit' k i hi
 obtain ⟨R, hR⟩ : ∃ R, R = cnum k i most s := ⟨_, rfl⟩
 rw [← hR]
 have HR := Lib.hid hR
 clear hR cR cF
 generalize 2 ^ i = F at *
 cases hf : hasF k i
 ·rw [hf, Bool.not_false] at hb
  have e : R = (0, s) := by rw [HR.out, cnum, hf]; rfl
  subst e
  clear HR hf
  go_enter Tryd.func90, Tryd.ntmps90
  go_wp2_with (first | ((with_reducible apply ugZ); rfl) | ((with_reducible (first | apply len_B | apply len_BB | apply len_N | apply len_V | apply len_VV | apply len_P | apply len_O | apply len_H)); assumption) | ((with_reducible refine stop_if kT ?_ ?_); rfl))
  go_ret
  exact ⟨rfl, hr, Only.refl _ _⟩
 ·rw [hf, Bool.not_true] at hb
  have e : R = anum most s := by rw [HR.out, cnum, hf]; rfl
  rw [e]
  clear HR hf e R
  have hc := num_A w g S s most hr
  generalize anum most s = A at hc
  go_enter Tryd.func90, Tryd.ntmps90
  go_wp2_with (first | ((with_reducible apply ugZ); rfl) | ((with_reducible (first | apply len_B | apply len_BB | apply len_N | apply len_V | apply len_VV | apply len_P | apply len_O | apply len_H)); assumption) | ((with_reducible refine stop_if kT ?_ ?_); rfl))
  refine hc.mono ?_
  rintro e w' ⟨rfl, h1, h2⟩
  go_wp2_with (first | ((with_reducible apply ugZ); rfl) | ((with_reducible (first | apply len_B | apply len_BB | apply len_N | apply len_V | apply len_VV | apply len_P | apply len_O | apply len_H)); assumption) | ((with_reducible refine stop_if kT ?_ ?_); rfl))
  go_ret
  exact ⟨rfl, h1, h2⟩
end Go.Proofs.YtjkffjngamagkaaDoor
/- Plain Lean: armillaryref12.Unpack's order of reading is parse's, at the document's limits. -/
namespace Go.Arm
open Go.RowKit
def setNum (n : NoteR) (i x : Nat) : NoteR :=
 match i with
 | 0 => { n with txn := UInt64.ofNat x }
 | 1 => { n with batch := UInt64.ofNat x }
 | 2 => { n with stamp := UInt64.ofNat x }
 | 3 => { n with after := UInt64.ofNat x }
 | 4 => { n with mark := UInt64.ofNat x }
 | 5 => { n with query := UInt64.ofNat x }
 | 6 => { n with id := UInt64.ofNat x }
 | 7 => { n with k := x }
 | 8 => { n with ef := x }
 | 9 => { n with code := x }
 | _ => { n with who := x }
def rstep (a : NoteR × RS) (i : Nat) : NoteR × RS :=
 if i < 11 then (setNum a.1 i (anum (rlim.num i) a.2).1, (anum (rlim.num i) a.2).2)
 else if i = 11 then ({ a.1 with parts := a.1.parts ++ (rep (apart rlim) (anum 4 a.2).1 (anum 4 a.2).2).1 }, (rep (apart rlim) (anum 4 a.2).1 (anum 4 a.2).2).2)
 else if i = 12 then ({ a.1 with ops := a.1.ops ++ (rep (aop rlim) (anum 16 a.2).1 (anum 16 a.2).2).1 }, (rep (aop rlim) (anum 16 a.2).1 (anum 16 a.2).2).2)
 else if i = 13 then ({ a.1 with vec := (avec a.2).1 }, (avec a.2).2)
 else ({ a.1 with hits := a.1.hits ++ (rep (ahit rlim) (anum 16 a.2).1 (anum 16 a.2).2).1 }, (rep (ahit rlim) (anum 16 a.2).1 (anum 16 a.2).2).2)
def kindN (k : Nat) : NoteR := mkN k [0, 0, 0, 0, 0, 0, 0, 0, 0, 0, 0] [] [] [] []
def gs {α β : Type} (f : β → α → β) (p : α → Bool) (b : β) (x : α) : β := if p x = true then f b x else b
theorem foldl_filter' {α β : Type} (f : β → α → β) (p : α → Bool) : ∀ (l : List α) (b : β), (l.filter p).foldl f b = l.foldl (gs f p) b
 | [], _ => rfl
 | x :: l, b => by
  rw [List.filter_cons, List.foldl_cons, gs]
  split
  ·rw [List.foldl_cons]; exact foldl_filter' f p l _
  ·exact foldl_filter' f p l _
theorem rstep_num (k i : Nat) (hi : i < 11) (n : NoteR) (s : RS) (h0 : setNum n i 0 = n) :
  gs rstep (hasF k) (n, s) i = (setNum n i (cnum k i (rlim.num i) s).1, (cnum k i (rlim.num i) s).2) := by
 unfold cnum gs
 cases hasF k i
 ·simp [h0]
 ·simp [rstep, hi]
theorem rstep_parts (k : Nat) (n : NoteR) (s : RS) (h0 : n.parts = []) :
  gs rstep (hasF k) (n, s) 11 = ({ n with parts := (rep (apart rlim) (cnum k 11 4 s).1 (cnum k 11 4 s).2).1 }, (rep (apart rlim) (cnum k 11 4 s).1 (cnum k 11 4 s).2).2) := by
 unfold cnum gs
 cases hasF k 11
 ·simp only [Bool.false_eq_true, if_false, rep, ← h0]
 ·simp [rstep, h0]
theorem rstep_ops (k : Nat) (n : NoteR) (s : RS) (h0 : n.ops = []) :
  gs rstep (hasF k) (n, s) 12 = ({ n with ops := (rep (aop rlim) (cnum k 12 16 s).1 (cnum k 12 16 s).2).1 }, (rep (aop rlim) (cnum k 12 16 s).1 (cnum k 12 16 s).2).2) := by
 unfold cnum gs
 cases hasF k 12
 ·simp only [Bool.false_eq_true, if_false, rep, ← h0]
 ·simp [rstep, h0]
theorem rstep_vec (k : Nat) (n : NoteR) (s : RS) (h0 : n.vec = []) :
  gs rstep (hasF k) (n, s) 13 = ({ n with vec := (if hasF k 13 then avec s else ([], s)).1 }, (if hasF k 13 then avec s else ([], s)).2) := by
 unfold gs
 cases hasF k 13
 ·simp only [Bool.false_eq_true, if_false, ← h0]
 ·simp [rstep]
theorem rstep_hits (k : Nat) (n : NoteR) (s : RS) (h0 : n.hits = []) :
  gs rstep (hasF k) (n, s) 14 = ({ n with hits := (rep (ahit rlim) (cnum k 14 16 s).1 (cnum k 14 16 s).2).1 }, (rep (ahit rlim) (cnum k 14 16 s).1 (cnum k 14 16 s).2).2) := by
 unfold cnum gs
 cases hasF k 14
 ·simp only [Bool.false_eq_true, if_false, rep, ← h0]
 ·simp [rstep, h0]
end Go.Arm
namespace Go.Proofs.YtjkffjngamagkaaDoor
open Go Go.RowKit Go.Arm
set_option maxRecDepth 100000 in
theorem parse_fold (s : RS) : parse rlim s = (fieldsOf (anum 255 s).1).foldl rstep (kindN (anum 255 s).1, (anum 255 s).2) := by
 have hF : ∀ k, fieldsOf k = (List.range 15).filter (hasF k) := fun _ => rfl
 rw [hF, foldl_filter', show List.range 15 = [0, 1, 2, 3, 4, 5, 6, 7, 8, 9, 10, 11, 12, 13, 14] from rfl]
 obtain ⟨k, t0, hK⟩ : ∃ x t, anum 255 s = (x, t) := ⟨_, _, rfl⟩
 rw [hK]
 obtain ⟨x0, t1, e0⟩ : ∃ x t, cnum k 0 (rlim.num 0) t0 = (x, t) := ⟨_, _, rfl⟩
 have r0 := rstep_num k 0 (by decide) (mkN k [0, 0, 0, 0, 0, 0, 0, 0, 0, 0, 0] [] [] [] []) t0 rfl
 rw [e0] at r0
 have r0 : gs rstep (hasF k) (mkN k [0, 0, 0, 0, 0, 0, 0, 0, 0, 0, 0] [] [] [] [], t0) 0 = (mkN k [x0, 0, 0, 0, 0, 0, 0, 0, 0, 0, 0] [] [] [] [], t1) := r0
 obtain ⟨x1, t2, e1⟩ : ∃ x t, cnum k 1 (rlim.num 1) t1 = (x, t) := ⟨_, _, rfl⟩
 have r1 := rstep_num k 1 (by decide) (mkN k [x0, 0, 0, 0, 0, 0, 0, 0, 0, 0, 0] [] [] [] []) t1 rfl
 rw [e1] at r1
 have r1 : gs rstep (hasF k) (mkN k [x0, 0, 0, 0, 0, 0, 0, 0, 0, 0, 0] [] [] [] [], t1) 1 = (mkN k [x0, x1, 0, 0, 0, 0, 0, 0, 0, 0, 0] [] [] [] [], t2) := r1
 obtain ⟨x2, t3, e2⟩ : ∃ x t, cnum k 2 (rlim.num 2) t2 = (x, t) := ⟨_, _, rfl⟩
 have r2 := rstep_num k 2 (by decide) (mkN k [x0, x1, 0, 0, 0, 0, 0, 0, 0, 0, 0] [] [] [] []) t2 rfl
 rw [e2] at r2
 have r2 : gs rstep (hasF k) (mkN k [x0, x1, 0, 0, 0, 0, 0, 0, 0, 0, 0] [] [] [] [], t2) 2 = (mkN k [x0, x1, x2, 0, 0, 0, 0, 0, 0, 0, 0] [] [] [] [], t3) := r2
 obtain ⟨x3, t4, e3⟩ : ∃ x t, cnum k 3 (rlim.num 3) t3 = (x, t) := ⟨_, _, rfl⟩
 have r3 := rstep_num k 3 (by decide) (mkN k [x0, x1, x2, 0, 0, 0, 0, 0, 0, 0, 0] [] [] [] []) t3 rfl
 rw [e3] at r3
 have r3 : gs rstep (hasF k) (mkN k [x0, x1, x2, 0, 0, 0, 0, 0, 0, 0, 0] [] [] [] [], t3) 3 = (mkN k [x0, x1, x2, x3, 0, 0, 0, 0, 0, 0, 0] [] [] [] [], t4) := r3
 obtain ⟨x4, t5, e4⟩ : ∃ x t, cnum k 4 (rlim.num 4) t4 = (x, t) := ⟨_, _, rfl⟩
 have r4 := rstep_num k 4 (by decide) (mkN k [x0, x1, x2, x3, 0, 0, 0, 0, 0, 0, 0] [] [] [] []) t4 rfl
 rw [e4] at r4
 have r4 : gs rstep (hasF k) (mkN k [x0, x1, x2, x3, 0, 0, 0, 0, 0, 0, 0] [] [] [] [], t4) 4 = (mkN k [x0, x1, x2, x3, x4, 0, 0, 0, 0, 0, 0] [] [] [] [], t5) := r4
 obtain ⟨x5, t6, e5⟩ : ∃ x t, cnum k 5 (rlim.num 5) t5 = (x, t) := ⟨_, _, rfl⟩
 have r5 := rstep_num k 5 (by decide) (mkN k [x0, x1, x2, x3, x4, 0, 0, 0, 0, 0, 0] [] [] [] []) t5 rfl
 rw [e5] at r5
 have r5 : gs rstep (hasF k) (mkN k [x0, x1, x2, x3, x4, 0, 0, 0, 0, 0, 0] [] [] [] [], t5) 5 = (mkN k [x0, x1, x2, x3, x4, x5, 0, 0, 0, 0, 0] [] [] [] [], t6) := r5
 obtain ⟨x6, t7, e6⟩ : ∃ x t, cnum k 6 (rlim.num 6) t6 = (x, t) := ⟨_, _, rfl⟩
 have r6 := rstep_num k 6 (by decide) (mkN k [x0, x1, x2, x3, x4, x5, 0, 0, 0, 0, 0] [] [] [] []) t6 rfl
 rw [e6] at r6
 have r6 : gs rstep (hasF k) (mkN k [x0, x1, x2, x3, x4, x5, 0, 0, 0, 0, 0] [] [] [] [], t6) 6 = (mkN k [x0, x1, x2, x3, x4, x5, x6, 0, 0, 0, 0] [] [] [] [], t7) := r6
 obtain ⟨x7, t8, e7⟩ : ∃ x t, cnum k 7 (rlim.num 7) t7 = (x, t) := ⟨_, _, rfl⟩
 have r7 := rstep_num k 7 (by decide) (mkN k [x0, x1, x2, x3, x4, x5, x6, 0, 0, 0, 0] [] [] [] []) t7 rfl
 rw [e7] at r7
 have r7 : gs rstep (hasF k) (mkN k [x0, x1, x2, x3, x4, x5, x6, 0, 0, 0, 0] [] [] [] [], t7) 7 = (mkN k [x0, x1, x2, x3, x4, x5, x6, x7, 0, 0, 0] [] [] [] [], t8) := r7
 obtain ⟨x8, t9, e8⟩ : ∃ x t, cnum k 8 (rlim.num 8) t8 = (x, t) := ⟨_, _, rfl⟩
 have r8 := rstep_num k 8 (by decide) (mkN k [x0, x1, x2, x3, x4, x5, x6, x7, 0, 0, 0] [] [] [] []) t8 rfl
 rw [e8] at r8
 have r8 : gs rstep (hasF k) (mkN k [x0, x1, x2, x3, x4, x5, x6, x7, 0, 0, 0] [] [] [] [], t8) 8 = (mkN k [x0, x1, x2, x3, x4, x5, x6, x7, x8, 0, 0] [] [] [] [], t9) := r8
 obtain ⟨x9, t10, e9⟩ : ∃ x t, cnum k 9 (rlim.num 9) t9 = (x, t) := ⟨_, _, rfl⟩
 have r9 := rstep_num k 9 (by decide) (mkN k [x0, x1, x2, x3, x4, x5, x6, x7, x8, 0, 0] [] [] [] []) t9 rfl
 rw [e9] at r9
 have r9 : gs rstep (hasF k) (mkN k [x0, x1, x2, x3, x4, x5, x6, x7, x8, 0, 0] [] [] [] [], t9) 9 = (mkN k [x0, x1, x2, x3, x4, x5, x6, x7, x8, x9, 0] [] [] [] [], t10) := r9
 obtain ⟨x10, t11, e10⟩ : ∃ x t, cnum k 10 (rlim.num 10) t10 = (x, t) := ⟨_, _, rfl⟩
 have r10 := rstep_num k 10 (by decide) (mkN k [x0, x1, x2, x3, x4, x5, x6, x7, x8, x9, 0] [] [] [] []) t10 rfl
 rw [e10] at r10
 have r10 : gs rstep (hasF k) (mkN k [x0, x1, x2, x3, x4, x5, x6, x7, x8, x9, 0] [] [] [] [], t10) 10 = (mkN k [x0, x1, x2, x3, x4, x5, x6, x7, x8, x9, x10] [] [] [] [], t11) := r10
 have m11 : mnums rlim k 11 0 t11 = ([], t11) := rfl
 have m10 : mnums rlim k 10 1 t10 = ([x10], t11) := by
  show ((cnum k 10 (rlim.num 10) t10).1 :: (mnums rlim k 11 0 (cnum k 10 (rlim.num 10) t10).2).1, (mnums rlim k 11 0 (cnum k 10 (rlim.num 10) t10).2).2) = _
  rw [e10]
  show (x10 :: (mnums rlim k 11 0 t11).1, (mnums rlim k 11 0 t11).2) = _
  rw [m11]
 have m9 : mnums rlim k 9 2 t9 = ([x9, x10], t11) := by
  show ((cnum k 9 (rlim.num 9) t9).1 :: (mnums rlim k 10 1 (cnum k 9 (rlim.num 9) t9).2).1, (mnums rlim k 10 1 (cnum k 9 (rlim.num 9) t9).2).2) = _
  rw [e9]
  show (x9 :: (mnums rlim k 10 1 t10).1, (mnums rlim k 10 1 t10).2) = _
  rw [m10]
 have m8 : mnums rlim k 8 3 t8 = ([x8, x9, x10], t11) := by
  show ((cnum k 8 (rlim.num 8) t8).1 :: (mnums rlim k 9 2 (cnum k 8 (rlim.num 8) t8).2).1, (mnums rlim k 9 2 (cnum k 8 (rlim.num 8) t8).2).2) = _
  rw [e8]
  show (x8 :: (mnums rlim k 9 2 t9).1, (mnums rlim k 9 2 t9).2) = _
  rw [m9]
 have m7 : mnums rlim k 7 4 t7 = ([x7, x8, x9, x10], t11) := by
  show ((cnum k 7 (rlim.num 7) t7).1 :: (mnums rlim k 8 3 (cnum k 7 (rlim.num 7) t7).2).1, (mnums rlim k 8 3 (cnum k 7 (rlim.num 7) t7).2).2) = _
  rw [e7]
  show (x7 :: (mnums rlim k 8 3 t8).1, (mnums rlim k 8 3 t8).2) = _
  rw [m8]
 have m6 : mnums rlim k 6 5 t6 = ([x6, x7, x8, x9, x10], t11) := by
  show ((cnum k 6 (rlim.num 6) t6).1 :: (mnums rlim k 7 4 (cnum k 6 (rlim.num 6) t6).2).1, (mnums rlim k 7 4 (cnum k 6 (rlim.num 6) t6).2).2) = _
  rw [e6]
  show (x6 :: (mnums rlim k 7 4 t7).1, (mnums rlim k 7 4 t7).2) = _
  rw [m7]
 have m5 : mnums rlim k 5 6 t5 = ([x5, x6, x7, x8, x9, x10], t11) := by
  show ((cnum k 5 (rlim.num 5) t5).1 :: (mnums rlim k 6 5 (cnum k 5 (rlim.num 5) t5).2).1, (mnums rlim k 6 5 (cnum k 5 (rlim.num 5) t5).2).2) = _
  rw [e5]
  show (x5 :: (mnums rlim k 6 5 t6).1, (mnums rlim k 6 5 t6).2) = _
  rw [m6]
 have m4 : mnums rlim k 4 7 t4 = ([x4, x5, x6, x7, x8, x9, x10], t11) := by
  show ((cnum k 4 (rlim.num 4) t4).1 :: (mnums rlim k 5 6 (cnum k 4 (rlim.num 4) t4).2).1, (mnums rlim k 5 6 (cnum k 4 (rlim.num 4) t4).2).2) = _
  rw [e4]
  show (x4 :: (mnums rlim k 5 6 t5).1, (mnums rlim k 5 6 t5).2) = _
  rw [m5]
 have m3 : mnums rlim k 3 8 t3 = ([x3, x4, x5, x6, x7, x8, x9, x10], t11) := by
  show ((cnum k 3 (rlim.num 3) t3).1 :: (mnums rlim k 4 7 (cnum k 3 (rlim.num 3) t3).2).1, (mnums rlim k 4 7 (cnum k 3 (rlim.num 3) t3).2).2) = _
  rw [e3]
  show (x3 :: (mnums rlim k 4 7 t4).1, (mnums rlim k 4 7 t4).2) = _
  rw [m4]
 have m2 : mnums rlim k 2 9 t2 = ([x2, x3, x4, x5, x6, x7, x8, x9, x10], t11) := by
  show ((cnum k 2 (rlim.num 2) t2).1 :: (mnums rlim k 3 8 (cnum k 2 (rlim.num 2) t2).2).1, (mnums rlim k 3 8 (cnum k 2 (rlim.num 2) t2).2).2) = _
  rw [e2]
  show (x2 :: (mnums rlim k 3 8 t3).1, (mnums rlim k 3 8 t3).2) = _
  rw [m3]
 have m1 : mnums rlim k 1 10 t1 = ([x1, x2, x3, x4, x5, x6, x7, x8, x9, x10], t11) := by
  show ((cnum k 1 (rlim.num 1) t1).1 :: (mnums rlim k 2 9 (cnum k 1 (rlim.num 1) t1).2).1, (mnums rlim k 2 9 (cnum k 1 (rlim.num 1) t1).2).2) = _
  rw [e1]
  show (x1 :: (mnums rlim k 2 9 t2).1, (mnums rlim k 2 9 t2).2) = _
  rw [m2]
 have m0 : mnums rlim k 0 11 t0 = ([x0, x1, x2, x3, x4, x5, x6, x7, x8, x9, x10], t11) := by
  show ((cnum k 0 (rlim.num 0) t0).1 :: (mnums rlim k 1 10 (cnum k 0 (rlim.num 0) t0).2).1, (mnums rlim k 1 10 (cnum k 0 (rlim.num 0) t0).2).2) = _
  rw [e0]
  show (x0 :: (mnums rlim k 1 10 t1).1, (mnums rlim k 1 10 t1).2) = _
  rw [m1]
 obtain ⟨cp, s2, ec⟩ : ∃ x t, cnum k 11 4 t11 = (x, t) := ⟨_, _, rfl⟩
 obtain ⟨ps, s3, ep⟩ : ∃ x t, rep (apart rlim) cp s2 = (x, t) := ⟨_, _, rfl⟩
 have r11 := rstep_parts k (mkN k [x0, x1, x2, x3, x4, x5, x6, x7, x8, x9, x10] [] [] [] []) t11 rfl
 rw [ec] at r11
 simp only [ep] at r11
 have r11 : gs rstep (hasF k) (mkN k [x0, x1, x2, x3, x4, x5, x6, x7, x8, x9, x10] [] [] [] [], t11) 11 = (mkN k [x0, x1, x2, x3, x4, x5, x6, x7, x8, x9, x10] ps [] [] [], s3) := r11
 obtain ⟨co, s4, eo⟩ : ∃ x t, cnum k 12 16 s3 = (x, t) := ⟨_, _, rfl⟩
 obtain ⟨os, s5, eq⟩ : ∃ x t, rep (aop rlim) co s4 = (x, t) := ⟨_, _, rfl⟩
 have r12 := rstep_ops k (mkN k [x0, x1, x2, x3, x4, x5, x6, x7, x8, x9, x10] ps [] [] []) s3 rfl
 rw [eo] at r12
 simp only [eq] at r12
 have r12 : gs rstep (hasF k) (mkN k [x0, x1, x2, x3, x4, x5, x6, x7, x8, x9, x10] ps [] [] [], s3) 12 = (mkN k [x0, x1, x2, x3, x4, x5, x6, x7, x8, x9, x10] ps os [] [], s5) := r12
 obtain ⟨v, s6, ev⟩ : ∃ x t, (if hasF k 13 then avec s5 else ([], s5)) = (x, t) := ⟨_, _, rfl⟩
 have r13 := rstep_vec k (mkN k [x0, x1, x2, x3, x4, x5, x6, x7, x8, x9, x10] ps os [] []) s5 rfl
 rw [ev] at r13
 have r13 : gs rstep (hasF k) (mkN k [x0, x1, x2, x3, x4, x5, x6, x7, x8, x9, x10] ps os [] [], s5) 13 = (mkN k [x0, x1, x2, x3, x4, x5, x6, x7, x8, x9, x10] ps os v [], s6) := r13
 obtain ⟨ch, s7, eh⟩ : ∃ x t, cnum k 14 16 s6 = (x, t) := ⟨_, _, rfl⟩
 obtain ⟨hs, s8, ei⟩ : ∃ x t, rep (ahit rlim) ch s7 = (x, t) := ⟨_, _, rfl⟩
 have r14 := rstep_hits k (mkN k [x0, x1, x2, x3, x4, x5, x6, x7, x8, x9, x10] ps os v []) s6 rfl
 rw [eh] at r14
 simp only [ei] at r14
 have r14 : gs rstep (hasF k) (mkN k [x0, x1, x2, x3, x4, x5, x6, x7, x8, x9, x10] ps os v [], s6) 14 = (mkN k [x0, x1, x2, x3, x4, x5, x6, x7, x8, x9, x10] ps os v hs, s8) := r14
 have hp : parse rlim s = (mkN k [x0, x1, x2, x3, x4, x5, x6, x7, x8, x9, x10] ps os v hs, s8) := by
  unfold parse
  simp only [hK, m0, ec, ep, eo, eq, ev, eh, ei]
 rw [hp]
 simp only [List.foldl_cons, List.foldl_nil]
 show _ = gs rstep (hasF k) (gs rstep (hasF k) (gs rstep (hasF k) (gs rstep (hasF k) (gs rstep (hasF k) (gs rstep (hasF k) (gs rstep (hasF k) (gs rstep (hasF k) (gs rstep (hasF k) (gs rstep (hasF k) (gs rstep (hasF k) (gs rstep (hasF k) (gs rstep (hasF k) (gs rstep (hasF k) (gs rstep (hasF k) (mkN k [0, 0, 0, 0, 0, 0, 0, 0, 0, 0, 0] [] [] [] [], t0) 0) 1) 2) 3) 4) 5) 6) 7) 8) 9) 10) 11) 12) 13) 14
 rw [r0, r1, r2, r3, r4, r5, r6, r7, r8, r9, r10, r11, r12, r13, r14]
end Go.Proofs.YtjkffjngamagkaaDoor
/- armillaryref02: limit, Num, Whole, Text, Vec. -/
namespace Go.Proofs.YtjkffjngamagkaaDoor
open Go Go.RowKit Go.Arm
theorem limit_any (w : World) (m : Int) (hm : m ≤ 9223372036854775807) : Calls Tryd.prog 112 #[.int .i64 m] w fun e w' => e = .returned (.int .u64 (m.toNat : Int)) ∧ w = w' := by
 by_cases h : m < 0
 ·have e0 : (m.toNat : Int) = 0 := by omega
  rw [e0]
  go_enter Tryd.func112, Tryd.ntmps112
  go_wp2_with (first | ((with_reducible apply ugZ); rfl) | ((with_reducible (first | apply len_B | apply len_BB | apply len_N | apply len_V | apply len_VV)); assumption) | ((with_reducible refine stop_if kS ?_ ?_); rfl))
  go_ret
  exact ⟨rfl, rfl⟩
 ·obtain ⟨k, rfl⟩ : ∃ k : Nat, m = (k : Int) := ⟨m.toNat, by omega⟩
  rw [Int.toNat_natCast]
  go_enter Tryd.func112, Tryd.ntmps112
  go_wp2_with (first | ((with_reducible apply ugZ); rfl) | ((with_reducible (first | apply len_B | apply len_BB | apply len_N | apply len_V | apply len_VV)); assumption) | ((with_reducible refine stop_if kS ?_ ?_); rfl))
  go_ret
  exact ⟨rfl, rfl⟩
set_option maxRecDepth 100000 in
theorem rnum02_any : ∀ (n : Nat) (w : World), n < 18446744073709551616 →
  Calls Tryd.prog 63 #[.int .u64 n] w fun e w' => ∃ v, e = .returned v ∧ OwnB w' w.heap.size (enc n) v ∧ Below w.heap.size w w' := by
 intro n
 induction n using Nat.strongRecOn with
 | ind n ih =>
  intro w hn
  by_cases h : n < 128
  ·have he := enc_small n h
   have hc : (n : Int) = ((UInt8.ofNat n).toNat : Int) := by rw [UInt8.toNat_ofNat_of_lt' (by show n < 256; omega)]
   obtain ⟨c, hcc⟩ : ∃ c, c = UInt8.ofNat n := ⟨_, rfl⟩
   rw [← hcc] at he hc
   have Hc := Lib.hid hc
   rw [he]
   clear hc hcc ih he
   go_enter Tryd.func63, Tryd.ntmps63
   go_wp2_with (first | ((with_reducible apply ugZ); rfl) | ((with_reducible (first | apply len_B | apply len_BB | apply len_N | apply len_V | apply len_VV)); assumption) | ((with_reducible refine stop_if kS ?_ ?_); rfl))
   refine Stop.go (build_B ([c] : List UInt8) [.int .u8 (n : Int)] rfl rfl (by rw [Hc.out]; rfl) (by simp) fun q w1 k1 k2 k3 k4 => ?_)
   go_wp2_with (first | ((with_reducible apply ugZ); rfl) | ((with_reducible (first | apply len_B | apply len_BB | apply len_N | apply len_V | apply len_VV)); assumption) | ((with_reducible refine stop_if kS ?_ ?_); rfl))
   go_ret
   exact ⟨q, rfl, k1, below_of_grown k2 (Nat.le_refl _) (by simp)⟩
  ·have he := enc_big n h
   have hel := enc_len10 n hn
   have hc : ((n : Int) % 128 + 128) = ((UInt8.ofNat (n % 128 + 128)).toNat : Int) := by rw [UInt8.toNat_ofNat_of_lt' (by show n % 128 + 128 < 256; omega)]; omega
   obtain ⟨c, hcc⟩ : ∃ c, c = UInt8.ofNat (n % 128 + 128) := ⟨_, rfl⟩
   rw [← hcc] at he hc
   have Hc := Lib.hid hc
   rw [he] at hel ⊢
   obtain ⟨E, hE⟩ : ∃ E, E = enc (n / 128) := ⟨_, rfl⟩
   rw [← hE] at hel ⊢
   have IH := ih (n / 128) (by omega)
   rw [← hE] at IH
   have hEl : E.length ≤ 10 := by simp at hel; omega
   clear hc hcc ih he hE hel
   go_enter Tryd.func63, Tryd.ntmps63
   go_wp2_with (first | ((with_reducible apply ugZ); rfl) | ((with_reducible (first | apply len_B | apply len_BB | apply len_N | apply len_V | apply len_VV)); assumption) | ((with_reducible refine stop_if kS ?_ ?_); rfl))
   refine Stop.go (build_B ([c] : List UInt8) [.int .u8 ((n : Int) % 128 + 128)] rfl rfl (by rw [Hc.out]; rfl) (by simp) fun q w1 k1 k2 k3 k4 => ?_)
   have hb1 := below_of_grown k2 (Nat.le_refl _) (by simp)
   clear k2 k4
   go_wp2_with (first | ((with_reducible apply ugZ); rfl) | ((with_reducible (first | apply len_B | apply len_BB | apply len_N | apply len_V | apply len_VV)); assumption) | ((with_reducible refine stop_if kS ?_ ?_); rfl))
   rw [show ((n : Int) / 128) = ((n / 128 : Nat) : Int) by omega]
   refine (IH w1 (by omega)).mono ?_
   rintro e w2 ⟨v2, rfl, hv2, hb⟩
   have hb2 : Below w.heap.size w w2 := hb1.trans (hb.mono hb1.size)
   have hq2 := Own.below k1 hb (Nat.le_refl _)
   have hs2 := hb2.size
   clear hb
   go_wp2_with (first | ((with_reducible apply ugZ); rfl) | ((with_reducible (first | apply len_B | apply len_BB | apply len_N | apply len_V | apply len_VV)); assumption) | ((with_reducible refine stop_if kS ?_ ?_); rfl))
   refine Stop.go (app_B (hq2 : OwnB w2 _ _ q) hv2.sl' (by simp; omega) (by omega) fun v3 w3 g1 g2 g3 => ?_)
   have hb3 := hb2.grown g2 hb2.size (fun k hk => (hq2.ge k hk).1)
   go_wp2_with (first | ((with_reducible apply ugZ); rfl) | ((with_reducible (first | apply len_B | apply len_BB | apply len_N | apply len_V | apply len_VV)); assumption) | ((with_reducible refine stop_if kS ?_ ?_); rfl))
   go_ret
   exact ⟨v3, rfl, by simpa using g1, hb3⟩
theorem whole02_any (w : World) (z : Int32) : Calls Tryd.prog 99 #[.int .i32 z.toInt] w fun e w' => ∃ v, e = .returned v ∧ OwnB w' w.heap.size (enc (zig z.toInt)) v ∧ Below w.heap.size w w' := by
 have h1 := i32_lo z
 have h2 := i32_hi z
 have hz := zig_lt z.toInt h1 h2
 obtain ⟨y, hy⟩ : ∃ y, y = z.toInt := ⟨_, rfl⟩
 rw [← hy] at h1 h2 hz ⊢
 clear hy
 obtain ⟨u, hu⟩ : ∃ u, u = zig y := ⟨_, rfl⟩
 rw [← hu] at hz ⊢
 by_cases h : y < 0
 ·have hu2 : (u : Int) = -2 * y - 1 := by rw [hu, zig, if_pos h]; omega
  have Hu := Lib.hid hu2
  clear hu hu2
  go_enter Tryd.func99, Tryd.ntmps99
  go_wp2_with (first | ((with_reducible apply ugZ); rfl) | ((with_reducible (first | apply len_B | apply len_BB | apply len_N | apply len_V | apply len_VV)); assumption) | ((with_reducible refine stop_if kS ?_ ?_); rfl))
  rw [← Hu.out]
  refine (rnum02_any u w (by omega)).mono ?_
  rintro e w1 ⟨v, rfl, hv, hb⟩
  go_wp2_with (first | ((with_reducible apply ugZ); rfl) | ((with_reducible (first | apply len_B | apply len_BB | apply len_N | apply len_V | apply len_VV)); assumption) | ((with_reducible refine stop_if kS ?_ ?_); rfl))
  go_ret
  exact ⟨v, rfl, hv, hb⟩
 ·have hu2 : (u : Int) = 2 * y := by rw [hu, zig, if_neg h]; omega
  have Hu := Lib.hid hu2
  clear hu hu2
  go_enter Tryd.func99, Tryd.ntmps99
  go_wp2_with (first | ((with_reducible apply ugZ); rfl) | ((with_reducible (first | apply len_B | apply len_BB | apply len_N | apply len_V | apply len_VV)); assumption) | ((with_reducible refine stop_if kS ?_ ?_); rfl))
  rw [← Hu.out]
  refine (rnum02_any u w (by omega)).mono ?_
  rintro e w1 ⟨v, rfl, hv, hb⟩
  go_wp2_with (first | ((with_reducible apply ugZ); rfl) | ((with_reducible (first | apply len_B | apply len_BB | apply len_N | apply len_V | apply len_VV)); assumption) | ((with_reducible refine stop_if kS ?_ ?_); rfl))
  go_ret
  exact ⟨v, rfl, hv, hb⟩
theorem vec02_any (w : World) (S : Nat → Prop) (l : List Int32) (p : Value) (hp : Sl w S l p) (hl : l.length ≤ 1000) : Calls Tryd.prog 64 #[p] w fun e w' => ∃ v, e = .returned v ∧ OwnB w' w.heap.size (encVec l) v ∧ Below w.heap.size w w' := by
 have hp0 := hp.old
 have hel := enc_len10 l.length (by omega)
 have he : encVec l = enc l.length ++ encInts l := rfl
 obtain ⟨F, hF⟩ : ∃ F, F = encVec l := ⟨_, rfl⟩
 rw [← hF] at he ⊢
 have He := Lib.hid he
 clear hp he hF
 go_enter Tryd.func64, Tryd.ntmps64
 go_wp2_with (first | ((with_reducible apply ugZ); rfl) | ((with_reducible (first | apply len_B | apply len_BB | apply len_N | apply len_V | apply len_VV)); assumption) | ((with_reducible refine stop_if kS ?_ ?_); rfl))
 refine (rnum02_any l.length w (by omega)).mono ?_
 rintro e w1 ⟨v1, rfl, hv1, hb1⟩
 have hp1 := hp0.below hb1 (Nat.le_refl _)
 go_wp2_with (first | ((with_reducible apply ugZ); rfl) | ((with_reducible (first | apply len_B | apply len_BB | apply len_N | apply len_V | apply len_VV)); assumption) | ((with_reducible refine stop_if kS ?_ ?_); rfl))
 go_loopg [3, 5, 12] (l.length + 1) (fun k o x i wr => ∃ (j : Nat), k = l.length - j + 1 ∧ j ≤ l.length ∧ i = .int .i64 j ∧ OwnB wr w.heap.size (enc l.length ++ encInts (l.take j)) o ∧ Below w.heap.size w wr)
 case atStart => exact ⟨0, by omega, by omega, rfl, by simpa [encInts] using hv1, hb1⟩
 case round =>
  obtain ⟨j, hk, hj, rfl, ho, hb⟩ := hrel
  have Hk := Lib.hid hk
  clear hk hv1
  have hpr := hp0.below hb (Nat.le_refl _)
  have hlen : (encInts (l.take j)).length ≤ 10000 := by have := encInts_len (l.take j); rw [List.length_take] at this; omega
  have hs := hb.size
  by_cases hlt : j < l.length
  ·go_wp2_with (first | ((with_reducible apply ugZ); rfl) | ((with_reducible (first | apply len_B | apply len_BB | apply len_N | apply len_V | apply len_VV)); assumption) | ((with_reducible refine stop_if kS ?_ ?_); rfl))
   refine Stop.go (idx_V hpr rfl (by omega) (by omega) fun b6 o6 y hy hcell => ?_)
   have Hy := Lib.hid hy
   clear hy
   go_wp2_with (first | ((with_reducible apply ugZ); rfl) | ((with_reducible (first | apply len_B | apply len_BB | apply len_N | apply len_V | apply len_VV)); assumption) | ((with_reducible refine stop_if kS ?_ ?_); rfl))
   refine (whole02_any wr y).mono ?_
   rintro e w2 ⟨v2, rfl, hv2, hb2⟩
   have hB2 : Below w.heap.size w w2 := hb.trans (hb2.mono hs)
   have ho2 := Own.below ho hb2 (Nat.le_refl _)
   have hzl := enc_len10 (zig y.toInt) (by have := zig_lt _ (i32_lo y) (i32_hi y); omega)
   go_wp2_with (first | ((with_reducible apply ugZ); rfl) | ((with_reducible (first | apply len_B | apply len_BB | apply len_N | apply len_V | apply len_VV)); assumption) | ((with_reducible refine stop_if kS ?_ ?_); rfl))
   refine Stop.go (app_B (ho2 : OwnB w2 _ _ _) hv2.sl' (by rw [List.length_append]; omega) hB2.size fun v3 w3 g1 g2 g3 => ?_)
   have hB3 := hB2.grown g2 hB2.size (fun k hk => (ho2.ge k hk).1)
   go_wp2_with (first | ((with_reducible apply ugZ); rfl) | ((with_reducible (first | apply len_B | apply len_BB | apply len_N | apply len_V | apply len_VV)); assumption) | ((with_reducible refine stop_if kS ?_ ?_); rfl))
   go_roundg (l.length - (j + 1) + 1)
   case measure => have := Hk.out; omega
   case rel =>
    have e := flatMap_snoc (fun z : Int32 => enc (zig z.toInt)) l j y (by simpa using Hy.out)
    refine ⟨j + 1, by omega, by omega, by go_num, ?_, hB3⟩
    have e2 : encInts (l.take (j + 1)) = encInts (l.take j) ++ enc (zig y.toInt) := e
    rw [e2, ← List.append_assoc]
    exact g1
  ·rw [List.take_of_length_le (by omega)] at ho
   go_wp2_with (first | ((with_reducible apply ugZ); rfl) | ((with_reducible (first | apply len_B | apply len_BB | apply len_N | apply len_V | apply len_VV)); assumption) | ((with_reducible refine stop_if kS ?_ ?_); rfl))
   go_ret
   rw [He.out]
   exact ⟨_, rfl, ho, hb⟩
end Go.Proofs.YtjkffjngamagkaaDoor
/- armillaryref02: Take. -/
namespace Go.Arm
def horner : List UInt8 → Nat
 | [] => 0
 | b :: l => b.toNat % 128 + 128 * horner l
theorem horner_append : ∀ (l m : List UInt8), horner (l ++ m) = horner l + 128 ^ l.length * horner m
 | [], m => by simp [horner]
 | b :: l, m => by
  have ih := horner_append l m
  simp only [List.cons_append, horner, ih, List.length_cons, Nat.pow_succ]
  rw [Nat.mul_add, Nat.mul_assoc, Nat.mul_comm (128 ^ l.length) (128 * horner m), Nat.mul_assoc, Nat.mul_comm (horner m)]
  omega
theorem peek_drop (l : List UInt8) : ∀ (j : Nat), j ≤ l.length → j ≤ 10 → (∀ b ∈ l.take j, 128 ≤ b.toNat) → (j = 10 → ∀ b, l[9]? = some b → b.toNat ≤ 1) → peekGo l 0 0 = peekGo (l.drop j) j (horner (l.take j)) := by
 intro j
 induction j with
 | zero => intro _ _ _ _; simp [horner]
 | succ j ih =>
  intro h1 h2 h3 h4
  have hj : j < l.length := by omega
  obtain ⟨y, hy⟩ : ∃ y, l[j]? = some y := ⟨_, List.getElem?_eq_getElem hj⟩
  have ht := take_snoc l j y hy
  have h3' : ∀ b ∈ l.take j, 128 ≤ b.toNat := fun b hb => h3 b (by rw [ht]; exact List.mem_append_left _ hb)
  have hyb : 128 ≤ y.toNat := h3 y (by rw [ht]; simp)
  have hyl := y.toNat_lt
  rw [ih (by omega) (by omega) h3' (by omega)]
  have hd : l.drop j = y :: l.drop (j + 1) := by
   obtain ⟨_, rfl⟩ := List.getElem?_eq_some_iff.1 hy
   exact List.drop_eq_getElem_cons hj
  rw [hd, peekGo, if_neg, if_neg (by omega), ht, horner_append, List.length_take, Nat.min_eq_left (by omega)]
  ·simp only [horner, Nat.mul_zero, Nat.add_zero]
   rw [show y.toNat % 128 = y.toNat - 128 by omega]
  ·rintro ⟨rfl, h⟩
   have := h4 rfl y hy
   omega
theorem horner_lt : ∀ l : List UInt8, horner l < 128 ^ l.length
 | [] => by simp [horner]
 | b :: l => by
  have ih := horner_lt l
  rw [horner, List.length_cons, Nat.pow_succ]
  omega
theorem horner_drop_le : ∀ (i : Nat) (l : List UInt8), horner (l.drop i) ≤ horner l
 | 0, l => by simp
 | i + 1, [] => by simp
 | i + 1, b :: l => by
  have ih := horner_drop_le i l
  rw [List.drop_succ_cons, horner]
  omega
theorem horner_take_lt (l : List UInt8) (j : Nat) (y : UInt8) (hj : j ≤ 9) (hy : l[j]? = some y) (h9 : j = 9 → y.toNat ≤ 1) : horner (l.take (j + 1)) < 18446744073709551616 := by
 have hjl := (List.getElem?_eq_some_iff.1 hy).1
 rw [take_snoc l j y hy, horner_append, List.length_take, Nat.min_eq_left (by omega)]
 have h1 := horner_lt (l.take j)
 rw [List.length_take, Nat.min_eq_left (by omega)] at h1
 simp only [horner, Nat.mul_zero, Nat.add_zero]
 by_cases h : j = 9
 ·subst h
  have := h9 rfl
  have : 128 ^ 9 * (y.toNat % 128) ≤ 128 ^ 9 * 1 := Nat.mul_le_mul_left _ (by omega)
  omega
 ·have hp : 128 ^ j ≤ 128 ^ 8 := Nat.pow_le_pow_right (by decide) (by omega)
  have : 128 ^ j * (y.toNat % 128) ≤ 128 ^ 8 * 127 := Nat.mul_le_mul hp (by omega)
  omega
end Go.Arm
namespace Go.Proofs.YtjkffjngamagkaaDoor
open Go Go.RowKit Go.Arm
set_option maxHeartbeats 4000000 in
set_option maxRecDepth 100000 in
theorem take02_any (w : World) (S : Nat → Prop) (l : List UInt8) (p : Value) (most : Nat) (hp : Sl w S l p) :
  Calls Tryd.prog 93 #[p, .int .u64 most] w fun e w' => ∃ v, e = .returned (.tuple #[.int .u64 (taken l most).1, v, .int .i64 (taken l most).2.2]) ∧ Sl w S (taken l most).2.1 v ∧ ∃ nq, w' = w.drewN nq := by
 have hll : l.length ≤ 9223372036854775807 := hp.length_le
 obtain ⟨T, hT⟩ : ∃ T, T = taken l most := ⟨_, rfl⟩
 rw [← hT]
 unfold taken peek at hT
 obtain ⟨PK, hPK⟩ : ∃ PK, PK = peekGo l 0 0 := ⟨_, rfl⟩
 rw [← hPK] at hT
 have HPK := Lib.hid hPK
 have HT := Lib.hid hT
 clear hT hPK
 go_enter Tryd.func93, Tryd.ntmps93
 go_wp2_with (first | ((with_reducible apply ugZ); rfl) | ((with_reducible (first | apply len_B | apply len_BB | apply len_N | apply len_V | apply len_VV)); assumption) | ((with_reducible refine stop_if kS ?_ ?_); rfl))
 go_loop [7, 8, 9] (fun k n i => ∃ j : Nat, k = .int .i64 ((j : Int) + 1) ∧ j ≤ 9 ∧ j ≤ l.length ∧ ∀ b ∈ l.take j, 128 ≤ b.toNat) (fun k _ _ => 11 - (intOf k).toNat)
 case atStart => exact ⟨0, rfl, by omega, by omega, by simp⟩
 case round =>
  obtain ⟨j, rfl, hj9, hjl, hall⟩ := hrel
  have hpk := HPK.out.trans (peek_drop l j hjl (by omega) hall (by omega))
  have Hall := Lib.hid hall
  clear hall
  by_cases hlt : j < l.length
  ·obtain ⟨y, hy⟩ : ∃ y, l[j]? = some y := ⟨_, List.getElem?_eq_getElem hlt⟩
   have hd : l.drop j = y :: l.drop (j + 1) := by
    obtain ⟨_, rfl⟩ := List.getElem?_eq_some_iff.1 hy
    exact List.drop_eq_getElem_cons hlt
   rw [hd, peekGo] at hpk
   have Hpk := Lib.hid hpk
   have Hy := Lib.hid hy
   have hyl := y.toNat_lt
   clear hpk hy hd
   by_cases h9 : j = 9
   ·subst h9
    by_cases hy1 : 1 < y.toNat
    ·go_wp2_with (first | ((with_reducible apply ugZ); rfl) | ((with_reducible (first | apply len_B | apply len_BB | apply len_N | apply len_V | apply len_VV)); assumption) | ((with_reducible refine stop_if kS ?_ ?_); rfl))
     refine Stop.go (idx_B hp rfl (by omega) (by omega) fun b o y' hy' hcell => ?_)
     obtain rfl : y' = y := Option.some.inj (hy'.symm.trans Hy.out)
     clear hy'
     go_wp2_with (first | ((with_reducible apply ugZ); rfl) | ((with_reducible (first | apply len_B | apply len_BB | apply len_N | apply len_V | apply len_VV)); assumption) | ((with_reducible refine stop_if kS ?_ ?_); rfl))
     go_ret3
     have e1 := Hpk.out
     rw [if_pos ⟨trivial, hy1⟩] at e1
     have e := HT.out
     rw [e1, if_pos (by decide)] at e
     rw [e]
     exact ⟨_, rfl, Sl.nil _ _, 0, rfl⟩
    ·go_wp2_with (first | ((with_reducible apply ugZ); rfl) | ((with_reducible (first | apply len_B | apply len_BB | apply len_N | apply len_V | apply len_VV)); assumption) | ((with_reducible refine stop_if kS ?_ ?_); rfl))
     refine Stop.go (idx_B hp rfl (by omega) (by omega) fun b o y' hy' hcell => ?_)
     obtain rfl : y' = y := Option.some.inj (hy'.symm.trans Hy.out)
     clear hy'
     go_wp2_with (first | ((with_reducible apply ugZ); rfl) | ((with_reducible (first | apply len_B | apply len_BB | apply len_N | apply len_V | apply len_VV)); assumption) | ((with_reducible refine stop_if kS ?_ ?_); rfl))
     refine Stop.go (idx_B hp rfl (by omega) (by omega) fun b1 o1 y1 hy' hcell1 => ?_)
     obtain rfl : y1 = y' := Option.some.inj (hy'.symm.trans Hy.out)
     clear hy'
     obtain ⟨L, hL⟩ : ∃ L, L = l.take (10) := ⟨_, rfl⟩
     have hLl : L.length = 10 := by rw [hL, List.length_take]; omega
     have hLlt : horner L < 18446744073709551616 := by rw [hL]; exact horner_take_lt l 9 y1 (by omega) (by simpa using Hy.out) (by omega)
     have hLv : horner L = horner (l.take 9) + 128 ^ 9 * y1.toNat := by
      rw [hL, take_snoc l 9 y1 (by simpa using Hy.out), horner_append, List.length_take, Nat.min_eq_left (by omega)]
      simp only [horner, Nat.mul_zero, Nat.add_zero]
      rw [Nat.mod_eq_of_lt (by omega)]
     have HL := Lib.hid hL
     have HLv := Lib.hid hLv
     clear hL hLv
     go_wp2_with (first | ((with_reducible apply ugZ); rfl) | ((with_reducible (first | apply len_B | apply len_BB | apply len_N | apply len_V | apply len_VV)); assumption) | ((with_reducible refine stop_if kS ?_ ?_); rfl))
     go_loop [8, 9] (fun n i => ∃ m : Nat, i = .int .i64 ((m : Int) - 1) ∧ m ≤ 10 ∧ n = .int .u64 (horner (L.drop m))) (fun _ i => (intOf i + 1).toNat)
     case atStart => exact ⟨10, by go_num, by omega, by rw [← hLl, List.drop_length]; rfl⟩
     case round =>
      obtain ⟨m, rfl, hm1, rfl⟩ := hrel
      by_cases h0 : 0 < m
      ·obtain ⟨m, rfl⟩ : ∃ m', m = m' + 1 := ⟨m - 1, by omega⟩
       obtain ⟨z, hz⟩ : ∃ z, l[m]? = some z := ⟨_, List.getElem?_eq_getElem (by omega)⟩
       have hzL : L[m]? = some z := by rw [HL.out, List.getElem?_take, if_pos (by omega)]; exact hz
       have hdz : L.drop m = z :: L.drop (m + 1) := by
        obtain ⟨hlt3, rfl⟩ := List.getElem?_eq_some_iff.1 hzL
        exact List.drop_eq_getElem_cons hlt3
       have hstep : horner (L.drop m) = z.toNat % 128 + 128 * horner (L.drop (m + 1)) := by rw [hdz, horner]
       have hbd := horner_drop_le m L
       obtain ⟨V, hV⟩ : ∃ V, V = horner (L.drop (m + 1)) := ⟨_, rfl⟩
       rw [← hV] at hstep ⊢
       have Hst := Lib.hid hstep
       have Hz := Lib.hid hz
       have hzl := z.toNat_lt
       have hVb : V * 128 + z.toNat % 128 < 18446744073709551616 := by omega
       clear hz hzL hdz hstep hV
       have em : ((m + 1 : Nat) : Int) - 1 = (m : Int) := by omega
       rw [em]
       go_wp2_with (first | ((with_reducible apply ugZ); rfl) | ((with_reducible (first | apply len_B | apply len_BB | apply len_N | apply len_V | apply len_VV)); assumption) | ((with_reducible refine stop_if kS ?_ ?_); rfl))
       refine Stop.go (idx_B hp rfl (by omega) (by omega) fun b2 o2 z' hz' hcell2 => ?_)
       obtain rfl : z' = z := Option.some.inj (hz'.symm.trans Hz.out)
       clear hz'
       go_wp2_with (first | ((with_reducible apply ugZ); rfl) | ((with_reducible (first | apply len_B | apply len_BB | apply len_N | apply len_V | apply len_VV)); assumption) | ((with_reducible refine stop_if kS ?_ ?_); rfl))
       exact ⟨⟨m, by go_num, by omega, by rw [Hst.out]; congr 1; push_cast; omega⟩, by simp [intOf]⟩
      ·obtain rfl : m = 0 := by omega
       rw [List.drop_zero]
       by_cases hz0 : y1.toNat = 0
       ·have hzb : ((y1.toNat : Int) == 0) = true := by simp [hz0]
        have e1 := Hpk.out
        rw [if_neg (fun h => by omega), if_pos (by omega), if_pos ⟨hz0, by omega⟩] at e1
        have E1 := Lib.hid e1
        clear e1
        go_wp2_with (first | ((with_reducible apply ugZ); rfl) | ((with_reducible (first | apply len_B | apply len_BB | apply len_N | apply len_V | apply len_VV)); assumption) | ((with_reducible refine stop_if kS ?_ ?_); rfl))
        refine Stop.go (idx_B hp rfl (by omega) (by omega) fun b3 o3 y3 hy' hcell3 => ?_)
        obtain rfl : y3 = y1 := Option.some.inj (hy'.symm.trans Hy.out)
        clear hy'
        go_wp2_with (first | ((with_reducible apply ugZ); rfl) | ((with_reducible (first | apply len_B | apply len_BB | apply len_N | apply len_V | apply len_VV)); assumption) | ((with_reducible refine stop_if kS ?_ ?_); rfl))
        go_ret3
        have e := HT.out
        rw [E1.out, if_pos (by decide)] at e
        rw [e]
        exact ⟨_, rfl, Sl.nil _ _, 0, rfl⟩
       ·have hzb : ((y1.toNat : Int) == 0) = false := beq_eq_false_iff_ne.2 (by omega)
        have e1 := Hpk.out
        rw [if_neg (fun h => by omega), if_pos (by omega), if_neg (fun h => by omega)] at e1
        rw [← HLv.out] at e1
        obtain ⟨V, hV⟩ : ∃ V, V = horner L := ⟨_, rfl⟩
        rw [← hV] at e1 hLlt ⊢
        have E1 := Lib.hid e1
        clear e1 hV
        by_cases hmo : most < V
        ·go_wp2_with (first | ((with_reducible apply ugZ); rfl) | ((with_reducible (first | apply len_B | apply len_BB | apply len_N | apply len_V | apply len_VV)); assumption) | ((with_reducible refine stop_if kS ?_ ?_); rfl))
         refine Stop.go (idx_B hp rfl (by omega) (by omega) fun b3 o3 y3 hy' hcell3 => ?_)
         obtain rfl : y3 = y1 := Option.some.inj (hy'.symm.trans Hy.out)
         clear hy'
         go_wp2_with (first | ((with_reducible apply ugZ); rfl) | ((with_reducible (first | apply len_B | apply len_BB | apply len_N | apply len_V | apply len_VV)); assumption) | ((with_reducible refine stop_if kS ?_ ?_); rfl))
         go_ret3
         have e := HT.out
         rw [E1.out, if_neg (by simp), if_pos hmo] at e
         rw [e]
         exact ⟨_, rfl, Sl.nil _ _, 0, rfl⟩
        ·obtain ⟨v1, hv1, hs1⟩ := hp.slice_run_l (P := Tryd.prog) rowB .i64 10 (by omega) (by omega)
         go_wp2_with (first | ((with_reducible apply ugZ); rfl) | ((with_reducible (first | apply len_B | apply len_BB | apply len_N | apply len_V | apply len_VV)); assumption) | ((with_reducible refine stop_if kS ?_ ?_); rfl))
         refine Stop.go (idx_B hp rfl (by omega) (by omega) fun b3 o3 y3 hy' hcell3 => ?_)
         obtain rfl : y3 = y1 := Option.some.inj (hy'.symm.trans Hy.out)
         clear hy'
         go_wp2_with (first | ((with_reducible apply ugZ); rfl) | ((with_reducible (first | apply len_B | apply len_BB | apply len_N | apply len_V | apply len_VV)); assumption) | ((with_reducible refine stop_if kS ?_ ?_); rfl))
         go_quiet (fail)
         go_wp2_with (first | ((with_reducible apply ugZ); rfl) | ((with_reducible (first | apply len_B | apply len_BB | apply len_N | apply len_V | apply len_VV)); assumption) | ((with_reducible refine stop_if kS ?_ ?_); rfl))
         go_ret3
         have e := HT.out
         rw [E1.out, if_neg (by simp), if_neg hmo] at e
         rw [e]
         exact ⟨_, rfl, by simpa using hs1, nq, rfl⟩
   ·have hjb : ((j : Int) + 1 == 10) = false := beq_eq_false_iff_ne.2 (by omega)
    by_cases hyb : 128 ≤ y.toNat
    ·go_wp2_with (first | ((with_reducible apply ugZ); rfl) | ((with_reducible (first | apply len_B | apply len_BB | apply len_N | apply len_V | apply len_VV)); assumption) | ((with_reducible refine stop_if kS ?_ ?_); rfl))
     refine Stop.go (idx_B hp rfl (by omega) (by omega) fun b o y' hy' hcell => ?_)
     obtain rfl : y' = y := Option.some.inj (hy'.symm.trans Hy.out)
     clear hy'
     go_wp2_with (first | ((with_reducible apply ugZ); rfl) | ((with_reducible (first | apply len_B | apply len_BB | apply len_N | apply len_V | apply len_VV)); assumption) | ((with_reducible refine stop_if kS ?_ ?_); rfl))
     refine ⟨⟨j + 1, by go_num, by omega, by omega, ?_⟩, by simp [intOf]; omega⟩
     rw [take_snoc l j y' (by simpa using Hy.out)]
     intro b hb
     rcases List.mem_append.1 hb with hb | hb
     ·exact Hall.out b hb
     ·simp at hb; subst hb; exact hyb
    ·go_wp2_with (first | ((with_reducible apply ugZ); rfl) | ((with_reducible (first | apply len_B | apply len_BB | apply len_N | apply len_V | apply len_VV)); assumption) | ((with_reducible refine stop_if kS ?_ ?_); rfl))
     refine Stop.go (idx_B hp rfl (by omega) (by omega) fun b o y' hy' hcell => ?_)
     obtain rfl : y' = y := Option.some.inj (hy'.symm.trans Hy.out)
     clear hy'
     obtain ⟨L, hL⟩ : ∃ L, L = l.take (j + 1) := ⟨_, rfl⟩
     have hLl : L.length = j + 1 := by rw [hL, List.length_take]; omega
     have hLlt : horner L < 18446744073709551616 := by rw [hL]; exact horner_take_lt l j y' (by omega) (by simpa using Hy.out) (by omega)
     have hLv : horner L = horner (l.take j) + 128 ^ j * y'.toNat := by
      rw [hL, take_snoc l j y' (by simpa using Hy.out), horner_append, List.length_take, Nat.min_eq_left (by omega)]
      simp only [horner, Nat.mul_zero, Nat.add_zero]
      rw [Nat.mod_eq_of_lt (by omega)]
     have HL := Lib.hid hL
     have HLv := Lib.hid hLv
     clear hL hLv
     go_wp2_with (first | ((with_reducible apply ugZ); rfl) | ((with_reducible (first | apply len_B | apply len_BB | apply len_N | apply len_V | apply len_VV)); assumption) | ((with_reducible refine stop_if kS ?_ ?_); rfl))
     go_loop [8, 9] (fun n i => ∃ m : Nat, i = .int .i64 ((m : Int) - 1) ∧ m ≤ j + 1 ∧ n = .int .u64 (horner (L.drop m))) (fun _ i => (intOf i + 1).toNat)
     case atStart => exact ⟨j + 1, by go_num, by omega, by rw [← hLl, List.drop_length]; rfl⟩
     case round =>
      obtain ⟨m, rfl, hm1, rfl⟩ := hrel
      by_cases h0 : 0 < m
      ·obtain ⟨m, rfl⟩ : ∃ m', m = m' + 1 := ⟨m - 1, by omega⟩
       obtain ⟨z, hz⟩ : ∃ z, l[m]? = some z := ⟨_, List.getElem?_eq_getElem (by omega)⟩
       have hzL : L[m]? = some z := by rw [HL.out, List.getElem?_take, if_pos (by omega)]; exact hz
       have hdz : L.drop m = z :: L.drop (m + 1) := by
        obtain ⟨hlt3, rfl⟩ := List.getElem?_eq_some_iff.1 hzL
        exact List.drop_eq_getElem_cons hlt3
       have hstep : horner (L.drop m) = z.toNat % 128 + 128 * horner (L.drop (m + 1)) := by rw [hdz, horner]
       have hbd := horner_drop_le m L
       obtain ⟨V, hV⟩ : ∃ V, V = horner (L.drop (m + 1)) := ⟨_, rfl⟩
       rw [← hV] at hstep ⊢
       have Hst := Lib.hid hstep
       have Hz := Lib.hid hz
       have hzl := z.toNat_lt
       have hVb : V * 128 + z.toNat % 128 < 18446744073709551616 := by omega
       clear hz hzL hdz hstep hV
       have em : ((m + 1 : Nat) : Int) - 1 = (m : Int) := by omega
       rw [em]
       go_wp2_with (first | ((with_reducible apply ugZ); rfl) | ((with_reducible (first | apply len_B | apply len_BB | apply len_N | apply len_V | apply len_VV)); assumption) | ((with_reducible refine stop_if kS ?_ ?_); rfl))
       refine Stop.go (idx_B hp rfl (by omega) (by omega) fun b2 o2 z' hz' hcell2 => ?_)
       obtain rfl : z' = z := Option.some.inj (hz'.symm.trans Hz.out)
       clear hz'
       go_wp2_with (first | ((with_reducible apply ugZ); rfl) | ((with_reducible (first | apply len_B | apply len_BB | apply len_N | apply len_V | apply len_VV)); assumption) | ((with_reducible refine stop_if kS ?_ ?_); rfl))
       exact ⟨⟨m, by go_num, by omega, by rw [Hst.out]; congr 1; push_cast; omega⟩, by simp [intOf]⟩
      ·obtain rfl : m = 0 := by omega
       rw [List.drop_zero]
       by_cases hj0 : 0 < j
       ·by_cases hz0 : y'.toNat = 0
        ·have hzb : ((y'.toNat : Int) == 0) = true := by simp [hz0]
         have e1 := Hpk.out
         rw [if_neg (fun h => by omega), if_pos (by omega), if_pos ⟨hz0, by omega⟩] at e1
         have E1 := Lib.hid e1
         clear e1
         go_wp2_with (first | ((with_reducible apply ugZ); rfl) | ((with_reducible (first | apply len_B | apply len_BB | apply len_N | apply len_V | apply len_VV)); assumption) | ((with_reducible refine stop_if kS ?_ ?_); rfl))
         refine Stop.go (idx_B hp rfl (by omega) (by omega) fun b3 o3 y3 hy' hcell3 => ?_)
         obtain rfl : y3 = y' := Option.some.inj (hy'.symm.trans Hy.out)
         clear hy'
         go_wp2_with (first | ((with_reducible apply ugZ); rfl) | ((with_reducible (first | apply len_B | apply len_BB | apply len_N | apply len_V | apply len_VV)); assumption) | ((with_reducible refine stop_if kS ?_ ?_); rfl))
         go_ret3
         have e := HT.out
         rw [E1.out, if_pos (by decide)] at e
         rw [e]
         exact ⟨_, rfl, Sl.nil _ _, 0, rfl⟩
        ·have hzb : ((y'.toNat : Int) == 0) = false := beq_eq_false_iff_ne.2 (by omega)
         have e1 := Hpk.out
         rw [if_neg (fun h => by omega), if_pos (by omega), if_neg (fun h => by omega)] at e1
         rw [← HLv.out] at e1
         obtain ⟨V, hV⟩ : ∃ V, V = horner L := ⟨_, rfl⟩
         rw [← hV] at e1 hLlt ⊢
         have E1 := Lib.hid e1
         clear e1 hV
         by_cases hmo : most < V
         ·go_wp2_with (first | ((with_reducible apply ugZ); rfl) | ((with_reducible (first | apply len_B | apply len_BB | apply len_N | apply len_V | apply len_VV)); assumption) | ((with_reducible refine stop_if kS ?_ ?_); rfl))
          refine Stop.go (idx_B hp rfl (by omega) (by omega) fun b3 o3 y3 hy' hcell3 => ?_)
          obtain rfl : y3 = y' := Option.some.inj (hy'.symm.trans Hy.out)
          clear hy'
          go_wp2_with (first | ((with_reducible apply ugZ); rfl) | ((with_reducible (first | apply len_B | apply len_BB | apply len_N | apply len_V | apply len_VV)); assumption) | ((with_reducible refine stop_if kS ?_ ?_); rfl))
          go_ret3
          have e := HT.out
          rw [E1.out, if_neg (by simp), if_pos hmo] at e
          rw [e]
          exact ⟨_, rfl, Sl.nil _ _, 0, rfl⟩
         ·obtain ⟨v1, hv1, hs1⟩ := hp.slice_run_l (P := Tryd.prog) rowB .i64 ((j : Int) + 1) (by omega) (by omega)
          go_wp2_with (first | ((with_reducible apply ugZ); rfl) | ((with_reducible (first | apply len_B | apply len_BB | apply len_N | apply len_V | apply len_VV)); assumption) | ((with_reducible refine stop_if kS ?_ ?_); rfl))
          refine Stop.go (idx_B hp rfl (by omega) (by omega) fun b3 o3 y3 hy' hcell3 => ?_)
          obtain rfl : y3 = y' := Option.some.inj (hy'.symm.trans Hy.out)
          clear hy'
          go_wp2_with (first | ((with_reducible apply ugZ); rfl) | ((with_reducible (first | apply len_B | apply len_BB | apply len_N | apply len_V | apply len_VV)); assumption) | ((with_reducible refine stop_if kS ?_ ?_); rfl))
          go_quiet (fail)
          go_wp2_with (first | ((with_reducible apply ugZ); rfl) | ((with_reducible (first | apply len_B | apply len_BB | apply len_N | apply len_V | apply len_VV)); assumption) | ((with_reducible refine stop_if kS ?_ ?_); rfl))
          go_ret3
          have e := HT.out
          rw [E1.out, if_neg (by simp), if_neg hmo] at e
          rw [e]
          exact ⟨_, rfl, by simpa using hs1, nq, rfl⟩
       ·have hj1 : ¬ (1 : Int) < (j : Int) + 1 := by omega
        have e1 := Hpk.out
        rw [if_neg (fun h => by omega), if_pos (by omega), if_neg (fun h => by omega)] at e1
        rw [← HLv.out] at e1
        obtain ⟨V, hV⟩ : ∃ V, V = horner L := ⟨_, rfl⟩
        rw [← hV] at e1 hLlt ⊢
        have E1 := Lib.hid e1
        clear e1 hV
        by_cases hmo : most < V
        ·go_wp2_with (first | ((with_reducible apply ugZ); rfl) | ((with_reducible (first | apply len_B | apply len_BB | apply len_N | apply len_V | apply len_VV)); assumption) | ((with_reducible refine stop_if kS ?_ ?_); rfl))
         go_ret3
         have e := HT.out
         rw [E1.out, if_neg (by simp), if_pos hmo] at e
         rw [e]
         exact ⟨_, rfl, Sl.nil _ _, 0, rfl⟩
        ·obtain ⟨v1, hv1, hs1⟩ := hp.slice_run_l (P := Tryd.prog) rowB .i64 ((j : Int) + 1) (by omega) (by omega)
         go_wp2_with (first | ((with_reducible apply ugZ); rfl) | ((with_reducible (first | apply len_B | apply len_BB | apply len_N | apply len_V | apply len_VV)); assumption) | ((with_reducible refine stop_if kS ?_ ?_); rfl))
         go_quiet (fail)
         go_wp2_with (first | ((with_reducible apply ugZ); rfl) | ((with_reducible (first | apply len_B | apply len_BB | apply len_N | apply len_V | apply len_VV)); assumption) | ((with_reducible refine stop_if kS ?_ ?_); rfl))
         go_ret3
         have e := HT.out
         rw [E1.out, if_neg (by simp), if_neg hmo] at e
         rw [e]
         exact ⟨_, rfl, by simpa using hs1, nq, rfl⟩
  ·obtain rfl : j = l.length := by omega
   have Hpk := Lib.hid hpk
   clear hpk
   go_wp2_with (first | ((with_reducible apply ugZ); rfl) | ((with_reducible (first | apply len_B | apply len_BB | apply len_N | apply len_V | apply len_VV)); assumption) | ((with_reducible refine stop_if kS ?_ ?_); rfl))
   go_ret3
   have e1 := Hpk.out
   rw [List.drop_length, peekGo] at e1
   have e := HT.out
   rw [e1, if_pos (by decide)] at e
   rw [e]
   exact ⟨_, rfl, Sl.nil _ _, 0, rfl⟩
end Go.Proofs.YtjkffjngamagkaaDoor
/- armillaryref02: TakeVec. -/
namespace Go.Arm
def tvec (l : List UInt8) (most : Nat) : List Int32 × List UInt8 × Int :=
 if (taken l most).2.2 ≠ 0 then ([], [], (taken l most).2.2)
 else if (rvec (taken l most).1 (taken l most).2.1).2.2 ≠ 0 then ([], [], (rvec (taken l most).1 (taken l most).2.1).2.2)
 else rvec (taken l most).1 (taken l most).2.1
end Go.Arm
namespace Go.Proofs.YtjkffjngamagkaaDoor
open Go Go.RowKit Go.Arm
set_option maxHeartbeats 4000000 in
set_option maxRecDepth 100000 in
theorem tvec_any (w : World) (S : Nat → Prop) (l : List UInt8) (p : Value) (most : Int) (hp : Sl w S l p) (hm : most ≤ 9223372036854775807) (hl : l.length ≤ 1000000) :
  Calls Tryd.prog 94 #[p, .int .i64 most] w fun e w' => ∃ v u, e = .returned (.tuple #[v, u, .int .i64 (tvec l most.toNat).2.2]) ∧ Own w' w.heap.size 21 (fun _ => False) (tvec l most.toNat).1 v ∧ Sl w' (fun b => S b ∧ b < w.heap.size) (tvec l most.toNat).2.1 u ∧ Below w.heap.size w w' := by
 have hp0 : Sl w (fun b => S b ∧ b < w.heap.size) l p := hp.wide fun b h1 h2 => ⟨h1, h2⟩
 obtain ⟨S', hS'⟩ : ∃ S' : Nat → Prop, S' = fun b => S b ∧ b < w.heap.size := ⟨_, rfl⟩
 rw [← hS'] at hp0 ⊢
 have hSl : ∀ b, S' b → b < w.heap.size := by rw [hS']; exact fun b h => h.2
 clear hS' hp
 have hlim := limit_any w most hm
 obtain ⟨M, hM⟩ : ∃ M, M = most.toNat := ⟨_, rfl⟩
 have hMl : M < 18446744073709551616 := by omega
 rw [← hM] at hlim ⊢
 clear hM
 obtain ⟨R, hR⟩ : ∃ R, R = tvec l M := ⟨_, rfl⟩
 rw [← hR]
 unfold tvec at hR
 have hTl := taken_len l M
 have hTn := taken_num l M hMl
 obtain ⟨T, hT⟩ : ∃ T, T = taken l M := ⟨_, rfl⟩
 rw [← hT] at hR hTl hTn
 have HR := Lib.hid hR
 have HT := Lib.hid hT
 clear hR hT
 go_enter Tryd.func94, Tryd.ntmps94
 go_wp2_with (first | ((with_reducible apply ugZ); rfl) | ((with_reducible (first | apply len_B | apply len_BB | apply len_N | apply len_V | apply len_VV)); assumption) | ((with_reducible refine stop_if kS ?_ ?_); rfl))
 refine hlim.mono ?_
 rintro e w1 ⟨rfl, rfl⟩
 go_wp2_with (first | ((with_reducible apply ugZ); rfl) | ((with_reducible (first | apply len_B | apply len_BB | apply len_N | apply len_V | apply len_VV)); assumption) | ((with_reducible refine stop_if kS ?_ ?_); rfl))
 refine (take02_any w S' l p M hp0).mono ?_
 rw [← HT.out]
 rintro e w1 ⟨u, rfl, hu, nq, hw1⟩
 have hu1 : Sl w1 S' T.2.1 u := by rw [hw1]; exact hu.drewN nq
 have hb1 : Below w.heap.size w w1 := by rw [hw1]; exact below_draws _ _ _
 have hs1 : w1.heap.size = w.heap.size := by rw [hw1]; rfl
 clear hw1 hu
 by_cases hE : T.2.2 = 0
 ·have hEb : (T.2.2 != 0) = false := by simp [hE]
  obtain ⟨RV, hRV⟩ : ∃ RV, RV = rvec T.1 T.2.1 := ⟨_, rfl⟩
  have hR := HR.out
  rw [if_neg (by simpa using hE), ← hRV] at hR
  have HR := Lib.hid hR
  have HRV := Lib.hid hRV
  clear hR hRV
  go_wp2_with (first | ((with_reducible apply ugZ); rfl) | ((with_reducible (first | apply len_B | apply len_BB | apply len_N | apply len_V | apply len_VV)); assumption) | ((with_reducible refine stop_if kS ?_ ?_); rfl))
  go_loopg [8, 10, 11, 12, 13, 14, 27] (T.1 + 1) (fun k r o x1 x2 x3 x4 i wr => ∃ (j : Nat) (L : List UInt8) (D : List Int32), k = T.1 - j + 1 ∧ j ≤ T.1 ∧ Sl wr S' L r ∧ i = .int .u64 j ∧ Own wr w.heap.size 21 (fun _ => False) D o ∧ Below w.heap.size w wr
   ∧ D.length + L.length ≤ l.length ∧ RV = (D ++ (rvec (T.1 - j) L).1, (rvec (T.1 - j) L).2))
  case atStart => exact ⟨0, T.2.1, [], rfl, by omega, hu1, rfl, Own.nil _ _ _ _, hb1, by simpa using hTl, by rw [HRV.out]; simp⟩
  case round =>
   obtain ⟨j, L, D, hk, hj, hL, rfl, ho, hb, hlen, hst⟩ := hrel
   have Hst := Lib.hid hst
   have Hk := Lib.hid hk
   clear hst hk
   by_cases hlt : j < T.1
   ·go_wp2_with (first | ((with_reducible apply ugZ); rfl) | ((with_reducible (first | apply len_B | apply len_BB | apply len_N | apply len_V | apply len_VV)); assumption) | ((with_reducible refine stop_if kS ?_ ?_); rfl))
    refine (take02_any wr _ L _ 18446744073709551615 hL).mono ?_
    obtain ⟨U, hU⟩ : ∃ U, U = taken L 18446744073709551615 := ⟨_, rfl⟩
    rw [← hU]
    rintro e w2 ⟨u2, rfl, hu2, nq2, hw2⟩
    have hul : U.1 < 18446744073709551616 := by rw [hU]; exact taken_num _ _ (by decide)
    have hlt2 : U.2.2 = 0 → U.2.1.length < L.length := by rw [hU]; exact taken_lt L _
    have hrv : rvec (T.1 - j) L = if U.2.2 ≠ 0 then ([], [], U.2.2) else if 4294967295 < U.1 then ([], [], 4) else (Int32.ofInt (unzig U.1) :: (rvec (T.1 - (j + 1)) U.2.1).1, (rvec (T.1 - (j + 1)) U.2.1).2) := by
     rw [show T.1 - j = T.1 - (j + 1) + 1 by omega, rvec, ← hU]
    have hu2' : Sl w2 S' U.2.1 u2 := by rw [hw2]; exact hu2.drewN nq2
    have hb2 : Below w.heap.size w w2 := by rw [hw2]; exact hb.trans (below_draws _ _ _)
    have ho2 : Own w2 w.heap.size 21 (fun _ => False) D u10 := by rw [hw2]; exact Own.drewN ho nq2
    have Hrv := Lib.hid hrv
    clear hrv hU hu2 hw2 hL ho hb
    by_cases hE2 : U.2.2 = 0
    ·have hEb2 : (U.2.2 != 0) = false := by simp [hE2]
     by_cases hbig : 4294967295 < U.1
     ·have hbig' : (4294967295 : Int) < (U.1 : Int) := by omega
      go_wp2_with (first | ((with_reducible apply ugZ); rfl) | ((with_reducible (first | apply len_B | apply len_BB | apply len_N | apply len_V | apply len_VV)); assumption) | ((with_reducible refine stop_if kS ?_ ?_); rfl))
      go_ret3
      have e1 := Hst.out
      rw [Hrv.out, if_neg (by simpa using hE2), if_pos hbig] at e1
      have e := HR.out
      rw [e1, if_pos (by simp)] at e
      rw [e]
      exact ⟨_, _, rfl, Own.nil _ _ _ _, Sl.nil _ _, hb2⟩
     ·have hbig' : ¬ (4294967295 : Int) < (U.1 : Int) := by omega
      have hub := unzig_lt U.1 (by omega)
      obtain ⟨c, hc⟩ : ∃ c, c = Int32.ofInt (unzig U.1) := ⟨_, rfl⟩
      have hct : c.toInt = unzig U.1 := by rw [hc]; exact Int32.toInt_ofInt_of_le hub.1 hub.2
      by_cases hodd : U.1 % 2 = 1
      ·have hcz : c.toInt = -((U.1 : Int) / 2) - 1 := by rw [hct, unzig, if_neg (by omega)]; omega
       have hob : ((U.1 : Int) % 2 == 1) = true := by simp; omega
       have HC := Lib.hid hc
       have HCZ := Lib.hid hcz
       clear hc hct hcz
       go_wp2_with (first | ((with_reducible apply ugZ); rfl) | ((with_reducible (first | apply len_B | apply len_BB | apply len_N | apply len_V | apply len_VV)); assumption) | ((with_reducible refine stop_if kS ?_ ?_); rfl))
       rw [← HCZ.out]
       refine Stop.go (build_V (S := fun _ => False) ([c] : List Int32) [_] rfl rfl rds_V (by simp) fun q w3 k1 k2 k3 k4 => ?_)
       have ho3 := ho2.grown0 k2
       have hb3 := hb2.grown k2 hb2.size (by simp)
       have hu3 := hu2'.grown0 k2
       clear k2 k3 k4
       go_wp2_with (first | ((with_reducible apply ugZ); rfl) | ((with_reducible (first | apply len_B | apply len_BB | apply len_N | apply len_V | apply len_VV)); assumption) | ((with_reducible refine stop_if kS ?_ ?_); rfl))
       refine Stop.go (app_V (ho3 : Own w3 _ _ _ _ u10) k1.sl' (by simp; omega) hb3.size fun v4 w4 g1 g2 g3 => ?_)
       have hb4 := hb3.grown g2 hb3.size (fun k hk => (ho3.ge k hk).1)
       have hu4 := hu3.grown g2 (fun b hb e => by have e : u10.ownBlock = some b := e; have := (ho3.ge b e).1; have := hSl b hb; omega)
       clear g2 g3
       go_wp2_with (first | ((with_reducible apply ugZ); rfl) | ((with_reducible (first | apply len_B | apply len_BB | apply len_N | apply len_V | apply len_VV)); assumption) | ((with_reducible refine stop_if kS ?_ ?_); rfl))
       go_roundg (T.1 - (j + 1) + 1)
       case measure => have := Hk.out; omega
       case rel =>
        have e1 := Hst.out
        rw [Hrv.out, if_neg (by simpa using hE2), if_neg hbig, ← HC.out] at e1
        exact ⟨j + 1, U.2.1, D ++ [c], rfl, by omega, hu4, by go_num, g1, hb4, by have := hlt2 hE2; simp; omega, by rw [e1]; simp⟩
      ·have hcz : c.toInt = (U.1 : Int) / 2 := by rw [hct, unzig, if_pos (by omega)]; omega
       have hob : ((U.1 : Int) % 2 == 1) = false := by simp; omega
       have HC := Lib.hid hc
       have HCZ := Lib.hid hcz
       clear hc hct hcz
       go_wp2_with (first | ((with_reducible apply ugZ); rfl) | ((with_reducible (first | apply len_B | apply len_BB | apply len_N | apply len_V | apply len_VV)); assumption) | ((with_reducible refine stop_if kS ?_ ?_); rfl))
       rw [← HCZ.out]
       refine Stop.go (build_V (S := fun _ => False) ([c] : List Int32) [_] rfl rfl rds_V (by simp) fun q w3 k1 k2 k3 k4 => ?_)
       have ho3 := ho2.grown0 k2
       have hb3 := hb2.grown k2 hb2.size (by simp)
       have hu3 := hu2'.grown0 k2
       clear k2 k3 k4
       go_wp2_with (first | ((with_reducible apply ugZ); rfl) | ((with_reducible (first | apply len_B | apply len_BB | apply len_N | apply len_V | apply len_VV)); assumption) | ((with_reducible refine stop_if kS ?_ ?_); rfl))
       refine Stop.go (app_V (ho3 : Own w3 _ _ _ _ u10) k1.sl' (by simp; omega) hb3.size fun v4 w4 g1 g2 g3 => ?_)
       have hb4 := hb3.grown g2 hb3.size (fun k hk => (ho3.ge k hk).1)
       have hu4 := hu3.grown g2 (fun b hb e => by have e : u10.ownBlock = some b := e; have := (ho3.ge b e).1; have := hSl b hb; omega)
       clear g2 g3
       go_wp2_with (first | ((with_reducible apply ugZ); rfl) | ((with_reducible (first | apply len_B | apply len_BB | apply len_N | apply len_V | apply len_VV)); assumption) | ((with_reducible refine stop_if kS ?_ ?_); rfl))
       go_roundg (T.1 - (j + 1) + 1)
       case measure => have := Hk.out; omega
       case rel =>
        have e1 := Hst.out
        rw [Hrv.out, if_neg (by simpa using hE2), if_neg hbig, ← HC.out] at e1
        exact ⟨j + 1, U.2.1, D ++ [c], rfl, by omega, hu4, by go_num, g1, hb4, by have := hlt2 hE2; simp; omega, by rw [e1]; simp⟩
    ·have hEb2 : (U.2.2 != 0) = true := by simpa using hE2
     go_wp2_with (first | ((with_reducible apply ugZ); rfl) | ((with_reducible (first | apply len_B | apply len_BB | apply len_N | apply len_V | apply len_VV)); assumption) | ((with_reducible refine stop_if kS ?_ ?_); rfl))
     go_ret3
     have e1 := Hst.out
     rw [Hrv.out, if_pos hE2] at e1
     have e := HR.out
     rw [e1, if_pos hE2] at e
     rw [e]
     exact ⟨_, _, rfl, Own.nil _ _ _ _, Sl.nil _ _, hb2⟩
   ·obtain rfl : j = T.1 := by omega
    go_wp2_with (first | ((with_reducible apply ugZ); rfl) | ((with_reducible (first | apply len_B | apply len_BB | apply len_N | apply len_V | apply len_VV)); assumption) | ((with_reducible refine stop_if kS ?_ ?_); rfl))
    go_ret3
    have e1 := Hst.out
    rw [Nat.sub_self, rvec] at e1
    have e := HR.out
    rw [e1, if_neg (by simp)] at e
    rw [e]
    exact ⟨_, _, rfl, by simpa using ho, hL, hb⟩
 ·have hEb : (T.2.2 != 0) = true := by simpa using hE
  go_wp2_with (first | ((with_reducible apply ugZ); rfl) | ((with_reducible (first | apply len_B | apply len_BB | apply len_N | apply len_V | apply len_VV)); assumption) | ((with_reducible refine stop_if kS ?_ ?_); rfl))
  go_ret3
  have e := HR.out
  rw [if_pos hE] at e
  rw [e]
  exact ⟨_, _, rfl, Own.nil _ _ _ _, Sl.nil _ _, hb1⟩
end Go.Proofs.YtjkffjngamagkaaDoor
/- package note: read. -/
namespace Go.Arm
open Go.RowKit
theorem OwnG.only {α : Type} [Rep α] {F : Nat → Prop} {w w' : World} {B : Nat} {e : TypeId} {l : List α} {v : Value} (h : OwnG w B e l v) (ho : Only F w w') (hF : ∀ b, B ≤ b → b < w.heap.size → ¬ F b) : OwnG w' B e l v :=
 Own.keep h (fun b hb hlt => ⟨ho.block b hlt (hF b hb.1 hlt), hb.1, by have := ho.size; omega, hb.2.2⟩) fun b hv => by
  have := h.ge b hv
  exact ho.block b this.2 (hF b this.1 this.2)
end Go.Arm
namespace Go.Proofs.YtjkffjngamagkaaDoor
open Go Go.RowKit Go.Arm
theorem oneU8 : One Tryd.prog 5 := One.mk' Tryd.underlying5 rfl (by kernel_rfl)
theorem oneU64 : One Tryd.prog 26 := One.mk' Tryd.underlying26 rfl (by kernel_rfl)
theorem oneInt : One Tryd.prog 3 := One.mk' Tryd.underlying3 rfl (by kernel_rfl)
theorem oneErr : One Tryd.prog 27 := One.mk' Tryd.underlying27 rfl (by kernel_rfl)
theorem oneP : One Tryd.prog 28 := One.mk' Tryd.underlying28 rfl (by kernel_rfl)
theorem oneO : One Tryd.prog 29 := One.mk' Tryd.underlying29 rfl (by kernel_rfl)
theorem oneV : One Tryd.prog 30 := One.mk' Tryd.underlying30 rfl (by kernel_rfl)
theorem oneH : One Tryd.prog 31 := One.mk' Tryd.underlying31 rfl (by kernel_rfl)
theorem onePtr : One Tryd.prog 99 := One.mk' Tryd.underlying99 rfl (by kernel_rfl)
def zeroCells : Array Value := #[.int .u8 0, .int .u64 0, .int .u64 0, .int .u64 0, .int .u64 0, .int .u64 0, .int .u64 0, .int .u64 0, .int .i64 0, .int .i64 0, .int .i64 0, .int .i64 0, .slice none 0 0, .slice none 0 0, .slice none 0 0, .slice none 0 0]
structure RdB (w0 : World) (g bR bF bN b2 N : Nat) (S : Nat → Prop) (KP : World → Prop) : Prop where
 hK : ∀ w w' : World, N ≤ w.heap.size → Only (fun b => b = g ∨ b = bN ∨ N ≤ b) w w' → KP w → KP w'
 hg : g < w0.heap.size
 hS : ∀ b, S b → b < w0.heap.size
 hR : w0.heap.size ≤ bR ∧ bR < N
 hF : w0.heap.size ≤ bF ∧ bF < N
 hN : w0.heap.size ≤ bN ∧ bN < N
 h2 : w0.heap.size ≤ b2 ∧ b2 < N
 nR : bN ≠ bR
 nF : bN ≠ bF
 n2 : bN ≠ b2
structure RdS (w0 w : World) (g bR bF bN b2 N : Nat) (S : Nat → Prop) (KP : World → Prop) (k : Nat) (cs : Array Value) (s : RS) : Prop where
 rd : RdA w g S s
 kp : KP w
 nw : N ≤ w.heap.size
 cR : Blk w bR 99 #[.pointer (some ⟨g, 0, none⟩)]
 cF : Blk w bF 3 #[.int .i64 (sortMask k : Int)]
 cN : Blk w bN 33 cs
 c2 : Blk w b2 33 zeroCells
 ol : Only (fun x => x = g) w0 w
section
variable {w0 w w' : World} {g bR bF bN b2 N : Nat} {S : Nat → Prop} {KP : World → Prop} {k : Nat} {cs cs' : Array Value} {s s' : RS}
theorem RdS.only (h : RdS w0 w g bR bF bN b2 N S KP k cs s) (hB : RdB w0 g bR bF bN b2 N S KP) {F : Nat → Prop} (ho : Only F w w') (hF : ∀ b, F b → N ≤ b) : RdS w0 w' g bR bF bN b2 N S KP k cs s := by
 have f : ∀ b, b < N → ¬ F b := fun b hb hf => by have := hF b hf; omega
 have h0 : w0.heap.size ≤ N := by have := hB.hR; omega
 refine ⟨h.rd.only ho (f g (by have := hB.hg; omega)) fun b hb _ => f b (by have := hB.hS b hb; omega), hB.hK _ _ h.nw (ho.mono fun b _ hf => .inr (.inr (hF b hf))) h.kp, Nat.le_trans h.nw ho.size, h.cR.only ho (f _ hB.hR.2), h.cF.only ho (f _ hB.hF.2), h.cN.only ho (f _ hB.hN.2), h.c2.only ho (f _ hB.h2.2), ?_⟩
 exact h.ol.trans ho fun b hb hf => absurd hf (f b (by omega))
theorem RdS.below (h : RdS w0 w g bR bF bN b2 N S KP k cs s) (hB : RdB w0 g bR bF bN b2 N S KP) {B : Nat} (ho : Below B w w') (hF : N ≤ B) : RdS w0 w' g bR bF bN b2 N S KP k cs s :=
 h.only hB (Only.of_below ho) fun b hb => by omega
theorem RdS.call (h : RdS w0 w g bR bF bN b2 N S KP k cs s) (hB : RdB w0 g bR bF bN b2 N S KP) (hr : RdA w' g S s') (ho : Only (· = g) w w') : RdS w0 w' g bR bF bN b2 N S KP k cs s' := by
 have hg := hB.hg
 refine ⟨hr, hB.hK _ _ h.nw (ho.mono fun b _ hf => .inl hf) h.kp, Nat.le_trans h.nw ho.size, h.cR.only ho (by have := hB.hR; omega), h.cF.only ho (by have := hB.hF; omega), h.cN.only ho (by have := hB.hN; omega), h.c2.only ho (by have := hB.h2; omega), ?_⟩
 exact h.ol.trans ho fun b _ e => e
theorem RdS.set (h : RdS w0 w g bR bF bN b2 N S KP k cs s) (hB : RdB w0 g bR bF bN b2 N S KP) (hn : Blk w' bN 33 cs') (ho : Only (fun b => b = bN) w w') : RdS w0 w' g bR bF bN b2 N S KP k cs' s := by
 have hg := hB.hg
 have hN := hB.hN
 refine ⟨h.rd.only ho (by omega) fun b hb _ => by have := hB.hS b hb; omega, hB.hK _ _ h.nw (ho.mono fun b _ hf => .inr (.inl hf)) h.kp, Nat.le_trans h.nw ho.size, h.cR.only ho (fun e => hB.nR e.symm), h.cF.only ho (fun e => hB.nF e.symm), hn, h.c2.only ho (fun e => hB.n2 e.symm), ?_⟩
 exact h.ol.trans ho fun b hb e => by omega
theorem RdB.le (hB : RdB w0 g bR bF bN b2 N S KP) : w0.heap.size ≤ N := by have := hB.hR; omega
theorem RdB.ne (hB : RdB w0 g bR bF bN b2 N S KP) : ∀ b, N ≤ b → b ≠ g ∧ b ≠ bN := fun b hb => by have := hB.hg; have := hB.hN; have := hB.le; omega
theorem RdB.next {α : Type} [Rep α] {l : List α} {v : Value} {M : Nat} (hB : RdB w0 g bR bF bN b2 N S KP) (hM : N ≤ M) : RdB w0 g bR bF bN b2 M S fun w => KP w ∧ Sl w (fun b => N ≤ b ∧ b < M) l v := by
 refine ⟨fun w w' hw ho hk => ⟨hB.hK _ _ (Nat.le_trans hM hw) (ho.mono fun b _ hf => ?_) hk.1, hk.2.only ho fun b hb _ hf => ?_⟩, hB.hg, hB.hS, ⟨hB.hR.1, by have := hB.hR; omega⟩, ⟨hB.hF.1, by have := hB.hF; omega⟩, ⟨hB.hN.1, by have := hB.hN; omega⟩, ⟨hB.h2.1, by have := hB.h2; omega⟩, hB.nR, hB.nF, hB.n2⟩
 ·rcases hf with hf | hf | hf
  ·exact .inl hf
  ·exact .inr (.inl hf)
  ·exact .inr (.inr (by omega))
 ·have := hB.ne b hb.1
  rcases hf with hf | hf | hf
  ·exact this.1 hf
  ·exact this.2 hf
  ·have := hb.2; omega
theorem RdS.next {α : Type} [Rep α] {l : List α} {v : Value} (h : RdS w0 w g bR bF bN b2 N S KP k cs s) (ho : Sl w (fun b => N ≤ b ∧ b < w.heap.size) l v) : RdS w0 w g bR bF bN b2 w.heap.size S (fun w' => KP w' ∧ Sl w' (fun b => N ≤ b ∧ b < w.heap.size) l v) k cs s :=
 ⟨h.rd, ⟨h.kp, ho⟩, Nat.le_refl _, h.cR, h.cF, h.cN, h.c2, h.ol⟩
end
section
variable {ops : Array Oper} {Q : Exit → Act → World → Prop} {a : Act} {w : World}
variable {dst : Option Tmp} {ty : TypeId} {pos : String} {after : Array Edge} {K : Act → World → Prop} {E : Prop}
theorem step_lit_P {x : Operand} {v : Int} (hx : a.eval x = .int .i64 v) (hv : I64 v) (h : ∀ q w', Sl w' (fun b => b = w.heap.size) [v] q → Below w.heap.size w w' → w.heap.size < w'.heap.size → K (a.put dst q) w') :
  if Region.wanted ⟨dst, .buildSlice 28 1 #[(0, x)], ty, pos, after, none⟩ (yielded ops a.tmps) = true then Oper.wp Tryd.prog ⟨dst, .buildSlice 28 1 #[(0, x)], ty, pos, after, none⟩ a w K Q else E := by
 rw [if_pos (by simp [Region.wanted])]
 have hrun : (Instr.buildSlice 28 1 #[(0, .int .i64 v)]).run Tryd.prog w = .ok (.slice (some ⟨w.heap.size, 0, none⟩) 1 1) (w.alloc (.cells #[.int .i64 v] 3)) := by go_simp
 have hps : (#[(0, x)] : Array (Nat × Operand)).map (fun y => (y.1, a.eval y.2)) = #[(0, .int .i64 v)] := by simp [hx]
 unfold Oper.wp
 simp only [execOp, hps, Sem.run_bind, hrun, Result.andThen_ok, Sem.run_pure]
 exact h _ _ (lit_sl _ _ _ [v] [.int .i64 v] _ (by simp) ⟨[.int .i64 v], [], rfl, ⟨rfl, hv⟩, rfl⟩ rfl (heap_alloc_new w _)) ((Below.refl _ _).alloc (Nat.le_refl _) _) (by rw [size_alloc]; omega)
set_option maxRecDepth 100000 in
theorem step_lit_O {x : Operand} {i : UInt64} {v : List Int32} {u : Value} {S : Nat → Prop} (hx : a.eval x = .agg #[.int .u64 (i.toNat : Int), u]) (hu : Sl w S v u) (h : ∀ q w', Sl w' (fun b => b = w.heap.size ∨ S b) [(⟨i, v⟩ : OpR)] q → Below w.heap.size w w' → w.heap.size < w'.heap.size → K (a.put dst q) w') :
  if Region.wanted ⟨dst, .buildSlice 29 1 #[(0, x)], ty, pos, after, none⟩ (yielded ops a.tmps) = true then Oper.wp Tryd.prog ⟨dst, .buildSlice 29 1 #[(0, x)], ty, pos, after, none⟩ a w K Q else E := by
 rw [if_pos (by simp [Region.wanted])]
 obtain ⟨ua, un, uc, rfl⟩ := Sl.shape hu
 have hrun : (Instr.buildSlice 29 1 #[(0, .agg #[.int .u64 (i.toNat : Int), .slice ua un uc])]).run Tryd.prog w = .ok (.slice (some ⟨w.heap.size, 0, none⟩) 1 1) (w.alloc (.cells #[.int .u64 (i.toNat : Int), .slice ua un uc] 63)) := by go_simp
 have hps : (#[(0, x)] : Array (Nat × Operand)).map (fun y => (y.1, a.eval y.2)) = #[(0, .agg #[.int .u64 (i.toNat : Int), .slice ua un uc])] := by simp [hx]
 unfold Oper.wp
 simp only [execOp, hps, Sem.run_bind, hrun, Result.andThen_ok, Sem.run_pure]
 have hb := (Below.refl w.heap.size w).alloc (Nat.le_refl _) (.cells #[.int .u64 (i.toNat : Int), .slice ua un uc] 63)
 exact h _ _ (lit_sl _ _ _ [(⟨i, v⟩ : OpR)] [.int .u64 (i.toNat : Int), .slice ua un uc] _ (by simp) ⟨[.int .u64 (i.toNat : Int), .slice ua un uc], [], rfl, ⟨_, rfl, (hu.below hb (Nat.le_refl _)).wide fun b hb _ => .inr hb⟩, rfl⟩ (.inl rfl) (heap_alloc_new w _)) hb (by rw [size_alloc]; omega)
set_option maxRecDepth 100000 in
theorem step_lit_H {x : Operand} {i d : UInt64} {v : List Int32} {u : Value} {S : Nat → Prop} (hx : a.eval x = .agg #[.int .u64 (i.toNat : Int), .int .u64 (d.toNat : Int), u]) (hu : Sl w S v u) (h : ∀ q w', Sl w' (fun b => b = w.heap.size ∨ S b) [(⟨i, d, v⟩ : HitR)] q → Below w.heap.size w w' → w.heap.size < w'.heap.size → K (a.put dst q) w') :
  if Region.wanted ⟨dst, .buildSlice 31 1 #[(0, x)], ty, pos, after, none⟩ (yielded ops a.tmps) = true then Oper.wp Tryd.prog ⟨dst, .buildSlice 31 1 #[(0, x)], ty, pos, after, none⟩ a w K Q else E := by
 rw [if_pos (by simp [Region.wanted])]
 obtain ⟨ua, un, uc, rfl⟩ := Sl.shape hu
 have hrun : (Instr.buildSlice 31 1 #[(0, .agg #[.int .u64 (i.toNat : Int), .int .u64 (d.toNat : Int), .slice ua un uc])]).run Tryd.prog w = .ok (.slice (some ⟨w.heap.size, 0, none⟩) 1 1) (w.alloc (.cells #[.int .u64 (i.toNat : Int), .int .u64 (d.toNat : Int), .slice ua un uc] 114)) := by go_simp
 have hps : (#[(0, x)] : Array (Nat × Operand)).map (fun y => (y.1, a.eval y.2)) = #[(0, .agg #[.int .u64 (i.toNat : Int), .int .u64 (d.toNat : Int), .slice ua un uc])] := by simp [hx]
 unfold Oper.wp
 simp only [execOp, hps, Sem.run_bind, hrun, Result.andThen_ok, Sem.run_pure]
 have hb := (Below.refl w.heap.size w).alloc (Nat.le_refl _) (.cells #[.int .u64 (i.toNat : Int), .int .u64 (d.toNat : Int), .slice ua un uc] 114)
 exact h _ _ (lit_sl _ _ _ [(⟨i, d, v⟩ : HitR)] [.int .u64 (i.toNat : Int), .int .u64 (d.toNat : Int), .slice ua un uc] _ (by simp) ⟨[.int .u64 (i.toNat : Int), .int .u64 (d.toNat : Int), .slice ua un uc], [], rfl, ⟨_, rfl, (hu.below hb (Nat.le_refl _)).wide fun b hb _ => .inr hb⟩, rfl⟩ (.inl rfl) (heap_alloc_new w _)) hb (by rw [size_alloc]; omega)
theorem step_app_P {s x : Operand} {B : Nat} {S' : Nat → Prop} {l m : List Int} (hs : OwnG w B 3 l (a.eval s)) (hx : Sl w S' m (a.eval x)) (hS : ∀ b, S' b → b < w.heap.size → B ≤ b ∧ (a.eval s).ownBlock ≠ some b)
  (hl : (l.length + m.length) * 8 ≤ 140737488355328) (hB : B ≤ w.heap.size)
  (h : ∀ v' w', OwnG w' B 3 (l ++ m) v' → w.grownBy w' (a.eval s).ownBlock → K (a.put dst v') w') :
  if Region.wanted ⟨dst, .call ⟨.builtin .append, #[s, x], #[28, 28]⟩, ty, pos, after, none⟩ (yielded ops a.tmps) = true then
   Oper.wp Tryd.prog ⟨dst, .call ⟨.builtin .append, #[s, x], #[28, 28]⟩, ty, pos, after, none⟩ a w K Q else E :=
 step_of_list rfl (fun a' w' => ∃ v', a' = a.put dst v' ∧ OwnG w' B 3 (l ++ m) v' ∧ w.grownBy w' (a.eval s).ownBlock)
  (fun _ _ hQ => wpList_appendG rowP rfl (by decide) hs hx hS (by simp only [maxLen]; omega) hl hB fun v' _ g1 g2 _ => hQ _ _ ⟨v', rfl, g1, g2⟩)
  fun _ _ ⟨v', e, g1, g2⟩ => e ▸ h v' _ g1 g2
end
theorem RdS.num {w0 w : World} {g bR bF bN b2 N : Nat} {S : Nat → Prop} {KP : World → Prop} {k : Nat} {cs : Array Value} {s : RS} (h : RdS w0 w g bR bF bN b2 N S KP k cs s) (hB : RdB w0 g bR bF bN b2 N S KP) (i most : Nat) (F M : Int) (hi : i < 15) (hF : ((2 ^ i : Nat) : Int) = F) (hM : (most : Int) = M) :
  Calls Tryd.prog 90 #[.int .i64 F, .int .u64 M, .pointer (some ⟨bF, 0, none⟩), .pointer (some ⟨bR, 0, none⟩)] w fun e w' => ∃ x t, (x, t) = cnum k i most s ∧ x ≤ most ∧ e = .returned (.int .u64 (x : Int)) ∧ RdS w0 w' g bR bF bN b2 N S KP k cs t := by
 subst hF
 subst hM
 refine (read1_any w g bR bF S s k i most hi h.rd h.cR h.cF).mono ?_
 rintro e w' ⟨rfl, h1, h2⟩
 exact ⟨_, _, rfl, cnum_lt s, rfl, h.call hB h1 h2⟩
theorem parse_steps {s s0 t0 t1 t2 t3 t4 t5 t6 t7 t8 t9 t10 t11 t12 t14 sP sO sV sH : RS} {k x0 x1 x2 x3 x4 x5 x6 x7 x8 x9 x10 x11 x12 x14 : Nat} {LP : List Int} {LO : List OpR} {LV : List Int32} {LH : List HitR}
  (hK : (k, s0) = anum 255 s) (h0 : (x0, t0) = cnum k 0 18446744073709551615 s0) (h1 : (x1, t1) = cnum k 1 18446744073709551615 t0) (h2 : (x2, t2) = cnum k 2 1099511627776 t1) (h3 : (x3, t3) = cnum k 3 1099511627776 t2) (h4 : (x4, t4) = cnum k 4 1099511627776 t3) (h5 : (x5, t5) = cnum k 5 18446744073709551615 t4) (h6 : (x6, t6) = cnum k 6 1099511627776 t5) (h7 : (x7, t7) = cnum k 7 16 t6) (h8 : (x8, t8) = cnum k 8 256 t7) (h9 : (x9, t9) = cnum k 9 13 t8) (h10 : (x10, t10) = cnum k 10 16 t9) (h11 : (x11, t11) = cnum k 11 4 t10)
  (hP : (LP, sP) = rep (apart plim) x11 t11) (h12 : (x12, t12) = cnum k 12 16 sP) (hO : (LO, sO) = rep (aop plim) x12 t12) (hV : (LV, sV) = (if hasF k 13 then avec sO else ([], sO))) (h14 : (x14, t14) = cnum k 14 16 sV) (hH : (LH, sH) = rep (ahit plim) x14 t14) :
  parse plim s = (mkN k [x0, x1, x2, x3, x4, x5, x6, x7, x8, x9, x10] LP LO LV LH, sH) := by
 have m11 : mnums plim k 11 0 t10 = ([], t10) := rfl
 have m10 : mnums plim k 10 1 t9 = ([x10], t10) := by
  show ((cnum k 10 16 t9).1 :: (mnums plim k 11 0 (cnum k 10 16 t9).2).1, (mnums plim k 11 0 (cnum k 10 16 t9).2).2) = _
  rw [← h10]
  show (x10 :: (mnums plim k 11 0 t10).1, (mnums plim k 11 0 t10).2) = _
  rw [m11]
 have m9 : mnums plim k 9 2 t8 = ([x9, x10], t10) := by
  show ((cnum k 9 13 t8).1 :: (mnums plim k 10 1 (cnum k 9 13 t8).2).1, (mnums plim k 10 1 (cnum k 9 13 t8).2).2) = _
  rw [← h9]
  show (x9 :: (mnums plim k 10 1 t9).1, (mnums plim k 10 1 t9).2) = _
  rw [m10]
 have m8 : mnums plim k 8 3 t7 = ([x8, x9, x10], t10) := by
  show ((cnum k 8 256 t7).1 :: (mnums plim k 9 2 (cnum k 8 256 t7).2).1, (mnums plim k 9 2 (cnum k 8 256 t7).2).2) = _
  rw [← h8]
  show (x8 :: (mnums plim k 9 2 t8).1, (mnums plim k 9 2 t8).2) = _
  rw [m9]
 have m7 : mnums plim k 7 4 t6 = ([x7, x8, x9, x10], t10) := by
  show ((cnum k 7 16 t6).1 :: (mnums plim k 8 3 (cnum k 7 16 t6).2).1, (mnums plim k 8 3 (cnum k 7 16 t6).2).2) = _
  rw [← h7]
  show (x7 :: (mnums plim k 8 3 t7).1, (mnums plim k 8 3 t7).2) = _
  rw [m8]
 have m6 : mnums plim k 6 5 t5 = ([x6, x7, x8, x9, x10], t10) := by
  show ((cnum k 6 1099511627776 t5).1 :: (mnums plim k 7 4 (cnum k 6 1099511627776 t5).2).1, (mnums plim k 7 4 (cnum k 6 1099511627776 t5).2).2) = _
  rw [← h6]
  show (x6 :: (mnums plim k 7 4 t6).1, (mnums plim k 7 4 t6).2) = _
  rw [m7]
 have m5 : mnums plim k 5 6 t4 = ([x5, x6, x7, x8, x9, x10], t10) := by
  show ((cnum k 5 18446744073709551615 t4).1 :: (mnums plim k 6 5 (cnum k 5 18446744073709551615 t4).2).1, (mnums plim k 6 5 (cnum k 5 18446744073709551615 t4).2).2) = _
  rw [← h5]
  show (x5 :: (mnums plim k 6 5 t5).1, (mnums plim k 6 5 t5).2) = _
  rw [m6]
 have m4 : mnums plim k 4 7 t3 = ([x4, x5, x6, x7, x8, x9, x10], t10) := by
  show ((cnum k 4 1099511627776 t3).1 :: (mnums plim k 5 6 (cnum k 4 1099511627776 t3).2).1, (mnums plim k 5 6 (cnum k 4 1099511627776 t3).2).2) = _
  rw [← h4]
  show (x4 :: (mnums plim k 5 6 t4).1, (mnums plim k 5 6 t4).2) = _
  rw [m5]
 have m3 : mnums plim k 3 8 t2 = ([x3, x4, x5, x6, x7, x8, x9, x10], t10) := by
  show ((cnum k 3 1099511627776 t2).1 :: (mnums plim k 4 7 (cnum k 3 1099511627776 t2).2).1, (mnums plim k 4 7 (cnum k 3 1099511627776 t2).2).2) = _
  rw [← h3]
  show (x3 :: (mnums plim k 4 7 t3).1, (mnums plim k 4 7 t3).2) = _
  rw [m4]
 have m2 : mnums plim k 2 9 t1 = ([x2, x3, x4, x5, x6, x7, x8, x9, x10], t10) := by
  show ((cnum k 2 1099511627776 t1).1 :: (mnums plim k 3 8 (cnum k 2 1099511627776 t1).2).1, (mnums plim k 3 8 (cnum k 2 1099511627776 t1).2).2) = _
  rw [← h2]
  show (x2 :: (mnums plim k 3 8 t2).1, (mnums plim k 3 8 t2).2) = _
  rw [m3]
 have m1 : mnums plim k 1 10 t0 = ([x1, x2, x3, x4, x5, x6, x7, x8, x9, x10], t10) := by
  show ((cnum k 1 18446744073709551615 t0).1 :: (mnums plim k 2 9 (cnum k 1 18446744073709551615 t0).2).1, (mnums plim k 2 9 (cnum k 1 18446744073709551615 t0).2).2) = _
  rw [← h1]
  show (x1 :: (mnums plim k 2 9 t1).1, (mnums plim k 2 9 t1).2) = _
  rw [m2]
 have m0 : mnums plim k 0 11 s0 = ([x0, x1, x2, x3, x4, x5, x6, x7, x8, x9, x10], t10) := by
  show ((cnum k 0 18446744073709551615 s0).1 :: (mnums plim k 1 10 (cnum k 0 18446744073709551615 s0).2).1, (mnums plim k 1 10 (cnum k 0 18446744073709551615 s0).2).2) = _
  rw [← h0]
  show (x0 :: (mnums plim k 1 10 t0).1, (mnums plim k 1 10 t0).2) = _
  rw [m1]
 unfold parse
 simp only [← hK, m0, ← h11, ← hP, ← h12, ← hO, ← hV, ← h14, ← hH]
set_option maxRecDepth 100000 in
theorem mkN_val {k x0 x1 x2 x3 x4 x5 x6 x7 x8 x9 x10 : Nat} (hk : k ≤ 255) (h0 : x0 ≤ 18446744073709551615) (h1 : x1 ≤ 18446744073709551615) (h2 : x2 ≤ 1099511627776) (h3 : x3 ≤ 1099511627776) (h4 : x4 ≤ 1099511627776) (h5 : x5 ≤ 18446744073709551615) (h6 : x6 ≤ 1099511627776) (ps : List Int) (os : List OpR) (v : List Int32) (hs : List HitR) (vp vo vv vh : Value) :
  noteV (mkN k [x0, x1, x2, x3, x4, x5, x6, x7, x8, x9, x10] ps os v hs) vp vo vv vh = .agg #[.int .u8 (k : Int), .int .u64 (x0 : Int), .int .u64 (x1 : Int), .int .u64 (x2 : Int), .int .u64 (x3 : Int), .int .u64 (x4 : Int), .int .u64 (x5 : Int), .int .u64 (x6 : Int), .int .i64 (x7 : Int), .int .i64 (x8 : Int), .int .i64 (x9 : Int), .int .i64 (x10 : Int), vp, vo, vv, vh] := by
 have e : ∀ x : Nat, x ≤ 18446744073709551615 → (UInt64.ofNat x).toNat = x := fun x h => UInt64.toNat_ofNat_of_lt' (by show x < 18446744073709551616; omega)
 have ek : (UInt8.ofNat k).toNat = k := UInt8.toNat_ofNat_of_lt' (by show k < 256; omega)
 simp only [noteV, mkN, List.getD_cons_zero, List.getD_cons_succ, ek, e x0 h0, e x1 h1, e x2 (by omega), e x3 (by omega), e x4 (by omega), e x5 h5, e x6 (by omega)]
end Go.Proofs.YtjkffjngamagkaaDoor
/- armillaryref12: the reader: take, small, vector. -/
namespace Go.Arm
open Go.RowKit
theorem anum_small (most : Nat) (hm : most ≤ aU64) (s : RS) : anum most s = if most < (anum aU64 s).1 then (0, none) else anum aU64 s := by
 cases s with
 | none => simp [anum]
 | some l =>
  by_cases h1 : (taken l aU64).2.2 = 0
  ·have e1 : anum aU64 (some l) = ((taken l aU64).1, some (taken l aU64).2.1) := by rw [anum, if_neg (by simpa using h1)]
   obtain ⟨g1, g2⟩ := taken_form l aU64 h1
   have h2 := taken_enc (taken l aU64).1 most (taken l aU64).2.1 (Nat.lt_of_le_of_lt g2 (by decide))
   rw [← g1] at h2
   rw [e1]
   simp only
   rw [anum, h2]
   by_cases h3 : most < (taken l aU64).1
   ·simp [h3]
   ·simp [h3]
  ·have e1 : anum aU64 (some l) = (0, none) := by rw [anum, if_pos h1]
   rw [e1]
   simp only [Nat.not_lt_zero, if_false]
   rw [anum]
   by_cases h2 : (taken l most).2.2 = 0
   ·exfalso
    obtain ⟨g1, g2⟩ := taken_form l most h2
    have h3 := taken_enc (taken l most).1 aU64 (taken l most).2.1 (by unfold aU64 at hm; omega)
    rw [← g1, if_neg (by omega)] at h3
    exact h1 (by rw [h3])
   ·rw [if_pos h2]
end Go.Arm
namespace Go.Proofs.YtjkffjngamagkaaDoor
open Go Go.RowKit Go.Arm
theorem oneBool : One Tryd.prog 4 := One.mk' Tryd.underlying4 rfl (by kernel_rfl)
theorem oneB : One Tryd.prog 22 := One.mk' Tryd.underlying22 rfl (by kernel_rfl)
def RfA (w : World) (g : Nat) (S : Nat → Prop) (s : RS) : Prop := ∃ (l : List UInt8) (v : Value) (ok : Bool), Blk w g 107 #[v, .bool ok] ∧ Sl w S l v ∧ ¬ S g ∧ s = (if ok = true then some l else none) ∧ l.length ≤ 1000000
theorem RfA.lt {w : World} {g : Nat} {S : Nat → Prop} {s : RS} (h : RfA w g S s) : g < w.heap.size := by
 obtain ⟨l, v, ok, h1, _⟩ := h
 exact h1.lt
theorem RfA.only {w w' : World} {F : Nat → Prop} {g : Nat} {S : Nat → Prop} {s : RS} (h : RfA w g S s) (ho : Only F w w') (hg : ¬ F g) (hS : ∀ b, S b → b < w.heap.size → ¬ F b) : RfA w' g S s := by
 obtain ⟨l, v, ok, h1, h2, h3⟩ := h
 exact ⟨l, v, ok, h1.only ho hg, h2.only ho hS, h3⟩
set_option maxRecDepth 100000 in
theorem rtake_any (w : World) (g : Nat) (S : Nat → Prop) (s : RS) (h : RfA w g S s) :
  Calls Tryd.prog 51 #[.pointer (some ⟨g, 0, none⟩)] w fun e w' => e = .returned (.int .u64 (anum aU64 s).1) ∧ RfA w' g S (anum aU64 s).2 ∧ Only (· = g) w w' := by
 obtain ⟨l, v, ok, hb, hv, hS, hs, hl⟩ := h
 have htk := taken_len l aU64
 have hc := take02_any w S l v aU64 hv
 obtain ⟨T, hT⟩ : ∃ T, T = taken l aU64 := ⟨_, rfl⟩
 rw [← hT] at hc htk
 obtain ⟨R, hR⟩ : ∃ R, R = anum aU64 s := ⟨_, rfl⟩
 rw [← hR]
 have HR : Hid (R = if ok = true ∧ T.2.2 = 0 then (T.1, some T.2.1) else (0, none)) := by
  refine Lib.hid ?_
  rw [hR, hs]
  cases ok
  ·simp [anum]
  ·simp only [if_true, anum, ← hT]
   by_cases h0 : T.2.2 = 0
   ·simp [h0]
   ·simp [h0]
 clear hR hs hT
 obtain ⟨tn, tr, te⟩ := T
 have htk : tr.length ≤ l.length := htk
 have c0 : w.cell? ⟨g, 0, none⟩ = some v := hb.cell 0
 have hc : Calls Tryd.prog 93 #[v, .int .u64 18446744073709551615] w fun e w' => ∃ v', e = .returned (.tuple #[.int .u64 tn, v', .int .i64 te]) ∧ Sl w S tr v' ∧ ∃ nq, w' = w.drewN nq := hc
 have HR : Hid (R = if ok = true ∧ te = 0 then (tn, some tr) else (0, none)) := HR
 go_enter Tryd.func51, Tryd.ntmps51
 go_wp2_with (fail)
 refine hc.mono ?_
 rintro e w2 ⟨v', rfl, hv', nq, rfl⟩
 have hb2 : Blk (w.drewN nq) g 107 #[v, .bool ok] := hb
 have c1 : (w.drewN nq).cell? ⟨g, 1, none⟩ = some (.bool ok) := hb2.cell 1
 have hv2 : Sl (w.drewN nq) S tr v' := hv'.drewN nq
 have hvo : Sl (w.drewN nq) S l v := hv.drewN nq
 have hdo : Only (· = g) w (w.drewN nq) := ⟨rfl, rfl, rfl, Nat.le_refl _, fun _ _ _ => rfl⟩
 clear hc c0 hb hv hv'
 generalize w.drewN nq = w2 at *
 by_cases h0 : te = 0
 ·subst h0
  cases ok
  ·have e : R = (0, none) := by rw [HR.out]; simp
   subst e
   clear HR
   go_wp2_with (first | ((with_reducible apply ugZ); rfl) | ((with_reducible (first | apply len_B | apply len_BB | apply len_N | apply len_V | apply len_VV | apply len_P | apply len_O | apply len_H)); assumption) | ((with_reducible refine stop_if kB ?_ ?_); rfl))
   refine Stop.go (blk_store (.bool false) oneBool hb2 rfl rfl rfl rfl (by simp) fun w3 c3 o3 z3 => ?_)
   go_wp2_with (first | ((with_reducible apply ugZ); rfl) | ((with_reducible (first | apply len_B | apply len_BB | apply len_N | apply len_V | apply len_VV | apply len_P | apply len_O | apply len_H)); assumption) | ((with_reducible refine stop_if kB ?_ ?_); rfl))
   go_ret
   exact ⟨rfl, ⟨l, v, false, c3, hvo.only o3 (fun b hb _ e => hS (e ▸ hb)), hS, rfl, hl⟩, hdo.trans o3 fun _ _ h => h⟩
  ·have e : R = (tn, some tr) := by rw [HR.out]; simp
   subst e
   clear HR
   obtain ⟨va, vn, vc, rfl⟩ := Sl.shape hv2
   go_wp2_with (first | ((with_reducible apply ugZ); rfl) | ((with_reducible (first | apply len_B | apply len_BB | apply len_N | apply len_V | apply len_VV | apply len_P | apply len_O | apply len_H)); assumption) | ((with_reducible refine stop_if kB ?_ ?_); rfl))
   refine Stop.go (blk_store (.slice va vn vc) oneB hb2 rfl rfl rfl rfl (by simp) fun w3 c3 o3 z3 => ?_)
   go_wp2_with (first | ((with_reducible apply ugZ); rfl) | ((with_reducible (first | apply len_B | apply len_BB | apply len_N | apply len_V | apply len_VV | apply len_P | apply len_O | apply len_H)); assumption) | ((with_reducible refine stop_if kB ?_ ?_); rfl))
   go_ret
   exact ⟨rfl, ⟨tr, .slice va vn vc, true, c3, hv2.only o3 (fun b hb _ e => hS (e ▸ hb)), hS, rfl, by omega⟩, hdo.trans o3 fun _ _ h => h⟩
 ·have e : R = (0, none) := by rw [HR.out, if_neg (fun h => h0 h.2)]
  subst e
  clear HR
  go_wp2_with (first | ((with_reducible apply ugZ); rfl) | ((with_reducible (first | apply len_B | apply len_BB | apply len_N | apply len_V | apply len_VV | apply len_P | apply len_O | apply len_H)); assumption) | ((with_reducible refine stop_if kB ?_ ?_); rfl))
  refine Stop.go (blk_store (.bool false) oneBool hb2 rfl rfl rfl rfl (by simp) fun w3 c3 o3 z3 => ?_)
  go_wp2_with (first | ((with_reducible apply ugZ); rfl) | ((with_reducible (first | apply len_B | apply len_BB | apply len_N | apply len_V | apply len_VV | apply len_P | apply len_O | apply len_H)); assumption) | ((with_reducible refine stop_if kB ?_ ?_); rfl))
  go_ret
  exact ⟨rfl, ⟨l, v, false, c3, hvo.only o3 (fun b hb _ e => hS (e ▸ hb)), hS, rfl, hl⟩, hdo.trans o3 fun _ _ h => h⟩
set_option maxRecDepth 100000 in
theorem rsmall_any (w : World) (g : Nat) (S : Nat → Prop) (s : RS) (most : Nat) (M : Int) (h : RfA w g S s) (hm : most ≤ 1000000) (hM : (most : Int) = M) :
  Calls Tryd.prog 49 #[.pointer (some ⟨g, 0, none⟩), .int .u64 M] w fun e w' => e = .returned (.int .i64 (anum most s).1) ∧ RfA w' g S (anum most s).2 ∧ Only (· = g) w w' := by
 subst hM
 have hc := rtake_any w g S s h
 rw [anum_small most (by unfold aU64; omega) s]
 generalize anum aU64 s = A at *
 obtain ⟨x, t⟩ := A
 clear h
 simp only at hc ⊢
 by_cases h0 : most < x
 ·rw [if_pos h0]
  have h0I : (x : Int) > (most : Int) := by omega
  go_enter Tryd.func49, Tryd.ntmps49
  go_wp2_with (fail)
  refine hc.mono ?_
  rintro e w2 ⟨rfl, ⟨l, v, ok, hb, hv, hS, hs, hl⟩, ho⟩
  clear hc
  go_wp2_with (first | ((with_reducible apply ugZ); rfl) | ((with_reducible (first | apply len_B | apply len_BB | apply len_N | apply len_V | apply len_VV | apply len_P | apply len_O | apply len_H)); assumption) | ((with_reducible refine stop_if kB ?_ ?_); rfl))
  refine Stop.go (blk_store (.bool false) oneBool hb rfl rfl rfl rfl (by simp) fun w3 c3 o3 z3 => ?_)
  go_wp2_with (first | ((with_reducible apply ugZ); rfl) | ((with_reducible (first | apply len_B | apply len_BB | apply len_N | apply len_V | apply len_VV | apply len_P | apply len_O | apply len_H)); assumption) | ((with_reducible refine stop_if kB ?_ ?_); rfl))
  go_ret
  exact ⟨rfl, ⟨l, v, false, c3, hv.only o3 (fun b hb _ e => hS (e ▸ hb)), hS, rfl, hl⟩, ho.trans o3 fun _ _ h => h⟩
 ·rw [if_neg h0]
  have h0I : ¬ (x : Int) > (most : Int) := by omega
  have hx : x ≤ 1000000 := by omega
  clear h0
  go_enter Tryd.func49, Tryd.ntmps49
  go_wp2_with (fail)
  refine hc.mono ?_
  rintro e w2 ⟨rfl, hr, ho⟩
  clear hc
  go_wp2_with (fail)
  go_ret
  exact ⟨rfl, hr, ho⟩
set_option maxRecDepth 100000 in
theorem rvector_any (w : World) (g : Nat) (S : Nat → Prop) (s : RS) (h : RfA w g S s) :
  Calls Tryd.prog 52 #[.pointer (some ⟨g, 0, none⟩)] w fun e w' => ∃ v, e = .returned v ∧ Own w' w.heap.size 21 (fun _ => False) (avec s).1 v ∧ RfA w' g S (avec s).2 ∧ Only (fun b => b = g ∨ w.heap.size ≤ b) w w' := by
 obtain ⟨l, v, ok, hb, hv, hS, hs, hl⟩ := h
 have hc := tvec_any w S l v 8 hv (by decide) hl
 have htl : (tvec l 8).2.1.length ≤ l.length := by
  have h1 := taken_len l 8
  have h2 := rvec_len (taken l 8).1 (taken l 8).2.1
  unfold tvec
  split
  ·simp
  ·split
   ·simp
   ·omega
 obtain ⟨T, hT⟩ : ∃ T, T = tvec l 8 := ⟨_, rfl⟩
 rw [show Int.toNat 8 = 8 from rfl, ← hT] at hc
 rw [← hT] at htl
 obtain ⟨R, hR⟩ : ∃ R, R = avec s := ⟨_, rfl⟩
 rw [← hR]
 have HR : Hid (R = if ok = true ∧ T.2.2 = 0 then (T.1, some T.2.1) else ([], none)) := by
  refine Lib.hid ?_
  rw [hR, hs, hT]
  cases ok
  ·simp [avec]
  ·simp only [if_true, avec, tvec]
   by_cases h1 : (taken l 8).2.2 = 0
   ·by_cases h2 : (rvec (taken l 8).1 (taken l 8).2.1).2.2 = 0
    ·simp [h1, h2]
    ·simp [h1, h2]
   ·simp [h1]
 clear hR hs hT
 obtain ⟨tn, tr, te⟩ := T
 have htl : tr.length ≤ l.length := htl
 have c0 : w.cell? ⟨g, 0, none⟩ = some v := hb.cell 0
 have hc : Calls Tryd.prog 94 #[v, .int .i64 8] w fun e w' => ∃ v' u, e = .returned (.tuple #[v', u, .int .i64 te]) ∧ Own w' w.heap.size 21 (fun _ => False) tn v' ∧ Sl w' (fun b => S b ∧ b < w.heap.size) tr u ∧ Below w.heap.size w w' := hc
 have HR : Hid (R = if ok = true ∧ te = 0 then (tn, some tr) else ([], none)) := HR
 have glt := hb.lt
 go_enter Tryd.func52, Tryd.ntmps52
 go_wp2_with (fail)
 refine hc.mono ?_
 rintro e w2 ⟨v', u, rfl, hv', hu, hbl⟩
 have hb2 := hb.below hbl glt
 have c1 : w2.cell? ⟨g, 1, none⟩ = some (.bool ok) := hb2.cell 1
 have hvo : Sl w2 S l v := hv.below hbl (Nat.le_refl _)
 have hu2 : Sl w2 S tr u := hu.wide fun b hb _ => hb.1
 have hdo : Only (fun b => b = g ∨ w.heap.size ≤ b) w w2 := (Only.of_below hbl).mono fun k _ h => .inr h
 clear hc c0 hb hv hu hbl
 by_cases h0 : te = 0
 ·subst h0
  cases ok
  ·have e : R = ([], none) := by rw [HR.out]; simp
   subst e
   clear HR
   go_wp2_with (first | ((with_reducible apply ugZ); rfl) | ((with_reducible (first | apply len_B | apply len_BB | apply len_N | apply len_V | apply len_VV | apply len_P | apply len_O | apply len_H)); assumption) | ((with_reducible refine stop_if kB ?_ ?_); rfl))
   refine Stop.go (blk_store (.bool false) oneBool hb2 rfl rfl rfl rfl (by simp) fun w3 c3 o3 z3 => ?_)
   go_wp2_with (first | ((with_reducible apply ugZ); rfl) | ((with_reducible (first | apply len_B | apply len_BB | apply len_N | apply len_V | apply len_VV | apply len_P | apply len_O | apply len_H)); assumption) | ((with_reducible refine stop_if kB ?_ ?_); rfl))
   go_ret
   exact ⟨_, rfl, Own.nil _ _ _ _, ⟨l, v, false, c3, hvo.only o3 (fun b hb _ e => hS (e ▸ hb)), hS, rfl, hl⟩, hdo.trans o3 fun _ _ h => .inl h⟩
  ·have e : R = (tn, some tr) := by rw [HR.out]; simp
   subst e
   clear HR
   obtain ⟨ua, un, uc, rfl⟩ := Sl.shape hu2
   go_wp2_with (first | ((with_reducible apply ugZ); rfl) | ((with_reducible (first | apply len_B | apply len_BB | apply len_N | apply len_V | apply len_VV | apply len_P | apply len_O | apply len_H)); assumption) | ((with_reducible refine stop_if kB ?_ ?_); rfl))
   refine Stop.go (blk_store (.slice ua un uc) oneB hb2 rfl rfl rfl rfl (by simp) fun w3 c3 o3 z3 => ?_)
   go_wp2_with (first | ((with_reducible apply ugZ); rfl) | ((with_reducible (first | apply len_B | apply len_BB | apply len_N | apply len_V | apply len_VV | apply len_P | apply len_O | apply len_H)); assumption) | ((with_reducible refine stop_if kB ?_ ?_); rfl))
   go_ret
   exact ⟨_, rfl, hv'.only o3 (fun b hb e => by have := (hv'.ge b hb).1; omega), ⟨tr, .slice ua un uc, true, c3, hu2.only o3 (fun b hb _ e => hS (e ▸ hb)), hS, rfl, by omega⟩, hdo.trans o3 fun _ _ h => .inl h⟩
 ·have e : R = ([], none) := by rw [HR.out, if_neg (fun h => h0 h.2)]
  subst e
  clear HR
  go_wp2_with (first | ((with_reducible apply ugZ); rfl) | ((with_reducible (first | apply len_B | apply len_BB | apply len_N | apply len_V | apply len_VV | apply len_P | apply len_O | apply len_H)); assumption) | ((with_reducible refine stop_if kB ?_ ?_); rfl))
  refine Stop.go (blk_store (.bool false) oneBool hb2 rfl rfl rfl rfl (by simp) fun w3 c3 o3 z3 => ?_)
  go_wp2_with (first | ((with_reducible apply ugZ); rfl) | ((with_reducible (first | apply len_B | apply len_BB | apply len_N | apply len_V | apply len_VV | apply len_P | apply len_O | apply len_H)); assumption) | ((with_reducible refine stop_if kB ?_ ?_); rfl))
  go_ret
  exact ⟨_, rfl, Own.nil _ _ _ _, ⟨l, v, false, c3, hvo.only o3 (fun b hb _ e => hS (e ▸ hb)), hS, rfl, hl⟩, hdo.trans o3 fun _ _ h => .inl h⟩
end Go.Proofs.YtjkffjngamagkaaDoor
