/- PackD: several texts in one. -/
import Derived.Test.YtjkffjngamagkaaDoorPackA
import Derived.Test.YtjkffjngamagkaaDoorNoteAwake
/- Plain Lean: what is read is what was written, and in just one form. -/
namespace Go.Arm
theorem byte_ofNat (b : UInt8) (h : 128 ≤ b.toNat) (m : Nat) : UInt8.ofNat ((b.toNat - 128 + 128 * m) % 128 + 128) = b := by
 have hb := b.toNat_lt
 have e : (b.toNat - 128 + 128 * m) % 128 + 128 = b.toNat := by omega
 rw [e]; simp
theorem peek_form : ∀ (l : List UInt8) (i acc : Nat), (peekGo l i acc).2.2 = 0 → ∃ m, (0 < i → 0 < m) ∧ (peekGo l i acc).1 = acc + 128 ^ i * m ∧ (peekGo l i acc).2.1 = i + (enc m).length ∧ l = enc m ++ l.drop (enc m).length
 | [], i, acc => by simp [peekGo]
 | b :: l, i, acc => by
  have ih := peek_form l (i + 1) (acc + 128 ^ i * (b.toNat - 128))
  have hb := b.toNat_lt
  rw [peekGo]
  split
  ·simp
  ·split
   ·split
    ·simp
    ·rename_i h1 h2 h3
     intro _
     refine ⟨b.toNat, fun h => by omega, rfl, ?_, ?_⟩
     ·rw [enc_small _ h2]; rfl
     ·rw [enc_small _ h2]; simp
   ·rename_i h1 h2
    intro h
    obtain ⟨m, g1, g2, g3, g4⟩ := ih h
    have hm := g1 (by omega)
    have he : enc (b.toNat - 128 + 128 * m) = b :: enc m := by
     rw [enc_big _ (by omega), byte_ofNat b (by omega), show (b.toNat - 128 + 128 * m) / 128 = m by omega]
    refine ⟨b.toNat - 128 + 128 * m, fun _ => by omega, ?_, ?_, ?_⟩
    ·rw [g2, Nat.pow_succ, Nat.mul_add, Nat.mul_assoc]; omega
    ·rw [g3, he, List.length_cons]; omega
    ·rw [he]; simp only [List.cons_append, List.length_cons, List.drop_succ_cons]
     rw [← g4]
theorem taken_form (l : List UInt8) (most : Nat) (h : (taken l most).2.2 = 0) : l = enc (taken l most).1 ++ (taken l most).2.1 ∧ (taken l most).1 ≤ most := by
 unfold taken at h ⊢
 by_cases h1 : (peek l).2.2 = 0
 ·rw [if_neg (by simpa using h1)] at h ⊢
  by_cases h2 : most < (peek l).1
  ·rw [if_pos h2] at h; simp at h
  ·rw [if_neg h2]
   obtain ⟨m, _, g2, g3, g4⟩ := peek_form l 0 0 h1
   have e1 : (peek l).1 = m := by rw [peek, g2]; simp
   have e2 : (peek l).2.1 = (enc m).length := by rw [peek, g3]; simp
   refine ⟨?_, by omega⟩
   rw [e1, e2]; exact g4
 ·rw [if_pos h1] at h
  exact absurd h h1
theorem peek_enc : ∀ (m i acc : Nat) (r : List UInt8), (0 < i → 0 < m) → 128 ^ i * m < 18446744073709551616 → peekGo (enc m ++ r) i acc = (acc + 128 ^ i * m, i + (enc m).length, 0) := by
 intro m
 induction m using Nat.strongRecOn with
 | ind m ih =>
  intro i acc r hi hlt
  have h9 : i = 9 → m ≤ 1 := by
   rintro rfl
   omega
  by_cases hs : m < 128
  ·have e1 : (UInt8.ofNat m).toNat = m := UInt8.toNat_ofNat_of_lt' (by show m < 256; omega)
   rw [enc_small _ hs, List.singleton_append, peekGo, e1, if_neg (fun h => by have := h9 h.1; omega), if_pos hs, if_neg (fun h => by have := hi h.2; omega)]
   rfl
  ·have e1 : (UInt8.ofNat (m % 128 + 128)).toNat = m % 128 + 128 := UInt8.toNat_ofNat_of_lt' (by show m % 128 + 128 < 256; omega)
   have hp : 128 ^ (i + 1) * (m / 128) ≤ 128 ^ i * m := by
    rw [Nat.pow_succ, Nat.mul_assoc]
    exact Nat.mul_le_mul_left _ (by omega)
   rw [enc_big _ hs, List.cons_append, peekGo, e1, if_neg (fun h => by have := h9 h.1; omega), if_neg (by omega), ih (m / 128) (by omega) (i + 1) _ r (fun _ => by omega) (by omega)]
   have e3 : acc + 128 ^ i * (m % 128 + 128 - 128) + 128 ^ (i + 1) * (m / 128) = acc + 128 ^ i * m := by
    rw [Nat.pow_succ, Nat.mul_assoc, Nat.add_assoc, ← Nat.mul_add]
    congr 2
    omega
   rw [e3, List.length_cons, show i + 1 + (enc (m / 128)).length = i + ((enc (m / 128)).length + 1) by omega]
theorem taken_enc (m most : Nat) (r : List UInt8) (h : m < 18446744073709551616) : taken (enc m ++ r) most = if most < m then (0, [], 3) else (m, r, 0) := by
 have e : peek (enc m ++ r) = (m, (enc m).length, 0) := by
  rw [peek, peek_enc m 0 0 r (by omega) (by simpa using h)]; simp
 unfold taken
 rw [e]
 simp
theorem unzig_zig (z : Int32) : Int32.ofInt (unzig (zig z.toInt)) = z := by
 have h1 : -2147483648 ≤ z.toInt := Int32.le_toInt z
 have h2 : z.toInt < 2147483648 := Int32.toInt_lt z
 have e : unzig (zig z.toInt) = z.toInt := by
  unfold zig unzig
  split <;> split <;> omega
 rw [e]; exact Int32.ofInt_toInt z
theorem zig_small (z : Int32) : zig z.toInt < 4294967296 := by
 have h1 : -2147483648 ≤ z.toInt := Int32.le_toInt z
 have h2 : z.toInt < 2147483648 := Int32.toInt_lt z
 unfold zig; split <;> omega
theorem rvec_enc : ∀ (v : List Int32) (r : List UInt8), rvec v.length (encInts v ++ r) = (v, r, 0)
 | [], r => by simp [rvec, encInts]
 | z :: v, r => by
  have ih := rvec_enc v r
  have hz := zig_small z
  have e : encInts (z :: v) ++ r = enc (zig z.toInt) ++ (encInts v ++ r) := by simp [encInts]
  have ht := taken_enc (zig z.toInt) 18446744073709551615 (encInts v ++ r) (by omega)
  rw [if_neg (by omega)] at ht
  rw [List.length_cons, rvec, e, ht, ih]
  simp only
  rw [if_neg (by simp), if_neg (by omega), unzig_zig]
end Go.Arm
/- Plain Lean: a note's bytes, read field by field. -/
namespace Go.Arm
open Go.RowKit
abbrev RS := Option (List UInt8)
def anum (most : Nat) : RS → Nat × RS
 | none => (0, none)
 | some l => if (taken l most).2.2 ≠ 0 then (0, none) else ((taken l most).1, some (taken l most).2.1)
def avec : RS → List Int32 × RS
 | none => ([], none)
 | some l => if (taken l 8).2.2 ≠ 0 then ([], none) else if (rvec (taken l 8).1 (taken l 8).2.1).2.2 ≠ 0 then ([], none) else ((rvec (taken l 8).1 (taken l 8).2.1).1, some (rvec (taken l 8).1 (taken l 8).2.1).2.1)
def rep {α : Type} (f : RS → α × RS) : Nat → RS → List α × RS
 | 0, s => ([], s)
 | n + 1, s => ((f s).1 :: (rep f n (f s).2).1, (rep f n (f s).2).2)
theorem rep_snoc {α : Type} (f : RS → α × RS) : ∀ (n : Nat) (s : RS), rep f (n + 1) s = ((rep f n s).1 ++ [(f (rep f n s).2).1], (f (rep f n s).2).2)
 | 0, s => rfl
 | n + 1, s => by
  have ih := rep_snoc f n (f s).2
  rw [rep, ih]
  rfl
theorem rep_len {α : Type} (f : RS → α × RS) : ∀ (n : Nat) (s : RS), (rep f n s).1.length = n
 | 0, s => rfl
 | n + 1, s => by rw [rep, List.length_cons, rep_len f n]
structure Lim where
 num : Nat → Nat
 part : Nat
 id : Nat
def cnum (k i most : Nat) (s : RS) : Nat × RS := if hasF k i then anum most s else (0, s)
def mnums (L : Lim) (k : Nat) : Nat → Nat → RS → List Nat × RS
 | _, 0, s => ([], s)
 | i, c + 1, s => ((cnum k i (L.num i) s).1 :: (mnums L k (i + 1) c (cnum k i (L.num i) s).2).1, (mnums L k (i + 1) c (cnum k i (L.num i) s).2).2)
def apart (L : Lim) (s : RS) : Int × RS := (((anum L.part s).1 : Int), (anum L.part s).2)
def aop (L : Lim) (s : RS) : OpR × RS := (⟨UInt64.ofNat (anum L.id s).1, (avec (anum L.id s).2).1⟩, (avec (anum L.id s).2).2)
def aU64 : Nat := 18446744073709551615
def ahit (L : Lim) (s : RS) : HitR × RS := (⟨UInt64.ofNat (anum L.id s).1, UInt64.ofNat (anum aU64 (anum L.id s).2).1, (avec (anum aU64 (anum L.id s).2).2).1⟩, (avec (anum aU64 (anum L.id s).2).2).2)
def mkN (k : Nat) (ns : List Nat) (ps : List Int) (os : List OpR) (v : List Int32) (hs : List HitR) : NoteR :=
 ⟨UInt8.ofNat k, UInt64.ofNat (ns.getD 0 0), UInt64.ofNat (ns.getD 1 0), UInt64.ofNat (ns.getD 2 0), UInt64.ofNat (ns.getD 3 0), UInt64.ofNat (ns.getD 4 0), UInt64.ofNat (ns.getD 5 0), UInt64.ofNat (ns.getD 6 0), (ns.getD 7 0 : Nat), (ns.getD 8 0 : Nat), (ns.getD 9 0 : Nat), (ns.getD 10 0 : Nat), ps, os, v, hs⟩
def parse (L : Lim) (s : RS) : NoteR × RS :=
 let k := anum 255 s
 let ns := mnums L k.1 0 11 k.2
 let cp := cnum k.1 11 4 ns.2
 let ps := rep (apart L) cp.1 cp.2
 let co := cnum k.1 12 16 ps.2
 let os := rep (aop L) co.1 co.2
 let v := if hasF k.1 13 then avec os.2 else ([], os.2)
 let ch := cnum k.1 14 16 v.2
 let hs := rep (ahit L) ch.1 ch.2
 (mkN k.1 ns.1 ps.1 os.1 v.1 hs.1, hs.2)
structure Lim.Ok (L : Lim) : Prop where
 num : ∀ i, L.num i ≤ 18446744073709551615
 id : L.id ≤ 18446744073709551615
 /-- all that is right fits -/
 wide : ∀ n : NoteR, nright n = true → (∀ i x, (numsOf n)[i]? = some x → x ≤ L.num i) ∧ (∀ p ∈ n.parts, p.toNat ≤ L.part) ∧ (∀ o ∈ n.ops, o.id.toNat ≤ L.id) ∧ (∀ o ∈ n.hits, o.id.toNat ≤ L.id)
/-! What is written is read. -/
theorem anum_enc (m most : Nat) (r : List UInt8) (h : m < 18446744073709551616) (hm : m ≤ most) : anum most (some (enc m ++ r)) = (m, some r) := by
 have h1 := taken_enc m most r h
 rw [if_neg (by omega)] at h1
 rw [anum, h1]
 simp
theorem avec_enc (v : List Int32) (r : List UInt8) (h : v.length ≤ 8) : avec (some (encVec v ++ r)) = (v, some r) := by
 have e : encVec v ++ r = enc v.length ++ (encInts v ++ r) := by simp [encVec, encInts]
 have h1 := taken_enc v.length 8 (encInts v ++ r) (by omega)
 rw [if_neg (by omega)] at h1
 rw [avec, e, h1]
 simp [rvec_enc]
theorem rep_enc {α : Type} (f : RS → α × RS) (e : α → List UInt8) : ∀ (l : List α) (r : List UInt8), (∀ x ∈ l, ∀ r, f (some (e x ++ r)) = (x, some r)) → rep f l.length (some (l.flatMap e ++ r)) = (l, some r)
 | [], r, _ => rfl
 | x :: l, r, h => by
  have ih := rep_enc f e l r fun y hy => h y (by simp [hy])
  have h1 := h x (by simp) (l.flatMap e ++ r)
  have e1 : (x :: l).flatMap e ++ r = e x ++ (l.flatMap e ++ r) := by simp
  rw [List.length_cons, rep, e1, h1, ih]
theorem mnums_enc (L : Lim) (k : Nat) : ∀ (xs : List Nat) (i : Nat) (r : List UInt8), (∀ j x, xs[j]? = some x → x < 18446744073709551616 ∧ x ≤ L.num (i + j) ∧ (hasF k (i + j) = false → x = 0)) → mnums L k i xs.length (some (encFrom k i xs ++ r)) = (xs, some r)
 | [], i, r, _ => rfl
 | x :: xs, i, r, h => by
  have ih := mnums_enc L k xs (i + 1) r fun j y hy => by
   have := h (j + 1) y (by simpa using hy)
   rwa [show i + (j + 1) = i + 1 + j by omega] at this
  obtain ⟨h1, h2, h3⟩ := h 0 x rfl
  have hc : cnum k i (L.num i) (some (encFrom k i (x :: xs) ++ r)) = (x, some (encFrom k (i + 1) xs ++ r)) := by
   unfold cnum
   cases hf : hasF k i
   ·have := h3 hf
    subst this
    simp [encFrom, hf]
   ·simp only [encFrom, hf, if_true, List.append_assoc]
    exact anum_enc x _ _ h1 h2
  rw [List.length_cons, mnums, hc, ih]
theorem cnum_enc (k i most m : Nat) (r : List UInt8) (h : m < 18446744073709551616) (hm : m ≤ most) (hz : hasF k i = false → m = 0) (q : List UInt8) (hq : hasF k i = false → q = []) : cnum k i most (some ((if hasF k i then enc m ++ q else []) ++ r)) = (m, some (q ++ r)) := by
 unfold cnum
 cases hf : hasF k i
 ·rw [hz hf, hq hf]; simp
 ·simp only [if_true, List.append_assoc]
  exact anum_enc m most _ h hm
/-! What is read was written. -/
end Go.Arm
namespace Go.Proofs.YtjkffjngamagkaaDoor
open Go Go.RowKit Go.Arm
theorem nright_split {n : NoteR} (h : nright n = true) : fits (heldBits n) (sortMask n.kind.toNat) = true ∧ bounded n = true := by
 unfold nright at h
 simp only [Bool.and_eq_true] at h
 exact ⟨h.1.2, h.2⟩
theorem held_bit {n : NoteR} (h : nright n = true) (i : Nat) (hi : hasF n.kind.toNat i = false) : (heldBits n).getD i false = false := by
 have h1 := (fits_iff (heldBits n) (sortMask n.kind.toNat)).1 (nright_split h).1 i
 cases hb : (heldBits n).getD i false
 ·rfl
 ·have := h1 hb
  rw [hasF, this] at hi
  cases hi
theorem held_num {n : NoteR} (hn : NumsOk n) : ∀ (i x : Nat), (numsOf n)[i]? = some x → (heldBits n).getD i false = false → x = 0 := by
 obtain ⟨_, _, ⟨k0, k1, k2, k3⟩, _⟩ := hn
 intro i x hx hb
 match i, hx, hb with
 | 0, hx, hb => simp [numsOf, heldBits] at hx hb; omega
 | 1, hx, hb => simp [numsOf, heldBits] at hx hb; omega
 | 2, hx, hb => simp [numsOf, heldBits] at hx hb; omega
 | 3, hx, hb => simp [numsOf, heldBits] at hx hb; omega
 | 4, hx, hb => simp [numsOf, heldBits] at hx hb; omega
 | 5, hx, hb => simp [numsOf, heldBits] at hx hb; omega
 | 6, hx, hb => simp [numsOf, heldBits] at hx hb; omega
 | 7, hx, hb => simp [numsOf, heldBits] at hx hb; omega
 | 8, hx, hb => simp [numsOf, heldBits] at hx hb; omega
 | 9, hx, hb => simp [numsOf, heldBits] at hx hb; omega
 | 10, hx, hb => simp [numsOf, heldBits] at hx hb; omega
 | i + 11, hx, _ => simp [numsOf] at hx
theorem mkN_of (n : NoteR) (hn : NumsOk n) : mkN n.kind.toNat (numsOf n) n.parts n.ops n.vec n.hits = n := by
 obtain ⟨_, _, ⟨k0, k1, k2, k3⟩, _⟩ := hn
 have e1 : ((n.k.toNat : Nat) : Int) = n.k := by omega
 have e2 : ((n.ef.toNat : Nat) : Int) = n.ef := by omega
 have e3 : ((n.code.toNat : Nat) : Int) = n.code := by omega
 have e4 : ((n.who.toNat : Nat) : Int) = n.who := by omega
 simp only [mkN, numsOf, List.getD_cons_zero, List.getD_cons_succ, UInt8.ofNat_toNat, UInt64.ofNat_toNat, e1, e2, e3, e4]
theorem parse_enc (L : Lim) (hL : L.Ok) (n : NoteR) (h : nright n = true) (r : List UInt8) : parse L (some (encNote n ++ r)) = (n, some r) := by
 have hf := nright_fair h
 have hz := fun i hi => held_bit h i hi
 obtain ⟨w1, w2, w3, w4⟩ := hL.wide n h
 have hk := hf.kind
 obtain ⟨z1, z2, z3⟩ := hf.sizes
 have hparts : hasF n.kind.toNat 11 = false → n.parts = [] := fun e => by have := hz 11 e; simpa [heldBits] using this
 have hops : hasF n.kind.toNat 12 = false → n.ops = [] := fun e => by have := hz 12 e; simpa [heldBits] using this
 have hhits : hasF n.kind.toNat 14 = false → n.hits = [] := fun e => by have := hz 14 e; simpa [heldBits] using this
 have e0 : encNote n ++ r = enc n.kind.toNat ++ (encFrom n.kind.toNat 0 (numsOf n) ++ (secP n ++ (secO n ++ (secV n ++ (secH n ++ r))))) := by simp [encNote]
 have a0 := anum_enc n.kind.toNat 255 (encFrom n.kind.toNat 0 (numsOf n) ++ (secP n ++ (secO n ++ (secV n ++ (secH n ++ r))))) (by omega) (by omega)
 have a1 : mnums L n.kind.toNat 0 11 _ = _ := mnums_enc L n.kind.toNat (numsOf n) 0 (secP n ++ (secO n ++ (secV n ++ (secH n ++ r)))) fun j x hx => ⟨numsOf_lt n hf.nums x (List.mem_of_getElem? hx), by rw [Nat.zero_add]; exact w1 j x hx, fun he => held_num hf.nums j x hx (hz j (by simpa using he))⟩
 have a2 : cnum n.kind.toNat 11 4 (some (secP n ++ (secO n ++ (secV n ++ (secH n ++ r))))) = (n.parts.length, some (encParts n.parts ++ (secO n ++ (secV n ++ (secH n ++ r))))) :=
  cnum_enc n.kind.toNat 11 4 n.parts.length _ (by omega) z1 (fun e => by have := hz 11 e; simpa [heldBits] using this) (encParts n.parts) (fun e => by rw [hparts e]; rfl)
 have a3 : rep (apart L) n.parts.length (some (encParts n.parts ++ (secO n ++ (secV n ++ (secH n ++ r))))) = (n.parts, _) := rep_enc (apart L) (fun p : Int => enc p.toNat) n.parts _ fun p hp r => by
  have h1 := hf.parts p hp
  have h2 := anum_enc p.toNat L.part r (by omega) (w2 p hp)
  rw [apart, h2]
  simp only [Prod.mk.injEq, and_true]
  omega
 have a4 : cnum n.kind.toNat 12 16 (some (secO n ++ (secV n ++ (secH n ++ r)))) = (n.ops.length, some (encOps n.ops ++ (secV n ++ (secH n ++ r)))) :=
  cnum_enc n.kind.toNat 12 16 n.ops.length _ (by omega) z2 (fun e => by have := hz 12 e; simpa [heldBits] using this) (encOps n.ops) (fun e => by rw [hops e]; rfl)
 have a5 : rep (aop L) n.ops.length (some (encOps n.ops ++ (secV n ++ (secH n ++ r)))) = (n.ops, _) := rep_enc (aop L) (fun o : OpR => enc o.id.toNat ++ encVec o.vec) n.ops _ fun o ho r => by
  have h2 := anum_enc o.id.toNat L.id (encVec o.vec ++ r) o.id.toNat_lt (w3 o ho)
  have h3 := avec_enc o.vec r (hf.ops o ho)
  rw [List.append_assoc, aop, h2]
  simp only [h3, UInt64.ofNat_toNat]
 have a6 : (if hasF n.kind.toNat 13 then avec (some (secV n ++ (secH n ++ r))) else ([], some (secV n ++ (secH n ++ r)))) = (n.vec, some (secH n ++ r)) := by
  unfold secV
  cases he : hasF n.kind.toNat 13
  ·have := hz 13 he
   have : n.vec = [] := by simpa [heldBits] using this
   simp [this]
  ·simp only [if_true]
   exact avec_enc n.vec _ hf.vec
 have a7 : cnum n.kind.toNat 14 16 (some (secH n ++ r)) = (n.hits.length, some (encHits n.hits ++ r)) :=
  cnum_enc n.kind.toNat 14 16 n.hits.length _ (by omega) z3 (fun e => by have := hz 14 e; simpa [heldBits] using this) (encHits n.hits) (fun e => by rw [hhits e]; rfl)
 have a8 : rep (ahit L) n.hits.length (some (encHits n.hits ++ r)) = (n.hits, _) := rep_enc (ahit L) (fun o : HitR => enc o.id.toNat ++ enc o.dist.toNat ++ encVec o.vec) n.hits _ fun o ho r => by
  have h2 := anum_enc o.id.toNat L.id (enc o.dist.toNat ++ (encVec o.vec ++ r)) o.id.toNat_lt (w4 o ho)
  have h3 := anum_enc o.dist.toNat aU64 (encVec o.vec ++ r) o.dist.toNat_lt (by have := o.dist.toNat_lt; unfold aU64; omega)
  have h4 := avec_enc o.vec r (hf.hits o ho)
  rw [List.append_assoc, List.append_assoc, ahit, h2]
  simp only [h3, h4, UInt64.ofNat_toNat]
 rw [e0]
 simp only [parse, a0, a1, a2, a3, a4, a5, a6, a7, a8]
 rw [mkN_of n hf.nums]
def unp (L : Lim) (l : List UInt8) : NoteR × Int := if (parse L (some l)).2 = some [] ∧ nright (parse L (some l)).1 = true then ((parse L (some l)).1, 0) else (zeroN, 4)
theorem unp_right {L : Lim} (hL : L.Ok) {n : NoteR} (h : nright n = true) : unp L (encNote n) = (n, 0) := by
 have := parse_enc L hL n h []
 rw [List.append_nil] at this
 rw [unp, this, if_pos ⟨rfl, h⟩]
end Go.Proofs.YtjkffjngamagkaaDoor
/- armillarylaw12: NoteFields. -/
namespace Go.Arm
open Go.RowKit
def letters : List UInt8 := [116, 98, 115, 97, 109, 113, 105, 107, 101, 99, 119, 112, 111, 118, 104]
theorem any_take (l : List UInt8) (c : UInt8) (j : Nat) (h : j < l.length) : (l.take (j + 1)).any (· == c) = ((l.take j).any (· == c) || l[j] == c) := by
 rw [List.take_succ_eq_append_getElem h, List.any_append]
 simp
theorem u8_eq (x y : UInt8) : ((x.toNat : Int) == (y.toNat : Int)) = (x == y) := by
 rw [Bool.eq_iff_iff, beq_iff_eq, beq_iff_eq]
 constructor
 ·intro h
  exact UInt8.toNat_inj.1 (by omega)
 ·rintro rfl; rfl
theorem name_world {P : Program} {c : Code} {K : Exit → Act → World → Prop} {a : Act} {W : World} (h : ∀ wA, wA = W → c.wp P K a wA) : c.wp P K a W := h W rfl
theorem lit_sl {α : Type} [Rep α] (W : World) (S : Nat → Prop) (k : Nat) (l : List α) (cs : List Value) (ty : TypeId) (hl : l.length ≤ 100) (h1 : rds W S l cs) (hk : S k) (h : W.heap[k]? = some (.cells cs.toArray ty (0, 0))) : Sl W S l (.slice (some ⟨k, 0, none⟩) l.length l.length) := by
 refine ⟨some ⟨k, 0, none⟩, l.length, cs, rfl, Nat.le_refl _, by unfold maxLen; omega, by simp, h1, ?_, ?_⟩
 ·intro a ha _; cases ha; exact hk
 ·intro a ha j u hu
  cases ha
  have e : (⟨k, 0, none⟩ : Addr).add j = ⟨k, j, none⟩ := by unfold Addr.add; split <;> simp_all
  rw [e]
  simp [World.cell?, h, hu]
end Go.Arm
namespace Go.Proofs.YtjkffjngamagkaaDoor
open Go Go.RowKit Go.Arm
theorem size_alloc (w : World) (o : Obj) : (w.alloc o).heap.size = w.heap.size + 1 := by
 show (w.heap.push o).size = _
 exact Array.size_push _
end Go.Proofs.YtjkffjngamagkaaDoor
/- Plain Lean: armillaryref12's Right is note's Right; a kind's fields in the order of its letters. -/
namespace Go.Arm
open Go.RowKit
def numR (k i x most : Nat) : Bool := decide (x ≤ most) && (decide (x = 0) || hasF k i)
def rnums (n : NoteR) : Bool :=
 numR n.kind.toNat 0 n.txn.toNat 18446744073709551615 && numR n.kind.toNat 1 n.batch.toNat 18446744073709551615 && numR n.kind.toNat 2 n.stamp.toNat 1099511627776 && numR n.kind.toNat 3 n.after.toNat 1099511627776 && numR n.kind.toNat 4 n.mark.toNat 1099511627776 && numR n.kind.toNat 5 n.query.toNat 18446744073709551615 && numR n.kind.toNat 6 n.id.toNat 1099511627776 && numR n.kind.toNat 7 n.k.toNat 16 && numR n.kind.toNat 8 n.ef.toNat 256 && numR n.kind.toNat 9 n.code.toNat 13 && numR n.kind.toNat 10 n.who.toNat 15
def rsizes (n : NoteR) : Bool :=
 numR n.kind.toNat 11 n.parts.length 4 && numR n.kind.toNat 12 n.ops.length 16 && numR n.kind.toNat 13 n.vec.length 8 && numR n.kind.toNat 14 n.hits.length 16 && vecBare n.vec
def rsigns (n : NoteR) : Bool := decide (0 ≤ n.k) && decide (0 ≤ n.ef) && decide (0 ≤ n.code) && decide (0 ≤ n.who)
def rright (n : NoteR) : Bool := !(sortName n.kind.toNat).isEmpty && rsigns n && rnums n && rsizes n && partsFrom none n.parts && n.ops.all opRight && n.hits.all hitRight
theorem numR_iff (k i x most : Nat) : numR k i x most = true ↔ x ≤ most ∧ (0 < x → hasF k i = true) := by
 unfold numR
 rw [Bool.and_eq_true, decide_eq_true_eq, Bool.or_eq_true, decide_eq_true_eq]
 constructor
 ·rintro ⟨h1, h2⟩
  exact ⟨h1, fun h => h2.resolve_left (by omega)⟩
 ·rintro ⟨h1, h2⟩
  refine ⟨h1, ?_⟩
  by_cases h : x = 0
  ·exact .inl h
  ·exact .inr (h2 (by omega))
theorem vecBare_le (v : List Int32) (h : vecBare v = true) : v.length ≤ 8 := by
 unfold vecBare vecRight at h
 simp only [Bool.or_eq_true, Bool.and_eq_true, decide_eq_true_eq] at h
 omega
end Go.Arm
namespace Go.Proofs.YtjkffjngamagkaaDoor
open Go Go.RowKit Go.Arm
theorem fits15 (n : NoteR) (k : Nat) : fits (heldBits n) (sortMask k) = true ↔
  (0 < n.txn.toNat → hasF k 0 = true) ∧ (0 < n.batch.toNat → hasF k 1 = true) ∧ (0 < n.stamp.toNat → hasF k 2 = true) ∧ (0 < n.after.toNat → hasF k 3 = true) ∧ (0 < n.mark.toNat → hasF k 4 = true) ∧ (0 < n.query.toNat → hasF k 5 = true) ∧ (0 < n.id.toNat → hasF k 6 = true) ∧
  (n.k ≠ 0 → hasF k 7 = true) ∧ (n.ef ≠ 0 → hasF k 8 = true) ∧ (n.code ≠ 0 → hasF k 9 = true) ∧ (n.who ≠ 0 → hasF k 10 = true) ∧ (0 < n.parts.length → hasF k 11 = true) ∧ (0 < n.ops.length → hasF k 12 = true) ∧ (0 < n.vec.length → hasF k 13 = true) ∧ (0 < n.hits.length → hasF k 14 = true) := by
 rw [fits_iff]
 unfold heldBits hasF
 constructor
 ·intro h
  refine ⟨fun e => h 0 ?_, fun e => h 1 ?_, fun e => h 2 ?_, fun e => h 3 ?_, fun e => h 4 ?_, fun e => h 5 ?_, fun e => h 6 ?_, fun e => h 7 ?_, fun e => h 8 ?_, fun e => h 9 ?_, fun e => h 10 ?_, fun e => h 11 ?_, fun e => h 12 ?_, fun e => h 13 ?_, fun e => h 14 ?_⟩ <;> simp only [List.getD_cons_zero, List.getD_cons_succ, decide_eq_true_eq, bne_iff_ne] <;> exact e
 ·rintro ⟨h0, h1, h2, h3, h4, h5, h6, h7, h8, h9, h10, h11, h12, h13, h14⟩ i hi
  match i, hi with
  | 0, hi => exact h0 (by simpa only [List.getD_cons_zero, List.getD_cons_succ, decide_eq_true_eq, bne_iff_ne] using hi)
  | 1, hi => exact h1 (by simpa only [List.getD_cons_zero, List.getD_cons_succ, decide_eq_true_eq, bne_iff_ne] using hi)
  | 2, hi => exact h2 (by simpa only [List.getD_cons_zero, List.getD_cons_succ, decide_eq_true_eq, bne_iff_ne] using hi)
  | 3, hi => exact h3 (by simpa only [List.getD_cons_zero, List.getD_cons_succ, decide_eq_true_eq, bne_iff_ne] using hi)
  | 4, hi => exact h4 (by simpa only [List.getD_cons_zero, List.getD_cons_succ, decide_eq_true_eq, bne_iff_ne] using hi)
  | 5, hi => exact h5 (by simpa only [List.getD_cons_zero, List.getD_cons_succ, decide_eq_true_eq, bne_iff_ne] using hi)
  | 6, hi => exact h6 (by simpa only [List.getD_cons_zero, List.getD_cons_succ, decide_eq_true_eq, bne_iff_ne] using hi)
  | 7, hi => exact h7 (by simpa only [List.getD_cons_zero, List.getD_cons_succ, decide_eq_true_eq, bne_iff_ne] using hi)
  | 8, hi => exact h8 (by simpa only [List.getD_cons_zero, List.getD_cons_succ, decide_eq_true_eq, bne_iff_ne] using hi)
  | 9, hi => exact h9 (by simpa only [List.getD_cons_zero, List.getD_cons_succ, decide_eq_true_eq, bne_iff_ne] using hi)
  | 10, hi => exact h10 (by simpa only [List.getD_cons_zero, List.getD_cons_succ, decide_eq_true_eq, bne_iff_ne] using hi)
  | 11, hi => exact h11 (by simpa only [List.getD_cons_zero, List.getD_cons_succ, decide_eq_true_eq, bne_iff_ne] using hi)
  | 12, hi => exact h12 (by simpa only [List.getD_cons_zero, List.getD_cons_succ, decide_eq_true_eq, bne_iff_ne] using hi)
  | 13, hi => exact h13 (by simpa only [List.getD_cons_zero, List.getD_cons_succ, decide_eq_true_eq, bne_iff_ne] using hi)
  | 14, hi => exact h14 (by simpa only [List.getD_cons_zero, List.getD_cons_succ, decide_eq_true_eq, bne_iff_ne] using hi)
  | i + 15, hi => simp at hi
theorem rright_eq (n : NoteR) : rright n = nright n := by
 rw [Bool.eq_iff_iff]
 unfold rright nright rsigns rnums rsizes bounded
 simp only [Bool.and_eq_true, decide_eq_true_eq, numR_iff, fits15]
 unfold NumsOk SizesOk
 simp only [and_assoc]
 have u0 := n.txn.toNat_lt
 have u1 := n.batch.toNat_lt
 have u5 := n.query.toNat_lt
 constructor
 ·rintro ⟨hnm, s1, s2, s3, s4, a0, f0, a1, f1, a2, f2, a3, f3, a4, f4, a5, f5, a6, f6, a7, f7, a8, f8, a9, f9, a10, f10, a11, f11, a12, f12, a13, f13, a14, f14, b5, c1, c2, c3⟩
  exact ⟨hnm, f0, f1, f2, f3, f4, f5, f6, fun e => f7 (by omega), fun e => f8 (by omega), fun e => f9 (by omega), fun e => f10 (by omega), f11, f12, f13, f14, a2, a3, a4, a6, s1, s2, s4, s3, by omega, by omega, by omega, by omega, a11, a12, a14, b5, c1, c2, c3⟩
 ·rintro ⟨hnm, f0, f1, f2, f3, f4, f5, f6, f7, f8, f9, f10, f11, f12, f13, f14, m2, m3, m4, m6, s1, s2, s4, s3, m7, m8, m10, m9, z1, z2, z3, b5, c1, c2, c3⟩
  exact ⟨hnm, s1, s2, s3, s4, by omega, f0, by omega, f1, m2, f2, m3, f3, m4, f4, by omega, f5, m6, f6, by omega, fun e => f7 (by omega), by omega, fun e => f8 (by omega), by omega, fun e => f9 (by omega), by omega, fun e => f10 (by omega), z1, f11, z2, f12, vecBare_le _ b5, f13, z3, f14, b5, c1, c2, c3⟩
/-! A kind's letters. -/
def fieldsOf (k : Nat) : List Nat := (List.range 15).filter fun i => hasF k i
set_option maxRecDepth 100000 in
theorem lets_fields (k : Nat) : sortLets k = (fieldsOf k).map fun i => letters.getD i 0 := by
 by_cases hk : k < 23
 ·have : ∀ k : Fin 23, sortLets k.val = (fieldsOf k.val).map fun i => letters.getD i 0 := by decide +kernel
  exact this ⟨k, hk⟩
 ·have e := sortAt_far k (by omega)
  have e2 : ∀ i, hasF k i = false := fun i => by rw [hasF, sortMask, e]; simp
  simp [sortLets, fieldsOf, e, e2]
theorem fieldsOf_lt (k i : Nat) (h : i ∈ fieldsOf k) : i < 15 ∧ hasF k i = true := by
 unfold fieldsOf at h
 simpa using h
def sec (n : NoteR) (i : Nat) : List UInt8 :=
 if i < 11 then enc ((numsOf n).getD i 0) else if i = 11 then enc n.parts.length ++ encParts n.parts else if i = 12 then enc n.ops.length ++ encOps n.ops else if i = 13 then encVec n.vec else enc n.hits.length ++ encHits n.hits
theorem flatMap_filter {α : Type} (f : α → List UInt8) (p : α → Bool) : ∀ l : List α, (l.filter p).flatMap f = l.flatMap fun i => if p i then f i else []
 | [] => rfl
 | x :: l => by
  have ih := flatMap_filter f p l
  rw [List.filter_cons, List.flatMap_cons, ← ih]
  split
  ·rw [List.flatMap_cons]
  ·rfl
theorem encNote_fields (n : NoteR) : encNote n = enc n.kind.toNat ++ (fieldsOf n.kind.toNat).flatMap (sec n) := by
 have e : List.range 15 = [0, 1, 2, 3, 4, 5, 6, 7, 8, 9, 10, 11, 12, 13, 14] := rfl
 unfold fieldsOf encNote secP secO secV secH
 rw [flatMap_filter, e]
 simp [encFrom, numsOf, sec]
end Go.Proofs.YtjkffjngamagkaaDoor
