/- PackB: several texts in one. -/
import Derived.Test.YtjkffjngamagkaaDoorPackA
/- Notes, their parts, ops and hits, in memory; the laws of slices at their types. -/
namespace Go.Arm
open Go.RowKit
structure OpR where
 id : UInt64
 vec : List Int32
structure HitR where
 id : UInt64
 dist : UInt64
 vec : List Int32
structure NoteR where
 kind : UInt8
 txn : UInt64
 batch : UInt64
 stamp : UInt64
 after : UInt64
 mark : UInt64
 query : UInt64
 id : UInt64
 k : Int
 ef : Int
 code : Int
 who : Int
 parts : List Int
 ops : List OpR
 vec : List Int32
 hits : List HitR
def I64 (x : Int) : Prop := -9223372036854775808 ≤ x ∧ x ≤ 9223372036854775807
instance : Rep Int where
 sz := 1
 rd _ _ x cs := cs = [.int .i64 x] ∧ I64 x
 len h := by obtain ⟨rfl, _⟩ := h; rfl
 one h := by obtain ⟨rfl, _⟩ := h; intro u hu; simp at hu; subst hu; rfl
 keep h _ := h
instance : Rep OpR where
 sz := 2
 rd w S x cs := ∃ v, cs = [.int .u64 (x.id.toNat : Int), v] ∧ Sl w S x.vec v
 len h := by obtain ⟨_, rfl, _⟩ := h; rfl
 one h := by
  obtain ⟨_, rfl, h1⟩ := h
  obtain ⟨_, _, _, rfl⟩ := Sl.shape h1
  intro u hu
  simp at hu
  rcases hu with rfl | rfl <;> rfl
 keep h hk := by
  obtain ⟨v, rfl, h1⟩ := h
  exact ⟨v, rfl, h1.keep hk⟩
instance : Rep HitR where
 sz := 3
 rd w S x cs := ∃ v, cs = [.int .u64 (x.id.toNat : Int), .int .u64 (x.dist.toNat : Int), v] ∧ Sl w S x.vec v
 len h := by obtain ⟨_, rfl, _⟩ := h; rfl
 one h := by
  obtain ⟨_, rfl, h1⟩ := h
  obtain ⟨_, _, _, rfl⟩ := Sl.shape h1
  intro u hu
  simp at hu
  rcases hu with rfl | rfl | rfl <;> rfl
 keep h hk := by
  obtain ⟨v, rfl, h1⟩ := h
  exact ⟨v, rfl, h1.keep hk⟩
theorem add_add2 (a : Addr) (m i : Nat) : (a.add m).add i = a.add (m + i) := by
 unfold Addr.add
 by_cases hm : m = 0
 ·subst hm; simp
 ·by_cases hi : i = 0
  ·subst hi; simp [hm]
  ·simp [hm, hi]; omega
theorem wpList_indexR {P : Program} {ops : Array Oper} {Q : Exit → Act → World → Prop} {a : Act} {w : World} {rest : List Oper} {dst : Option Tmp} {ty : TypeId} {pos : String} {after : Array Edge}
  {α : Type} [Rep α] {x i : Operand} {t e : TypeId} {z : Value} {bytes : Nat} {S : Nat → Prop} {l : List α} (hr : Row P t e z (Rep.sz α) bytes) (hsz : 0 < Rep.sz α) (hx : Sl w S l (a.eval x)) {k : IntKind} {n : Int} (hi : a.eval i = .int k n) (h0 : 0 ≤ n) (hn : n < l.length)
  (h : ∀ b o y cs, l[n.toNat]? = some y → Rep.rd w S y cs → (∀ j u, cs[j]? = some u → w.cell? ⟨b, o + j, none⟩ = some u) → wpList P ops Q rest (a.put dst (.pointer (some ⟨b, o, none⟩))) w) :
  wpList P ops Q (⟨dst, .indexAddr t x i, ty, pos, after, none⟩ :: rest) a w := by
 obtain ⟨ao, cap, cs, hv, _, _, hnone, hcs, _, hloc⟩ := hx
 have hlt : n.toNat < l.length := by omega
 obtain ⟨y, hy⟩ : ∃ y, l[n.toNat]? = some y := ⟨_, List.getElem?_eq_getElem hlt⟩
 obtain ⟨c, hc1, hc2⟩ := rds_get n.toNat hcs hy
 have hlen := Rep.len hc1
 obtain ⟨u0, hu0⟩ : ∃ u, c[0]? = some u := ⟨_, List.getElem?_eq_getElem (by omega)⟩
 cases ao with
 | none => have := hnone rfl; omega
 | some ad =>
  have f0 := hloc ad rfl _ _ (hc2 0 _ hu0)
  have hspot : ∃ b o, ad.add (n.toNat * Rep.sz α) = ⟨b, o, none⟩ := by
   rw [Nat.add_zero] at f0
   generalize ad.add (n.toNat * Rep.sz α) = q at f0
   obtain ⟨b, o, sp⟩ := q
   cases sp with
   | none => exact ⟨b, o, rfl⟩
   | some s =>
    exfalso
    unfold World.cell? at f0
    split at f0 <;> simp at f0
  obtain ⟨b, o, hq⟩ := hspot
  have he : P.elem t = e := by simp [Program.elem, hr.1]
  have hrun := run_indexAt_slice (P := P) w t ad l.length cap k n (by rw [he]; exact hr.1)
  rw [if_pos ⟨h0, hn⟩, he, run_sizeOf_row hr] at hrun
  simp only [Result.andThen, hq] at hrun
  refine wpList_plain rfl fun K hK => ?_
  unfold Oper.wp
  simp [execOp, hi, hv, hrun, Result.andThen]
  refine hK _ _ (h b o y c hy hc1 fun j u hu => ?_)
  have := hloc ad rfl _ _ (hc2 j u hu)
  rwa [← add_add2, hq, add_lit] at this
end Go.Arm
namespace Go.Proofs.YtjkffjngamagkaaDoor
open Go Go.RowKit Go.Arm
theorem rowP : Row Tryd.prog 28 3 (.int .i64 0) 1 8 := ⟨Tryd.underlying28, by kernel_rfl⟩
theorem rowO : Row Tryd.prog 29 63 (.agg #[.int .u64 0, .slice none 0 0]) 2 32 := ⟨Tryd.underlying29, by kernel_rfl⟩
theorem rowH : Row Tryd.prog 31 114 (.agg #[.int .u64 0, .int .u64 0, .slice none 0 0]) 3 40 := ⟨Tryd.underlying31, by kernel_rfl⟩
section
variable {ops : Array Oper} {Q : Exit → Act → World → Prop} {a : Act} {w : World} {rest : List Oper}
variable {dst : Option Tmp} {ty : TypeId} {pos : String} {after : Array Edge}
def kK (o : Op) : Bool := kS o || match o with
 | .indexAddr t _ _ => t == 28 || t == 29 || t == 31
 | _ => false
theorem len_P {x : Operand} {S : Nat → Prop} {l : List Int} (hx : Sl w S l (a.eval x)) (h : wpList Tryd.prog ops Q rest (a.put dst (.int .i64 (l.length : Int))) w) :
  wpList Tryd.prog ops Q (⟨dst, .call ⟨.builtin .len, #[x], #[28]⟩, ty, pos, after, none⟩ :: rest) a w := wpList_len rowP.1 hx h
theorem len_O {x : Operand} {S : Nat → Prop} {l : List OpR} (hx : Sl w S l (a.eval x)) (h : wpList Tryd.prog ops Q rest (a.put dst (.int .i64 (l.length : Int))) w) :
  wpList Tryd.prog ops Q (⟨dst, .call ⟨.builtin .len, #[x], #[29]⟩, ty, pos, after, none⟩ :: rest) a w := wpList_len rowO.1 hx h
theorem len_H {x : Operand} {S : Nat → Prop} {l : List HitR} (hx : Sl w S l (a.eval x)) (h : wpList Tryd.prog ops Q rest (a.put dst (.int .i64 (l.length : Int))) w) :
  wpList Tryd.prog ops Q (⟨dst, .call ⟨.builtin .len, #[x], #[31]⟩, ty, pos, after, none⟩ :: rest) a w := wpList_len rowH.1 hx h
theorem idx_P {Q : Exit → Act → World → Prop} {x i : Operand} {S : Nat → Prop} {l : List Int} (hx : Sl w S l (a.eval x)) {k : IntKind} {n : Int} (hi : a.eval i = .int k n) (h0 : 0 ≤ n) (hn : n < l.length)
  (h : ∀ b o y, l[n.toNat]? = some y → I64 y → w.cell? ⟨b, o, none⟩ = some (.int .i64 y) → wpList Tryd.prog ops Q rest (a.put dst (.pointer (some ⟨b, o, none⟩))) w) :
  wpList Tryd.prog ops Q (⟨dst, .indexAddr 28 x i, ty, pos, after, none⟩ :: rest) a w :=
 wpList_indexR rowP (by decide) hx hi h0 hn fun b o y cs hy hr hc => by
  obtain ⟨rfl, h6⟩ := hr
  exact h b o y hy h6 (hc 0 _ rfl)
theorem idx_O {Q : Exit → Act → World → Prop} {x i : Operand} {S : Nat → Prop} {l : List OpR} (hx : Sl w S l (a.eval x)) {k : IntKind} {n : Int} (hi : a.eval i = .int k n) (h0 : 0 ≤ n) (hn : n < l.length)
  (h : ∀ b o y v, l[n.toNat]? = some y → Sl w S y.vec v → w.cell? ⟨b, o, none⟩ = some (.int .u64 (y.id.toNat : Int)) → w.cell? ⟨b, o + 1, none⟩ = some v → wpList Tryd.prog ops Q rest (a.put dst (.pointer (some ⟨b, o, none⟩))) w) :
  wpList Tryd.prog ops Q (⟨dst, .indexAddr 29 x i, ty, pos, after, none⟩ :: rest) a w :=
 wpList_indexR rowO (by decide) hx hi h0 hn fun b o y cs hy hr hc => by
  obtain ⟨v, rfl, h1⟩ := hr
  exact h b o y v hy h1 (hc 0 _ rfl) (hc 1 _ rfl)
theorem idx_H {Q : Exit → Act → World → Prop} {x i : Operand} {S : Nat → Prop} {l : List HitR} (hx : Sl w S l (a.eval x)) {k : IntKind} {n : Int} (hi : a.eval i = .int k n) (h0 : 0 ≤ n) (hn : n < l.length)
  (h : ∀ b o y v, l[n.toNat]? = some y → Sl w S y.vec v → w.cell? ⟨b, o, none⟩ = some (.int .u64 (y.id.toNat : Int)) → w.cell? ⟨b, o + 1, none⟩ = some (.int .u64 (y.dist.toNat : Int)) → w.cell? ⟨b, o + 2, none⟩ = some v → wpList Tryd.prog ops Q rest (a.put dst (.pointer (some ⟨b, o, none⟩))) w) :
  wpList Tryd.prog ops Q (⟨dst, .indexAddr 31 x i, ty, pos, after, none⟩ :: rest) a w :=
 wpList_indexR rowH (by decide) hx hi h0 hn fun b o y cs hy hr hc => by
  obtain ⟨v, rfl, h1⟩ := hr
  exact h b o y v hy h1 (hc 0 _ rfl) (hc 1 _ rfl) (hc 2 _ rfl)
end
end Go.Proofs.YtjkffjngamagkaaDoor
/- package scroll: the Writer. -/
namespace Go.Proofs.YtjkffjngamagkaaDoor
open Go Go.RowKit Go.Arm
theorem or128_all : ∀ a : Fin 256, a.val ||| 128 = a.val % 128 + 128 := by decide +kernel
theorem or128 (m : Nat) : bits .or .u8 ((m : Int) % 256) 128 = ((UInt8.ofNat (m % 128 + 128)).toNat : Int) := by
 have h := (bits_of_nat .u8 rfl (m % 256) 128 (by show m % 256 < 256; omega) (by decide)).2.1
 have e := or128_all ⟨m % 256, Nat.mod_lt _ (by decide)⟩
 rw [UInt8.toNat_ofNat_of_lt' (by show m % 128 + 128 < 256; omega)]
 simp only at e
 rw [show ((m : Int) % 256) = ((m % 256 : Nat) : Int) by omega, show (128 : Int) = ((128 : Nat) : Int) from rfl, h, e]
 omega
theorem grown_new {w w1 w2 : World} {v : Value} {h : Option Nat} (hv : v.ownBlock = h) (k : w.grownBy w1 none) (g : w1.grownBy w2 v.ownBlock) : w.grownBy w2 h :=
 ⟨g.os.trans k.os, g.tape.trans k.tape, g.output.trans k.output, Nat.le_trans k.size g.size, fun j hj hne => (g.block j (Nat.lt_of_lt_of_le hj k.size) (by rw [hv]; exact hne)).trans (k.block j hj (by simp))⟩
theorem own_new {w w1 : World} {v v' : Value} {h : Option Nat} (hv : v.ownBlock = h) (k : w1.heap.size = w.heap.size + 1) (g : v'.ownBlock = v.ownBlock ∨ ∃ j, v'.ownBlock = some j ∧ w1.heap.size ≤ j) : v'.ownBlock = h ∨ ∃ j, v'.ownBlock = some j ∧ w.heap.size ≤ j := by
 rcases g with g | ⟨j, g, hj⟩
 ·exact .inl (g.trans hv)
 ·exact .inr ⟨j, g, by omega⟩
theorem Mv.far {w w' : World} {g : Nat} {h h' : Option Nat} (m : Mv w w' g h h') {b : Nat} (hb : b < w.heap.size) (h2 : h ≠ some b) : h' ≠ some b := by
 rcases m.1 with e | ⟨k, e, hk⟩
 ·rw [e]; exact h2
 ·rw [e]; intro e; cases e; omega
set_option maxRecDepth 100000 in
theorem wnum_any (w : World) (g : Nat) (h : Option Nat) (l : List UInt8) (n : Nat) (hw : Wr w g h l) (hn : n < 18446744073709551616) (hl : l.length ≤ 1099511627776) :
  Calls Tryd.prog 95 #[.pointer (some ⟨g, 0, none⟩), .int .u64 n] w fun e w' => (∃ r, e = .returned r) ∧ ∃ h', Wr w' g h' (l ++ enc n) ∧ Mv w w' g h h' := by
 go_enter Tryd.func95, Tryd.ntmps95
 go_wp2_with (first | ((with_reducible apply ugZ); rfl) | ((with_reducible (first | apply len_B | apply len_BB)); assumption) | ((with_reducible refine stop_if kW ?_ ?_); rfl))
 go_loopg [1] (n + 1) (fun k x wr => ∃ (m : Nat) (done : List UInt8) (h' : Option Nat), k = m + 1 ∧ m ≤ n ∧ x = .int .u64 m ∧ done ++ enc m = enc n ∧ done.length + (enc m).length ≤ 10 ∧ Wr wr g h' (l ++ done) ∧ Mv w wr g h h')
 case atStart => exact ⟨n, [], h, rfl, Nat.le_refl _, rfl, rfl, by have := enc_len10 n hn; simpa using this, by simpa using hw, Mv.refl _ _ _⟩
 case round =>
  obtain ⟨m, done, h', hk, hm, rfl, hd, hlen, hwr, hmv⟩ := hrel
  have Hk := Lib.hid hk
  have Hd := Lib.hid hd
  have Hlen := Lib.hid hlen
  have hdl : done.length ≤ 10 := by omega
  have Hmv := Lib.hid hmv
  clear hk hd hlen hmv
  have hwr' := hwr
  obtain ⟨v, a1, a2, a3, a4⟩ := hwr'
  have c0 : wr.cell? ⟨g, 0, none⟩ = some v := by simp [World.cell?, a1]
  have A1 := Lib.hid a1
  have A3 := Lib.hid a3
  have A4 := Lib.hid a4
  clear a1 a3 a4
  have f0 : wr.frozen? ⟨g, 0, none⟩ = false := by simp [World.frozen?, A1.out]
  by_cases hb : 128 ≤ m
  ·go_wp2_with (first | ((with_reducible apply ugZ); rfl) | ((with_reducible (first | apply len_B | apply len_BB)); assumption) | ((with_reducible refine stop_if kW ?_ ?_); rfl))
   rw [or128 m]
   obtain ⟨c, hc⟩ : ∃ c, c = UInt8.ofNat (m % 128 + 128) := ⟨_, rfl⟩
   rw [← hc]
   have Hc := Lib.hid hc
   clear hc
   refine Stop.go (build_B ([c] : List UInt8) [_] rfl rfl rfl (by simp) fun u w1 k1 k2 k3 k4 => ?_)
   have a21 := a2.grown0 k2
   go_wp2_with (first | ((with_reducible apply ugZ); rfl) | ((with_reducible (first | apply len_B | apply len_BB)); assumption) | ((with_reducible refine stop_if kW ?_ ?_); rfl))
   refine Stop.go (app_B (a21 : OwnB w1 0 _ v) k1.sl' (by simp; omega) (by omega) fun v' w2 g1 g2 g3 => ?_)
   have hgr : wr.grownBy w2 h' := grown_new A3.out k2 g2
   have hv' : v'.ownBlock = h' ∨ ∃ k, v'.ownBlock = some k ∧ wr.heap.size ≤ k := own_new A3.out k4 g3
   obtain ⟨b1, b2⟩ := Wr.stored A1.out A4.out hgr g1 hv'
   obtain ⟨ao, nn, cap, rfl⟩ := Own.shape g1
   have c2 : w2.cell? ⟨g, 0, none⟩ = some v := by rw [cell?_same (w := wr) (hgr.block g hwr.lt (fun e => A4.out e.symm))]; exact c0
   have f2 : w2.frozen? ⟨g, 0, none⟩ = false := by rw [World.frozen?_of_block (w := wr) (hgr.block g hwr.lt (fun e => A4.out e.symm))]; exact f0
   clear g1 g2 g3 k1 k2 k3 k4 a2 a21 hgr hv' c0 f0
   go_wp2_with (first | ((with_reducible apply ugZ); rfl) | ((with_reducible (first | apply len_B | apply len_BB)); assumption) | ((with_reducible refine stop_if kW ?_ ?_); rfl))
   go_roundg (m / 128 + 1)
   case measure => have := Hk.out; omega
   case rel =>
    have he := enc_big m (by omega)
    rw [← Hc.out] at he
    have hl2 := Hlen.out
    rw [he] at hl2
    refine ⟨m / 128, done ++ [c], _, rfl, by omega, by go_num, by rw [← Hd.out, he]; simp, by simp at hl2 ⊢; omega, by simpa using b1, Hmv.out.trans b2⟩
  ·go_wp2_with (first | ((with_reducible apply ugZ); rfl) | ((with_reducible (first | apply len_B | apply len_BB)); assumption) | ((with_reducible refine stop_if kW ?_ ?_); rfl))
   obtain ⟨c, hc⟩ : ∃ c, c = UInt8.ofNat m := ⟨_, rfl⟩
   have hcm : (m : Int) = (c.toNat : Int) := by rw [hc, UInt8.toNat_ofNat_of_lt' (by show m < 256; omega)]
   have Hc := Lib.hid hc
   have Hcm := Lib.hid hcm
   clear hc hcm
   refine Stop.go (build_B ([c] : List UInt8) [.int .u8 (m : Int)] rfl rfl (by rw [Hcm.out]; rfl) (by simp) fun u w1 k1 k2 k3 k4 => ?_)
   have a21 := a2.grown0 k2
   go_wp2_with (first | ((with_reducible apply ugZ); rfl) | ((with_reducible (first | apply len_B | apply len_BB)); assumption) | ((with_reducible refine stop_if kW ?_ ?_); rfl))
   refine Stop.go (app_B (a21 : OwnB w1 0 _ v) k1.sl' (by simp; omega) (by omega) fun v' w2 g1 g2 g3 => ?_)
   have hgr : wr.grownBy w2 h' := grown_new A3.out k2 g2
   have hv' : v'.ownBlock = h' ∨ ∃ k, v'.ownBlock = some k ∧ wr.heap.size ≤ k := own_new A3.out k4 g3
   obtain ⟨b1, b2⟩ := Wr.stored A1.out A4.out hgr g1 hv'
   obtain ⟨ao, nn, cap, rfl⟩ := Own.shape g1
   have c2 : w2.cell? ⟨g, 0, none⟩ = some v := by rw [cell?_same (w := wr) (hgr.block g hwr.lt (fun e => A4.out e.symm))]; exact c0
   have f2 : w2.frozen? ⟨g, 0, none⟩ = false := by rw [World.frozen?_of_block (w := wr) (hgr.block g hwr.lt (fun e => A4.out e.symm))]; exact f0
   clear g1 g2 g3 k1 k2 k3 k4 a2 a21 hgr hv' c0 f0
   go_wp2_with (first | ((with_reducible apply ugZ); rfl) | ((with_reducible (first | apply len_B | apply len_BB)); assumption) | ((with_reducible refine stop_if kW ?_ ?_); rfl))
   refine bodyPost_end (results_none rfl _ _ _) rfl ?_
   have he := enc_small m (by omega)
   rw [← Hc.out] at he
   refine ⟨⟨_, rfl⟩, _, ?_, Hmv.out.trans b2⟩
   rw [← Hd.out, he, ← List.append_assoc]
   exact b1
theorem wnums_any (w : World) (g : Nat) (h : Option Nat) (l : List UInt8) (S : Nat → Prop) (ns : List UInt64) (p : Value) (hw : Wr w g h l) (hp : Sl w S ns p) (hS : ∀ b, S b → b < w.heap.size ∧ b ≠ g ∧ h ≠ some b) (hl : l.length ≤ 1000000000) (hn : ns.length ≤ 1000000) :
  Calls Tryd.prog 58 #[.pointer (some ⟨g, 0, none⟩), p] w fun e w' => e = .returned (.pointer (some ⟨g, 0, none⟩)) ∧ ∃ h', Wr w' g h' (l ++ encs ns) ∧ Mv w w' g h h' := by
 go_enter Tryd.func58, Tryd.ntmps58
 go_wp2_with (first | ((with_reducible apply ugZ); rfl) | ((with_reducible (first | apply len_B | apply len_BB | apply len_N | apply len_V | apply len_VV)); assumption) | ((with_reducible refine stop_if kS ?_ ?_); rfl))
 go_loopg [6, 11] (ns.length + 1) (fun k x i wr => ∃ (j : Nat) (h' : Option Nat) (D : List UInt8), k = ns.length - j + 1 ∧ j ≤ ns.length ∧ i = .int .i64 j ∧ D = encs (ns.take j) ∧ D.length ≤ j * 10 ∧ Wr wr g h' (l ++ D) ∧ Mv w wr g h h')
 case atStart => exact ⟨0, h, [], by omega, by omega, rfl, rfl, by simp, by simpa using hw, Mv.refl _ _ _⟩
 case round =>
  obtain ⟨j, h', D, hk, hj, rfl, hD, hlen, hwr, hmv⟩ := hrel
  have Hk := Lib.hid hk
  have HD := Lib.hid hD
  clear hk hD
  have hpr := hp.only hmv.2 (fun b hb _ e => by have := (hS b hb).2; rcases e with e | e; exact this.1 e; exact this.2 e)
  have Hmv := Lib.hid hmv
  clear hmv
  by_cases hlt : j < ns.length
  ·go_wp2_with (first | ((with_reducible apply ugZ); rfl) | ((with_reducible (first | apply len_B | apply len_BB | apply len_N | apply len_V | apply len_VV)); assumption) | ((with_reducible refine stop_if kS ?_ ?_); rfl))
   refine Stop.go (idx_N hpr rfl (by omega) (by omega) fun b o y hy hcell => ?_)
   have Hy := Lib.hid hy
   clear hy
   have hyl := y.toNat_lt
   go_wp2_with (first | ((with_reducible apply ugZ); rfl) | ((with_reducible (first | apply len_B | apply len_BB | apply len_N | apply len_V | apply len_VV)); assumption) | ((with_reducible refine stop_if kS ?_ ?_); rfl))
   refine (wnum_any wr g h' _ y.toNat hwr hyl (by rw [List.length_append]; omega)).mono ?_
   rintro e w1 ⟨⟨r, rfl⟩, h1, hw1, hm1⟩
   have hel := enc_len10 y.toNat hyl
   clear hcell
   go_wp2_with (first | ((with_reducible apply ugZ); rfl) | ((with_reducible (first | apply len_B | apply len_BB | apply len_N | apply len_V | apply len_VV)); assumption) | ((with_reducible refine stop_if kS ?_ ?_); rfl))
   go_roundg (ns.length - (j + 1) + 1)
   case measure => have := Hk.out; omega
   case rel =>
    have e := flatMap_snoc (fun n : UInt64 => enc n.toNat) ns j y (by simpa using Hy.out)
    refine ⟨j + 1, h1, D ++ enc y.toNat, by omega, by omega, rfl, by rw [HD.out]; exact e.symm, by rw [List.length_append]; omega, by simpa using hw1, Hmv.out.trans hm1⟩
  ·go_wp2_with (first | ((with_reducible apply ugZ); rfl) | ((with_reducible (first | apply len_B | apply len_BB | apply len_N | apply len_V | apply len_VV)); assumption) | ((with_reducible refine stop_if kS ?_ ?_); rfl))
   go_ret
   have e := HD.out
   rw [List.take_of_length_le (by omega)] at e
   rw [← e]
   exact ⟨rfl, h', hwr, Hmv.out⟩
theorem wbytes_any (w : World) (g : Nat) (h : Option Nat) (l : List UInt8) (hw : Wr w g h l) (hl : l.length ≤ 1000000000) :
  Calls Tryd.prog 62 #[.pointer (some ⟨g, 0, none⟩)] w fun e w' => ∃ v, e = .returned v ∧ OwnB w' w.heap.size l v ∧ Below w.heap.size w w' := by
 obtain ⟨v, a1, a2, a3, a4⟩ := hw
 have c0 : w.cell? ⟨g, 0, none⟩ = some v := by simp [World.cell?, a1]
 clear a1 a3 a4
 go_enter Tryd.func62, Tryd.ntmps62
 go_wp2_with (first | ((with_reducible apply ugZ); rfl) | ((with_reducible (first | apply len_B | apply len_BB | apply len_N | apply len_V | apply len_VV)); assumption) | ((with_reducible refine stop_if kS ?_ ?_); rfl))
 refine (clone_any w _ l v a2.sl' (by omega)).mono ?_
 rintro e w1 ⟨u, rfl, hu, hb⟩
 go_wp2_with (first | ((with_reducible apply ugZ); rfl) | ((with_reducible (first | apply len_B | apply len_BB | apply len_N | apply len_V | apply len_VV)); assumption) | ((with_reducible refine stop_if kS ?_ ?_); rfl))
 go_ret
 exact ⟨u, rfl, hu, hb⟩
end Go.Proofs.YtjkffjngamagkaaDoor
/- package scroll: Writer.Vecs. -/
namespace Go.Proofs.YtjkffjngamagkaaDoor
open Go Go.RowKit Go.Arm
theorem i32_lo (y : Int32) : -2147483648 ≤ y.toInt := Int32.le_toInt y
theorem i32_hi (y : Int32) : y.toInt < 2147483648 := Int32.toInt_lt y
theorem zig_lt (z : Int) (h1 : -2147483648 ≤ z) (h2 : z < 2147483648) : zig z < 4294967296 := by unfold zig; split <;> omega
theorem xor_ones (a : Nat) (h : a < 4294967296) : a ^^^ 4294967295 = 4294967295 - a := by
 have e := congrArg BitVec.toNat (BitVec.xor_allOnes (x := BitVec.ofNat 32 a))
 rw [BitVec.toNat_xor, BitVec.toNat_not, BitVec.toNat_allOnes, BitVec.toNat_ofNat, Nat.mod_eq_of_lt (show a < 2 ^ 32 from h)] at e
 exact e
theorem zig_code (z : Int) (h1 : -2147483648 ≤ z) (h2 : z < 2147483648) :
  IntKind.u64.wrap (bits .xor .u32 (wrap32 (z * 2) % 4294967296) (z / 2147483648 % 4294967296)) = (zig z : Int) := by
 have hw : ∀ n : Nat, n < 4294967296 → IntKind.u64.wrap (n : Int) = n := by
  intro n hn
  simp [IntKind.wrap, IntKind.signed, IntKind.bits]
  omega
 by_cases hz : z < 0
 ·have e1 : wrap32 (z * 2) % 4294967296 = (((z * 2 + 4294967296).toNat : Nat) : Int) := by unfold wrap32; omega
  have e2 : z / 2147483648 % 4294967296 = ((4294967295 : Nat) : Int) := by omega
  rw [e1, e2, xor32 _ _ (by omega) (by decide), xor_ones _ (by omega), hw _ (by omega), zig, if_pos hz]
  omega
 ·have e1 : wrap32 (z * 2) % 4294967296 = (((z * 2).toNat : Nat) : Int) := by unfold wrap32; omega
  have e2 : z / 2147483648 % 4294967296 = ((0 : Nat) : Int) := by omega
  rw [e1, e2, xor32 _ _ (by omega) (by decide), Nat.xor_zero, hw _ (by omega), zig, if_neg hz]
  omega
theorem encInts_len (v : List Int32) : (encInts v).length ≤ v.length * 10 := by
 unfold encInts
 induction v with
 | nil => simp
 | cons y v ih =>
  have := enc_len10 (zig y.toInt) (by have := zig_lt _ (i32_lo y) (i32_hi y); omega)
  rw [List.flatMap_cons, List.length_append, List.length_cons]
  omega
set_option maxRecDepth 100000 in
theorem wvecs_any (w : World) (g : Nat) (h : Option Nat) (l : List UInt8) (S : Nat → Prop) (vs : List (List Int32)) (p : Value) (hw : Wr w g h l) (hp : Sl w S vs p) (hS : ∀ b, S b → b < w.heap.size ∧ b ≠ g ∧ h ≠ some b) (hl : l.length ≤ 1000000000) (hn : vs.length ≤ 1000000) (ht : ∀ t ∈ vs, t.length ≤ 1000) :
  Calls Tryd.prog 60 #[.pointer (some ⟨g, 0, none⟩), p] w fun e w' => e = .returned (.pointer (some ⟨g, 0, none⟩)) ∧ ∃ h', Wr w' g h' (l ++ encVecs vs) ∧ Mv w w' g h h' := by
 have Ht := Lib.hid ht
 clear ht
 go_enter Tryd.func60, Tryd.ntmps60
 go_wp2_with (first | ((with_reducible apply ugZ); rfl) | ((with_reducible (first | apply len_B | apply len_BB | apply len_N | apply len_V | apply len_VV)); assumption) | ((with_reducible refine stop_if kS ?_ ?_); rfl))
 go_loopg [6, 8, 13] (vs.length + 1) (fun k x u8 i wr => ∃ (j : Nat) (h' : Option Nat) (D : List UInt8), k = vs.length - j + 1 ∧ j ≤ vs.length ∧ i = .int .i64 j ∧ D = encVecs (vs.take j) ∧ D.length ≤ j * 10010 ∧ Wr wr g h' (l ++ D) ∧ Mv w wr g h h')
 case atStart => exact ⟨0, h, [], by omega, by omega, rfl, rfl, by simp, by simpa using hw, Mv.refl _ _ _⟩
 case round =>
  obtain ⟨j, h', D, hk, hj, rfl, hD, hlen, hwr, hmv⟩ := hrel
  have Hk := Lib.hid hk
  have HD := Lib.hid hD
  clear hk hD
  have hpr := hp.only hmv.2 (fun b hb _ e => by have := (hS b hb).2; rcases e with e | e; exact this.1 e; exact this.2 e)
  have hS' : ∀ b, S b → b < wr.heap.size ∧ b ≠ g ∧ h' ≠ some b := fun b hb => ⟨by have := (hS b hb).1; have := hmv.2.size; omega, (hS b hb).2.1, Mv.far hmv (hS b hb).1 (hS b hb).2.2⟩
  have Hmv := Lib.hid hmv
  clear hmv
  by_cases hlt : j < vs.length
  ·go_wp2_with (first | ((with_reducible apply ugZ); rfl) | ((with_reducible (first | apply len_B | apply len_BB | apply len_N | apply len_V | apply len_VV)); assumption) | ((with_reducible refine stop_if kS ?_ ?_); rfl))
   refine Stop.go (idx_VV hpr rfl (by omega) (by omega) fun b o y u hy hu hcell => ?_)
   have Hy := Lib.hid hy
   have hyl : y.length ≤ 1000 := Ht.out y (List.mem_of_getElem? hy)
   clear hy
   go_wp2_with (first | ((with_reducible apply ugZ); rfl) | ((with_reducible (first | apply len_B | apply len_BB | apply len_N | apply len_V | apply len_VV)); assumption) | ((with_reducible refine stop_if kS ?_ ?_); rfl))
   refine (wnum_any wr g h' _ y.length hwr (by omega) (by rw [List.length_append]; omega)).mono ?_
   rintro e w0 ⟨⟨r, rfl⟩, h1, hw1, hm1⟩
   have hel := enc_len10 y.length (by omega)
   have hu1 := hu.only hm1.2 (fun b hb _ e => by rcases e with e | e; exact (hS' b hb).2.1 e; exact (hS' b hb).2.2 e)
   have hS1 : ∀ b, S b → b < w0.heap.size ∧ b ≠ g ∧ h1 ≠ some b := fun b hb => ⟨by have := (hS' b hb).1; have := hm1.2.size; omega, (hS' b hb).2.1, Mv.far hm1 (hS' b hb).1 (hS' b hb).2.2⟩
   have Hm1 := Lib.hid hm1
   clear hcell hm1
   go_wp2_with (first | ((with_reducible apply ugZ); rfl) | ((with_reducible (first | apply len_B | apply len_BB | apply len_N | apply len_V | apply len_VV)); assumption) | ((with_reducible refine stop_if kS ?_ ?_); rfl))
   go_loopg [8, 24] (y.length + 1) (fun k x i wq => ∃ (m : Nat) (h2 : Option Nat) (E : List UInt8), k = y.length - m + 1 ∧ m ≤ y.length ∧ i = .int .i64 m ∧ E = encInts (y.take m) ∧ E.length ≤ m * 10 ∧ Wr wq g h2 (l ++ D ++ enc y.length ++ E) ∧ Mv w0 wq g h1 h2)
   case atStart => exact ⟨0, h1, [], by omega, by omega, rfl, rfl, by simp, by simpa using hw1, Mv.refl _ _ _⟩
   case round =>
    obtain ⟨m, h2, E, hk2, hm, rfl, hE, hEl, hwq, hmq⟩ := hrel
    have Hk2 := Lib.hid hk2
    have HE := Lib.hid hE
    clear hk2 hE
    have hu2 := hu1.only hmq.2 (fun b hb _ e => by rcases e with e | e; exact (hS1 b hb).2.1 e; exact (hS1 b hb).2.2 e)
    have Hmq := Lib.hid hmq
    clear hmq
    by_cases hlt2 : m < y.length
    ·go_wp2_with (first | ((with_reducible apply ugZ); rfl) | ((with_reducible (first | apply len_B | apply len_BB | apply len_N | apply len_V | apply len_VV)); assumption) | ((with_reducible refine stop_if kS ?_ ?_); rfl))
     refine Stop.go (idx_V hu2 rfl (by omega) (by omega) fun b2 o2 z hz hcell => ?_)
     have Hz := Lib.hid hz
     clear hz
     have z1 := i32_lo z
     have z2 := i32_hi z
     go_wp2_with (first | ((with_reducible apply ugZ); rfl) | ((with_reducible (first | apply len_B | apply len_BB | apply len_N | apply len_V | apply len_VV)); assumption) | ((with_reducible refine stop_if kS ?_ ?_); rfl))
     rw [zig_code _ z1 z2]
     have hzl := zig_lt _ z1 z2
     refine (wnum_any wr g h2 _ (zig z.toInt) hwq (by omega) (by rw [List.length_append, List.length_append, List.length_append]; omega)).mono ?_
     rintro e w3 ⟨⟨r3, rfl⟩, h3, hw3, hm3⟩
     have hel3 := enc_len10 (zig z.toInt) (by omega)
     clear hcell
     go_wp2_with (first | ((with_reducible apply ugZ); rfl) | ((with_reducible (first | apply len_B | apply len_BB | apply len_N | apply len_V | apply len_VV)); assumption) | ((with_reducible refine stop_if kS ?_ ?_); rfl))
     go_roundg (y.length - (m + 1) + 1)
     case measure => have := Hk2.out; omega
     case rel =>
      have e := flatMap_snoc (fun z : Int32 => enc (zig z.toInt)) y m z (by simpa using Hz.out)
      refine ⟨m + 1, h3, E ++ enc (zig z.toInt), by omega, by omega, rfl, by rw [HE.out]; exact e.symm, by rw [List.length_append]; omega, by simpa using hw3, Hmq.out.trans hm3⟩
    ·go_wp2_with (first | ((with_reducible apply ugZ); rfl) | ((with_reducible (first | apply len_B | apply len_BB | apply len_N | apply len_V | apply len_VV)); assumption) | ((with_reducible refine stop_if kS ?_ ?_); rfl))
     go_roundg (vs.length - (j + 1) + 1)
     case measure => have := Hk.out; omega
     case rel =>
      have e := flatMap_snoc encVec vs j y (by simpa using Hy.out)
      have e2 := HE.out
      rw [List.take_of_length_le (by omega)] at e2
      have e3 : encVec y = enc y.length ++ E := by rw [e2]; rfl
      refine ⟨j + 1, h2, D ++ encVec y, by omega, by omega, rfl, by rw [HD.out]; exact e.symm, by rw [e3, List.length_append, List.length_append]; omega, ?_, (Hmv.out.trans Hm1.out).trans Hmq.out⟩
      rw [e3]
      simpa using hwq
  ·go_wp2_with (first | ((with_reducible apply ugZ); rfl) | ((with_reducible (first | apply len_B | apply len_BB | apply len_N | apply len_V | apply len_VV)); assumption) | ((with_reducible refine stop_if kS ?_ ?_); rfl))
   go_ret
   have e := HD.out
   rw [List.take_of_length_le (by omega)] at e
   rw [← e]
   exact ⟨rfl, h', hwr, Hmv.out⟩
end Go.Proofs.YtjkffjngamagkaaDoor
/- Writers and Readers that a law has made: what its calls may touch. -/
namespace Go.Proofs.YtjkffjngamagkaaDoor
open Go Go.RowKit Go.Arm
structure Wf (w0 w : World) (g : Nat) (h : Option Nat) (l : List UInt8) : Prop where
 wr : Wr w g h l
 ge : w0.heap.size ≤ g
 row : ∀ k, h = some k → w0.heap.size ≤ k
theorem Wf.fresh {w0 w : World} (h : w0.heap.size ≤ w.heap.size) : Wf w0 (w.alloc (.cells #[.slice none 0 0] 122)) w.heap.size none [] :=
 ⟨⟨_, heap_alloc_new w _, Own.nil _ _ _ _, rfl, by simp⟩, h, by simp⟩
theorem Wf.step {w0 w w' : World} {g : Nat} {h h' : Option Nat} {l l' : List UInt8} (a : Wf w0 w g h l) (hw : Wr w' g h' l') (hm : Mv w w' g h h') : Wf w0 w' g h' l' := by
 refine ⟨hw, a.ge, fun k hk => ?_⟩
 have h2 := a.ge
 have h3 := a.wr.lt
 rcases hm.1 with e | ⟨j, e, hj⟩
 ·exact a.row k (e.symm.trans hk)
 ·rw [hk] at e; cases e; omega
theorem Wf.below {w0 w w' : World} {g : Nat} {h h' : Option Nat} {l : List UInt8} (a : Wf w0 w g h l) (hb : Below w0.heap.size w0 w) (hm : Mv w w' g h h') : Below w0.heap.size w0 w' := by
 refine hb.trans (hm.2.below hb.size ?_)
 rintro k (rfl | hk)
 ·exact a.ge
 ·exact a.row k hk
theorem Wf.keep {w0 w w' : World} {g : Nat} {h : Option Nat} {l : List UInt8} (a : Wf w0 w g h l) (hb : Below w.heap.size w w') : Wf w0 w' g h l :=
 ⟨a.wr.only (Only.of_below hb) (by have := a.wr.lt; omega) (fun k hk => by have := a.wr.row_lt k hk; omega), a.ge, a.row⟩
theorem Wf.only {w0 w w' : World} {F : Nat → Prop} {g : Nat} {h : Option Nat} {l : List UInt8} (a : Wf w0 w g h l) (ho : Only F w w') (h1 : ¬ F g) (h2 : ∀ k, h = some k → ¬ F k) : Wf w0 w' g h l :=
 ⟨a.wr.only ho h1 h2, a.ge, a.row⟩
theorem below_on {B C : Nat} {w0 w w' : World} (h : Below B w0 w) (h2 : Below C w w') (hC : B ≤ C) : Below B w0 w' :=
 h.trans ⟨h2.os, h2.tape, h2.output, h2.size, fun k hk => h2.block k (by omega)⟩
theorem below_only {w0 w w' : World} {F : Nat → Prop} (hb : Below w0.heap.size w0 w) (ho : Only F w w') (hF : ∀ k, F k → w0.heap.size ≤ k) : Below w0.heap.size w0 w' := hb.trans (ho.below hb.size hF)
theorem Rd.old {w : World} {g : Nat} {S : Nat → Prop} {l : List UInt8} {e : Int} (h : Rd w g S l e) : Rd w g (fun b => S b ∧ b < w.heap.size) l e := by
 obtain ⟨v, h1, h2, h3⟩ := h
 exact ⟨v, h1, h2.wide fun b h1 h2 => ⟨h1, h2⟩, fun h => h3 h.1⟩
theorem build_flat {w w' : World} {B : Nat} {e : TypeId} {α : Type} [Rep α] {l : List α} {v : Value} (h : Own w' B e (fun _ => False) l v) (hv : v.ownBlock = some w.heap.size) : Sl w' (· = w.heap.size) l v :=
 h.sl (fun _ h _ => h.elim) fun b hb => by rw [hv] at hb; exact (Option.some.inj hb).symm
end Go.Proofs.YtjkffjngamagkaaDoor
/- package vec: Right; package note: bare; the tests over ops and hits. -/
namespace Go.Arm
def inCoord (z : Int32) : Bool := decide (-268435456 ≤ z.toInt) && decide (z.toInt ≤ 268435456)
def vecRight (v : List Int32) : Bool := decide (0 < v.length) && decide (v.length ≤ 8) && v.all inCoord
def vecBare (v : List Int32) : Bool := decide (v.length = 0) || vecRight v
def opRight (o : OpR) : Bool := decide (o.id.toNat ≤ 1099511627776) && vecBare o.vec
def hitRight (o : HitR) : Bool := decide (o.id.toNat ≤ 1099511627776) && vecRight o.vec
theorem all_take_snoc {α : Type} (f : α → Bool) (l : List α) (j : Nat) (y : α) (h : l[j]? = some y) (h1 : (l.take j).all f = true) (h2 : f y = true) : (l.take (j + 1)).all f = true := by
 rw [take_snoc l j y h, List.all_append, h1]
 simp [h2]
theorem all_falsified {α : Type} (f : α → Bool) (l : List α) (j : Nat) (y : α) (h : l[j]? = some y) (h2 : f y = false) : l.all f = false := by
 rw [List.all_eq_false]
 exact ⟨y, List.mem_of_getElem? h, by simp [h2]⟩
end Go.Arm
namespace Go.Proofs.YtjkffjngamagkaaDoor
open Go Go.RowKit Go.Arm
theorem coord_any (w : World) (z : Int32) : Calls Tryd.prog 117 #[.int .i32 z.toInt] w fun e w' => e = .returned (.bool (!inCoord z)) ∧ w = w' := by
 obtain ⟨R, hR⟩ : ∃ R, R = inCoord z := ⟨_, rfl⟩
 rw [← hR]
 unfold inCoord at hR
 obtain ⟨y, hy⟩ : ∃ y, y = z.toInt := ⟨_, rfl⟩
 rw [← hy] at hR ⊢
 clear hy
 have HR := Lib.hid hR
 clear hR
 by_cases h1 : y < -268435456
 ·go_enter Tryd.func117, Tryd.ntmps117
  go_wp2_with (first | ((with_reducible apply ugZ); rfl) | ((with_reducible (first | apply len_B | apply len_BB | apply len_N | apply len_V | apply len_VV | apply len_P | apply len_O | apply len_H)); assumption) | ((with_reducible refine stop_if kK ?_ ?_); rfl))
  go_ret
  rw [HR.out, decide_eq_false (by omega)]
  exact ⟨rfl, rfl⟩
 ·by_cases h2 : 268435456 < y
  ·go_enter Tryd.func117, Tryd.ntmps117
   go_wp2_with (first | ((with_reducible apply ugZ); rfl) | ((with_reducible (first | apply len_B | apply len_BB | apply len_N | apply len_V | apply len_VV | apply len_P | apply len_O | apply len_H)); assumption) | ((with_reducible refine stop_if kK ?_ ?_); rfl))
   go_ret
   rw [HR.out, decide_eq_true (by omega), decide_eq_false (by omega)]
   refine ⟨?_, rfl⟩
   simp
  ·go_enter Tryd.func117, Tryd.ntmps117
   go_wp2_with (first | ((with_reducible apply ugZ); rfl) | ((with_reducible (first | apply len_B | apply len_BB | apply len_N | apply len_V | apply len_VV | apply len_P | apply len_O | apply len_H)); assumption) | ((with_reducible refine stop_if kK ?_ ?_); rfl))
   go_ret
   rw [HR.out, decide_eq_true (by omega), decide_eq_true (by omega)]
   refine ⟨?_, rfl⟩
   simp
theorem index_V (w : World) (S : Nat → Prop) (l : List Int32) (p : Value) (hp : Sl w S l p) :
  Calls Tryd.prog 120 #[p, .func (.func 117) #[] #[]] w fun e w' => ∃ k : Int, e = .returned (.int .i64 k) ∧ (decide (0 ≤ k) = !l.all inCoord) ∧ Below w.heap.size w w' := by
 have hll : l.length ≤ 9223372036854775807 := hp.length_le
 have hp0 := hp.old
 clear hp
 go_enter Tryd.func120, Tryd.ntmps120
 go_wp2_with (first | ((with_reducible apply ugZ); rfl) | ((with_reducible (first | apply len_B | apply len_BB | apply len_N | apply len_V | apply len_VV | apply len_P | apply len_O | apply len_H)); assumption) | ((with_reducible refine stop_if kK ?_ ?_); rfl))
 go_loopg [5, 8] (l.length + 1) (fun k x i wr => ∃ j : Nat, k = l.length - j + 1 ∧ j ≤ l.length ∧ i = .int .i64 j ∧ Below w.heap.size w wr ∧ (l.take j).all inCoord = true)
 case atStart => exact ⟨0, by omega, by omega, rfl, Below.refl _ _, by simp⟩
 case round =>
  obtain ⟨j, hk, hj, rfl, hb, hall⟩ := hrel
  have Hk := Lib.hid hk
  have Hall := Lib.hid hall
  clear hk hall
  have hpr := hp0.below hb (Nat.le_refl _)
  by_cases hlt : j < l.length
  ·go_wp2_with (first | ((with_reducible apply ugZ); rfl) | ((with_reducible (first | apply len_B | apply len_BB | apply len_N | apply len_V | apply len_VV | apply len_P | apply len_O | apply len_H)); assumption) | ((with_reducible refine stop_if kK ?_ ?_); rfl))
   refine Stop.go (idx_V hpr rfl (by omega) (by omega) fun b o y hy hcell => ?_)
   have Hy := Lib.hid hy
   clear hy
   go_wp2_with (first | ((with_reducible apply ugZ); rfl) | ((with_reducible (first | apply len_B | apply len_BB | apply len_N | apply len_V | apply len_VV | apply len_P | apply len_O | apply len_H)); assumption) | ((with_reducible refine stop_if kK ?_ ?_); rfl))
   refine (coord_any wr y).mono ?_
   rintro e w2 ⟨rfl, rfl⟩
   have hb2 := hb
   by_cases hg : inCoord y = true
   ·rw [hg]
    simp only [Bool.not_true]
    go_wp2_with (first | ((with_reducible apply ugZ); rfl) | ((with_reducible (first | apply len_B | apply len_BB | apply len_N | apply len_V | apply len_VV | apply len_P | apply len_O | apply len_H)); assumption) | ((with_reducible refine stop_if kK ?_ ?_); rfl))
    go_roundg (l.length - (j + 1) + 1)
    case measure => have := Hk.out; omega
    case rel => exact ⟨j + 1, by omega, by omega, by go_num, hb2, all_take_snoc inCoord l j y (by simpa using Hy.out) Hall.out hg⟩
   ·rw [Bool.not_eq_true] at hg
    rw [hg]
    simp only [Bool.not_false]
    go_wp2_with (first | ((with_reducible apply ugZ); rfl) | ((with_reducible (first | apply len_B | apply len_BB | apply len_N | apply len_V | apply len_VV | apply len_P | apply len_O | apply len_H)); assumption) | ((with_reducible refine stop_if kK ?_ ?_); rfl))
    go_ret
    exact ⟨_, rfl, by rw [all_falsified inCoord l j y (by simpa using Hy.out) hg]; simp, hb2⟩
  ·rw [List.take_of_length_le (by omega)] at Hall
   go_wp2_with (first | ((with_reducible apply ugZ); rfl) | ((with_reducible (first | apply len_B | apply len_BB | apply len_N | apply len_V | apply len_VV | apply len_P | apply len_O | apply len_H)); assumption) | ((with_reducible refine stop_if kK ?_ ?_); rfl))
   go_ret
   exact ⟨_, rfl, by rw [Hall.out]; simp, hb⟩
theorem contains_V (w : World) (S : Nat → Prop) (l : List Int32) (p : Value) (hp : Sl w S l p) :
  Calls Tryd.prog 116 #[p, .func (.func 117) #[] #[]] w fun e w' => e = .returned (.bool (!l.all inCoord)) ∧ Below w.heap.size w w' := by
 go_enter Tryd.func116, Tryd.ntmps116
 go_wp2_with (first | ((with_reducible apply ugZ); rfl) | ((with_reducible (first | apply len_B | apply len_BB | apply len_N | apply len_V | apply len_VV | apply len_P | apply len_O | apply len_H)); assumption) | ((with_reducible refine stop_if kK ?_ ?_); rfl))
 refine (index_V w S l p hp).mono ?_
 rintro e w1 ⟨k, rfl, hk, hb⟩
 have Hk := Lib.hid hk
 clear hk
 go_wp2_with (first | ((with_reducible apply ugZ); rfl) | ((with_reducible (first | apply len_B | apply len_BB | apply len_N | apply len_V | apply len_VV | apply len_P | apply len_O | apply len_H)); assumption) | ((with_reducible refine stop_if kK ?_ ?_); rfl))
 go_ret
 rw [← Hk.out]
 exact ⟨rfl, hb⟩
theorem vright_any (w : World) (S : Nat → Prop) (l : List Int32) (p : Value) (hp : Sl w S l p) :
  Calls Tryd.prog 105 #[p] w fun e w' => e = .returned (.bool (vecRight l)) ∧ Below w.heap.size w w' := by
 obtain ⟨R, hR⟩ : ∃ R, R = vecRight l := ⟨_, rfl⟩
 rw [← hR]
 unfold vecRight at hR
 have HR := Lib.hid hR
 clear hR
 by_cases h0 : 0 < l.length
 ·by_cases h8 : l.length ≤ 8
  ·go_enter Tryd.func105, Tryd.ntmps105
   go_wp2_with (first | ((with_reducible apply ugZ); rfl) | ((with_reducible (first | apply len_B | apply len_BB | apply len_N | apply len_V | apply len_VV | apply len_P | apply len_O | apply len_H)); assumption) | ((with_reducible refine stop_if kK ?_ ?_); rfl))
   refine (contains_V w S l p hp).mono ?_
   rintro e w1 ⟨rfl, hb⟩
   go_wp2_with (first | ((with_reducible apply ugZ); rfl) | ((with_reducible (first | apply len_B | apply len_BB | apply len_N | apply len_V | apply len_VV | apply len_P | apply len_O | apply len_H)); assumption) | ((with_reducible refine stop_if kK ?_ ?_); rfl))
   go_ret
   rw [HR.out, decide_eq_true h0, decide_eq_true h8]
   refine ⟨?_, hb⟩
   simp
  ·go_enter Tryd.func105, Tryd.ntmps105
   go_wp2_with (first | ((with_reducible apply ugZ); rfl) | ((with_reducible (first | apply len_B | apply len_BB | apply len_N | apply len_V | apply len_VV | apply len_P | apply len_O | apply len_H)); assumption) | ((with_reducible refine stop_if kK ?_ ?_); rfl))
   go_ret
   rw [HR.out, decide_eq_true h0, decide_eq_false h8]
   exact ⟨rfl, Below.refl _ _⟩
 ·go_enter Tryd.func105, Tryd.ntmps105
  go_wp2_with (first | ((with_reducible apply ugZ); rfl) | ((with_reducible (first | apply len_B | apply len_BB | apply len_N | apply len_V | apply len_VV | apply len_P | apply len_O | apply len_H)); assumption) | ((with_reducible refine stop_if kK ?_ ?_); rfl))
  go_ret
  rw [HR.out, decide_eq_false h0]
  exact ⟨rfl, Below.refl _ _⟩
theorem bare_any (w : World) (S : Nat → Prop) (l : List Int32) (p : Value) (hp : Sl w S l p) :
  Calls Tryd.prog 100 #[p] w fun e w' => e = .returned (.bool (vecBare l)) ∧ Below w.heap.size w w' := by
 obtain ⟨R, hR⟩ : ∃ R, R = vecBare l := ⟨_, rfl⟩
 rw [← hR]
 unfold vecBare at hR
 have HR := Lib.hid hR
 clear hR
 by_cases h0 : l.length = 0
 ·have hb0 : ((l.length : Int) == 0) = true := by simpa using h0
  go_enter Tryd.func100, Tryd.ntmps100
  go_wp2_with (first | ((with_reducible apply ugZ); rfl) | ((with_reducible (first | apply len_B | apply len_BB | apply len_N | apply len_V | apply len_VV | apply len_P | apply len_O | apply len_H)); assumption) | ((with_reducible refine stop_if kK ?_ ?_); rfl))
  go_ret
  rw [HR.out, decide_eq_true h0]
  exact ⟨rfl, Below.refl _ _⟩
 ·have hb0 : ((l.length : Int) == 0) = false := beq_eq_false_iff_ne.2 (by omega)
  go_enter Tryd.func100, Tryd.ntmps100
  go_wp2_with (first | ((with_reducible apply ugZ); rfl) | ((with_reducible (first | apply len_B | apply len_BB | apply len_N | apply len_V | apply len_VV | apply len_P | apply len_O | apply len_H)); assumption) | ((with_reducible refine stop_if kK ?_ ?_); rfl))
  refine (vright_any w S l p hp).mono ?_
  rintro e w1 ⟨rfl, hb⟩
  go_wp2_with (first | ((with_reducible apply ugZ); rfl) | ((with_reducible (first | apply len_B | apply len_BB | apply len_N | apply len_V | apply len_VV | apply len_P | apply len_O | apply len_H)); assumption) | ((with_reducible refine stop_if kK ?_ ?_); rfl))
  go_ret
  rw [HR.out, decide_eq_false h0]
  exact ⟨rfl, hb⟩
theorem op_clo (w : World) (S : Nat → Prop) (y : OpR) (v : Value) (hv : Sl w S y.vec v) :
  Calls Tryd.prog 102 #[.agg #[.int .u64 (y.id.toNat : Int), v]] w fun e w' => e = .returned (.bool (!opRight y)) ∧ Below w.heap.size w w' := by
 obtain ⟨R, hR⟩ : ∃ R, R = opRight y := ⟨_, rfl⟩
 rw [← hR]
 unfold opRight at hR
 have HR := Lib.hid hR
 clear hR
 have hv0 := hv.old
 clear hv
 obtain ⟨av, nv, cv, rfl⟩ := Sl.shape hv0
 have hal := (Below.refl w.heap.size w).alloc (Nat.le_refl _) (.cells #[.int .u64 (y.id.toNat : Int), .slice av nv cv] 63)
 have hvx := hv0.below hal (Nat.le_refl _)
 by_cases h1 : 1099511627776 < y.id.toNat
 ·have h1' : (1099511627776 : Int) < (y.id.toNat : Int) := by omega
  go_enter Tryd.func102, Tryd.ntmps102
  go_wp2_with (first | ((with_reducible apply ugZ); rfl) | ((with_reducible (first | apply len_B | apply len_BB | apply len_N | apply len_V | apply len_VV | apply len_P | apply len_O | apply len_H)); assumption) | ((with_reducible refine stop_if kK ?_ ?_); rfl))
  go_ret
  rw [HR.out, decide_eq_false (by omega)]
  exact ⟨rfl, hal⟩
 ·have h1' : ¬ (1099511627776 : Int) < (y.id.toNat : Int) := by omega
  go_enter Tryd.func102, Tryd.ntmps102
  go_wp2_with (first | ((with_reducible apply ugZ); rfl) | ((with_reducible (first | apply len_B | apply len_BB | apply len_N | apply len_V | apply len_VV | apply len_P | apply len_O | apply len_H)); assumption) | ((with_reducible refine stop_if kK ?_ ?_); rfl))
  refine (bare_any _ _ _ _ hvx).mono ?_
  rintro e w1 ⟨rfl, hb⟩
  go_wp2_with (first | ((with_reducible apply ugZ); rfl) | ((with_reducible (first | apply len_B | apply len_BB | apply len_N | apply len_V | apply len_VV | apply len_P | apply len_O | apply len_H)); assumption) | ((with_reducible refine stop_if kK ?_ ?_); rfl))
  go_ret
  rw [HR.out, decide_eq_true (by omega)]
  exact ⟨rfl, below_on hal hb hal.size⟩
theorem hit_clo (w : World) (S : Nat → Prop) (y : HitR) (v : Value) (hv : Sl w S y.vec v) :
  Calls Tryd.prog 104 #[.agg #[.int .u64 (y.id.toNat : Int), .int .u64 (y.dist.toNat : Int), v]] w fun e w' => e = .returned (.bool (!hitRight y)) ∧ Below w.heap.size w w' := by
 obtain ⟨R, hR⟩ : ∃ R, R = hitRight y := ⟨_, rfl⟩
 rw [← hR]
 unfold hitRight at hR
 have HR := Lib.hid hR
 clear hR
 have hv0 := hv.old
 clear hv
 obtain ⟨av, nv, cv, rfl⟩ := Sl.shape hv0
 have hal := (Below.refl w.heap.size w).alloc (Nat.le_refl _) (.cells #[.int .u64 (y.id.toNat : Int), .int .u64 (y.dist.toNat : Int), .slice av nv cv] 114)
 have hvx := hv0.below hal (Nat.le_refl _)
 by_cases h1 : 1099511627776 < y.id.toNat
 ·have h1' : (1099511627776 : Int) < (y.id.toNat : Int) := by omega
  go_enter Tryd.func104, Tryd.ntmps104
  go_wp2_with (first | ((with_reducible apply ugZ); rfl) | ((with_reducible (first | apply len_B | apply len_BB | apply len_N | apply len_V | apply len_VV | apply len_P | apply len_O | apply len_H)); assumption) | ((with_reducible refine stop_if kK ?_ ?_); rfl))
  go_ret
  rw [HR.out, decide_eq_false (by omega)]
  exact ⟨rfl, hal⟩
 ·have h1' : ¬ (1099511627776 : Int) < (y.id.toNat : Int) := by omega
  go_enter Tryd.func104, Tryd.ntmps104
  go_wp2_with (first | ((with_reducible apply ugZ); rfl) | ((with_reducible (first | apply len_B | apply len_BB | apply len_N | apply len_V | apply len_VV | apply len_P | apply len_O | apply len_H)); assumption) | ((with_reducible refine stop_if kK ?_ ?_); rfl))
  refine (vright_any _ _ _ _ hvx).mono ?_
  rintro e w1 ⟨rfl, hb⟩
  go_wp2_with (first | ((with_reducible apply ugZ); rfl) | ((with_reducible (first | apply len_B | apply len_BB | apply len_N | apply len_V | apply len_VV | apply len_P | apply len_O | apply len_H)); assumption) | ((with_reducible refine stop_if kK ?_ ?_); rfl))
  go_ret
  rw [HR.out, decide_eq_true (by omega)]
  exact ⟨rfl, below_on hal hb hal.size⟩
theorem index_O (w : World) (S : Nat → Prop) (l : List OpR) (p : Value) (hp : Sl w S l p) :
  Calls Tryd.prog 114 #[p, .func (.func 102) #[] #[]] w fun e w' => ∃ k : Int, e = .returned (.int .i64 k) ∧ (decide (0 ≤ k) = !l.all opRight) ∧ Below w.heap.size w w' := by
 have hll : l.length ≤ 9223372036854775807 := hp.length_le
 have hp0 := hp.old
 clear hp
 go_enter Tryd.func114, Tryd.ntmps114
 go_wp2_with (first | ((with_reducible apply ugZ); rfl) | ((with_reducible (first | apply len_B | apply len_BB | apply len_N | apply len_V | apply len_VV | apply len_P | apply len_O | apply len_H)); assumption) | ((with_reducible refine stop_if kK ?_ ?_); rfl))
 go_loopg [5, 8] (l.length + 1) (fun k x i wr => ∃ j : Nat, k = l.length - j + 1 ∧ j ≤ l.length ∧ i = .int .i64 j ∧ Below w.heap.size w wr ∧ (l.take j).all opRight = true)
 case atStart => exact ⟨0, by omega, by omega, rfl, Below.refl _ _, by simp⟩
 case round =>
  obtain ⟨j, hk, hj, rfl, hb, hall⟩ := hrel
  have Hk := Lib.hid hk
  have Hall := Lib.hid hall
  clear hk hall
  have hpr := hp0.below hb (Nat.le_refl _)
  by_cases hlt : j < l.length
  ·go_wp2_with (first | ((with_reducible apply ugZ); rfl) | ((with_reducible (first | apply len_B | apply len_BB | apply len_N | apply len_V | apply len_VV | apply len_P | apply len_O | apply len_H)); assumption) | ((with_reducible refine stop_if kK ?_ ?_); rfl))
   refine Stop.go (idx_O hpr rfl (by omega) (by omega) fun b o y v hy hv c0 c1 => ?_)
   have Hy := Lib.hid hy
   clear hy
   obtain ⟨av, nv, cv, rfl⟩ := Sl.shape hv
   go_wp2_with (first | ((with_reducible apply ugZ); rfl) | ((with_reducible (first | apply len_B | apply len_BB | apply len_N | apply len_V | apply len_VV | apply len_P | apply len_O | apply len_H)); assumption) | ((with_reducible refine stop_if kK ?_ ?_); rfl))
   refine (op_clo wr _ y _ hv).mono ?_
   rintro e w2 ⟨rfl, hbn⟩
   have hb2 := below_on hb hbn hb.size
   by_cases hg : opRight y = true
   ·rw [hg]
    simp only [Bool.not_true]
    go_wp2_with (first | ((with_reducible apply ugZ); rfl) | ((with_reducible (first | apply len_B | apply len_BB | apply len_N | apply len_V | apply len_VV | apply len_P | apply len_O | apply len_H)); assumption) | ((with_reducible refine stop_if kK ?_ ?_); rfl))
    go_roundg (l.length - (j + 1) + 1)
    case measure => have := Hk.out; omega
    case rel => exact ⟨j + 1, by omega, by omega, by go_num, hb2, all_take_snoc opRight l j y (by simpa using Hy.out) Hall.out hg⟩
   ·rw [Bool.not_eq_true] at hg
    rw [hg]
    simp only [Bool.not_false]
    go_wp2_with (first | ((with_reducible apply ugZ); rfl) | ((with_reducible (first | apply len_B | apply len_BB | apply len_N | apply len_V | apply len_VV | apply len_P | apply len_O | apply len_H)); assumption) | ((with_reducible refine stop_if kK ?_ ?_); rfl))
    go_ret
    exact ⟨_, rfl, by rw [all_falsified opRight l j y (by simpa using Hy.out) hg]; simp, hb2⟩
  ·rw [List.take_of_length_le (by omega)] at Hall
   go_wp2_with (first | ((with_reducible apply ugZ); rfl) | ((with_reducible (first | apply len_B | apply len_BB | apply len_N | apply len_V | apply len_VV | apply len_P | apply len_O | apply len_H)); assumption) | ((with_reducible refine stop_if kK ?_ ?_); rfl))
   go_ret
   exact ⟨_, rfl, by rw [Hall.out]; simp, hb⟩
theorem contains_O (w : World) (S : Nat → Prop) (l : List OpR) (p : Value) (hp : Sl w S l p) :
  Calls Tryd.prog 101 #[p, .func (.func 102) #[] #[]] w fun e w' => e = .returned (.bool (!l.all opRight)) ∧ Below w.heap.size w w' := by
 go_enter Tryd.func101, Tryd.ntmps101
 go_wp2_with (first | ((with_reducible apply ugZ); rfl) | ((with_reducible (first | apply len_B | apply len_BB | apply len_N | apply len_V | apply len_VV | apply len_P | apply len_O | apply len_H)); assumption) | ((with_reducible refine stop_if kK ?_ ?_); rfl))
 refine (index_O w S l p hp).mono ?_
 rintro e w1 ⟨k, rfl, hk, hb⟩
 have Hk := Lib.hid hk
 clear hk
 go_wp2_with (first | ((with_reducible apply ugZ); rfl) | ((with_reducible (first | apply len_B | apply len_BB | apply len_N | apply len_V | apply len_VV | apply len_P | apply len_O | apply len_H)); assumption) | ((with_reducible refine stop_if kK ?_ ?_); rfl))
 go_ret
 rw [← Hk.out]
 exact ⟨rfl, hb⟩
theorem index_H (w : World) (S : Nat → Prop) (l : List HitR) (p : Value) (hp : Sl w S l p) :
  Calls Tryd.prog 115 #[p, .func (.func 104) #[] #[]] w fun e w' => ∃ k : Int, e = .returned (.int .i64 k) ∧ (decide (0 ≤ k) = !l.all hitRight) ∧ Below w.heap.size w w' := by
 have hll : l.length ≤ 9223372036854775807 := hp.length_le
 have hp0 := hp.old
 clear hp
 go_enter Tryd.func115, Tryd.ntmps115
 go_wp2_with (first | ((with_reducible apply ugZ); rfl) | ((with_reducible (first | apply len_B | apply len_BB | apply len_N | apply len_V | apply len_VV | apply len_P | apply len_O | apply len_H)); assumption) | ((with_reducible refine stop_if kK ?_ ?_); rfl))
 go_loopg [5, 8] (l.length + 1) (fun k x i wr => ∃ j : Nat, k = l.length - j + 1 ∧ j ≤ l.length ∧ i = .int .i64 j ∧ Below w.heap.size w wr ∧ (l.take j).all hitRight = true)
 case atStart => exact ⟨0, by omega, by omega, rfl, Below.refl _ _, by simp⟩
 case round =>
  obtain ⟨j, hk, hj, rfl, hb, hall⟩ := hrel
  have Hk := Lib.hid hk
  have Hall := Lib.hid hall
  clear hk hall
  have hpr := hp0.below hb (Nat.le_refl _)
  by_cases hlt : j < l.length
  ·go_wp2_with (first | ((with_reducible apply ugZ); rfl) | ((with_reducible (first | apply len_B | apply len_BB | apply len_N | apply len_V | apply len_VV | apply len_P | apply len_O | apply len_H)); assumption) | ((with_reducible refine stop_if kK ?_ ?_); rfl))
   refine Stop.go (idx_H hpr rfl (by omega) (by omega) fun b o y v hy hv c0 c1 c2 => ?_)
   have Hy := Lib.hid hy
   clear hy
   obtain ⟨av, nv, cv, rfl⟩ := Sl.shape hv
   go_wp2_with (first | ((with_reducible apply ugZ); rfl) | ((with_reducible (first | apply len_B | apply len_BB | apply len_N | apply len_V | apply len_VV | apply len_P | apply len_O | apply len_H)); assumption) | ((with_reducible refine stop_if kK ?_ ?_); rfl))
   refine (hit_clo wr _ y _ hv).mono ?_
   rintro e w2 ⟨rfl, hbn⟩
   have hb2 := below_on hb hbn hb.size
   by_cases hg : hitRight y = true
   ·rw [hg]
    simp only [Bool.not_true]
    go_wp2_with (first | ((with_reducible apply ugZ); rfl) | ((with_reducible (first | apply len_B | apply len_BB | apply len_N | apply len_V | apply len_VV | apply len_P | apply len_O | apply len_H)); assumption) | ((with_reducible refine stop_if kK ?_ ?_); rfl))
    go_roundg (l.length - (j + 1) + 1)
    case measure => have := Hk.out; omega
    case rel => exact ⟨j + 1, by omega, by omega, by go_num, hb2, all_take_snoc hitRight l j y (by simpa using Hy.out) Hall.out hg⟩
   ·rw [Bool.not_eq_true] at hg
    rw [hg]
    simp only [Bool.not_false]
    go_wp2_with (first | ((with_reducible apply ugZ); rfl) | ((with_reducible (first | apply len_B | apply len_BB | apply len_N | apply len_V | apply len_VV | apply len_P | apply len_O | apply len_H)); assumption) | ((with_reducible refine stop_if kK ?_ ?_); rfl))
    go_ret
    exact ⟨_, rfl, by rw [all_falsified hitRight l j y (by simpa using Hy.out) hg]; simp, hb2⟩
  ·rw [List.take_of_length_le (by omega)] at Hall
   go_wp2_with (first | ((with_reducible apply ugZ); rfl) | ((with_reducible (first | apply len_B | apply len_BB | apply len_N | apply len_V | apply len_VV | apply len_P | apply len_O | apply len_H)); assumption) | ((with_reducible refine stop_if kK ?_ ?_); rfl))
   go_ret
   exact ⟨_, rfl, by rw [Hall.out]; simp, hb⟩
theorem contains_H (w : World) (S : Nat → Prop) (l : List HitR) (p : Value) (hp : Sl w S l p) :
  Calls Tryd.prog 103 #[p, .func (.func 104) #[] #[]] w fun e w' => e = .returned (.bool (!l.all hitRight)) ∧ Below w.heap.size w w' := by
 go_enter Tryd.func103, Tryd.ntmps103
 go_wp2_with (first | ((with_reducible apply ugZ); rfl) | ((with_reducible (first | apply len_B | apply len_BB | apply len_N | apply len_V | apply len_VV | apply len_P | apply len_O | apply len_H)); assumption) | ((with_reducible refine stop_if kK ?_ ?_); rfl))
 refine (index_H w S l p hp).mono ?_
 rintro e w1 ⟨k, rfl, hk, hb⟩
 have Hk := Lib.hid hk
 clear hk
 go_wp2_with (first | ((with_reducible apply ugZ); rfl) | ((with_reducible (first | apply len_B | apply len_BB | apply len_N | apply len_V | apply len_VV | apply len_P | apply len_O | apply len_H)); assumption) | ((with_reducible refine stop_if kK ?_ ?_); rfl))
 go_ret
 rw [← Hk.out]
 exact ⟨rfl, hb⟩
end Go.Proofs.YtjkffjngamagkaaDoor
/- The kinds' table: package note: sorted, Name; armillaryref12: Name. -/
namespace Go.Arm
def sortTab : List (List UInt8 × Nat × List UInt8) := [([], 0, []),
 ([65, 115, 107], 4098, [98, 111]),
 ([82, 101, 112, 108, 121], 518, [98, 115, 99]),
 ([80, 114, 101, 112, 97, 114, 101], 6153, [116, 97, 112, 111]),
 ([86, 111, 116, 101], 513, [116, 99]),
 ([68, 101, 99, 105, 100, 101], 517, [116, 115, 99]),
 ([65, 99, 107], 1, [116]),
 ([80, 114, 111, 98, 101], 1, [116]),
 ([81, 117, 101, 114, 121], 8672, [113, 105, 107, 101, 118]),
 ([76, 111, 111, 107], 8692, [115, 109, 113, 105, 107, 101, 118]),
 ([83, 101, 101, 110], 16928, [113, 99, 104]),
 ([82, 101, 115, 117, 108, 116], 16932, [115, 113, 99, 104]),
 ([80, 114, 101, 112, 97, 114, 101, 100], 6153, [116, 97, 112, 111]),
 ([67, 111, 109, 109, 105, 116, 116, 101, 100], 5, [116, 115]),
 ([65, 98, 111, 114, 116, 101, 100], 1, [116]),
 ([83, 119, 101, 112, 116], 16, [109]),
 ([69, 112, 111, 99, 104], 16, [109]),
 ([67, 111, 109, 109, 105, 116], 2055, [116, 98, 115, 112]),
 ([69, 110, 100], 1, [116]),
 ([66, 101, 103, 105, 110], 7179, [116, 98, 97, 119, 112, 111]),
 ([89, 101, 115], 1025, [116, 119]),
 ([65, 99, 107, 101, 100], 1025, [116, 119]),
 ([71, 111, 110, 101], 1, [116])]
def sortAt (k : Nat) : List UInt8 × Nat × List UInt8 := sortTab[k]?.getD ([], 0, [])
def sortName (k : Nat) : List UInt8 := (sortAt k).1
def sortMask (k : Nat) : Nat := (sortAt k).2.1
def sortLets (k : Nat) : List UInt8 := (sortAt k).2.2
theorem sortAt_far (k : Nat) (h : 23 ≤ k) : sortAt k = ([], 0, []) := by
 unfold sortAt
 rw [List.getElem?_eq_none (by show sortTab.length ≤ k; exact h)]; rfl
end Go.Arm
namespace Go.Proofs.YtjkffjngamagkaaDoor
open Go Go.RowKit Go.Arm
def Srt (w : World) : Prop := ∀ k, k < 23 → w.cell? ⟨0, k * 2, none⟩ = some (.string ⟨(sortName k).toArray⟩) ∧ w.cell? ⟨0, k * 2 + 1, none⟩ = some (.int .i64 (sortMask k : Int))
theorem Srt.lt {w : World} (h : Srt w) : 0 < w.heap.size := World.block_lt_of_cell? w _ (h 0 (by decide)).1
theorem Srt.below {w w' : World} (h : Srt w) {B : Nat} (hb : Below B w w') (hB : w.heap.size ≤ B) : Srt w' := fun k hk => by
 have hlt := h.lt
 have e := hb.block _ (Nat.lt_of_lt_of_le hlt hB)
 exact ⟨(cell?_same (w := w) e).trans (h k hk).1, (cell?_same (w := w) e).trans (h k hk).2⟩
section
variable {ops : Array Oper} {Q : Exit → Act → World → Prop} {a : Act} {w : World} {rest : List Oper}
variable {dst : Option Tmp} {ty : TypeId} {pos : String} {after : Array Edge}
def kT (o : Op) : Bool := kK o || match o with
 | .indexAddr t _ _ => t == 126
 | _ => false
set_option maxRecDepth 100000 in
theorem idx_sort {Q : Exit → Act → World → Prop} {i : Operand} (hN : Srt w) {k : Nat} (hi : a.eval i = .int .u8 (k : Int)) (hk : k < 23)
  (h : w.cell? ⟨0, k * 2, none⟩ = some (.string ⟨(sortName k).toArray⟩) → w.cell? ⟨0, k * 2 + 1, none⟩ = some (.int .i64 (sortMask k : Int)) → wpList Tryd.prog ops Q rest (a.put dst (.pointer (some ⟨0, k * 2, none⟩))) w) :
  wpList Tryd.prog ops Q (⟨dst, .indexAddr 126 (.global 0) i, ty, pos, after, none⟩ :: rest) a w := by
 refine wpList_plain rfl fun K hK => ?_
 have hrun : (Instr.indexAt 126 (.pointer (some ⟨0, 0, none⟩)) (.int .u8 (k : Int))).run Tryd.prog w = .ok (.pointer (some ⟨0, k * 2, none⟩)) w := by
  rw [run_indexAt_array (P := Tryd.prog) w 126 ⟨0, 0, none⟩ .u8 k (by kernel_rfl), if_pos ⟨by omega, by show (k : Int) < ((23 : Nat) : Int); omega⟩]
  simp [go_sem]
 unfold Oper.wp
 simp only [execOp, hi, BigFrame.eval_global, Sem.run_bind, hrun, Result.andThen_ok, Sem.run_pure]
 exact hK _ _ (h (hN k hk).1 (hN k hk).2)
end
abbrev sortV (k : Nat) : Value := .agg #[.string ⟨(sortName k).toArray⟩, .int .i64 (sortMask k : Int)]
set_option maxRecDepth 100000 in
theorem sorted_any (w : World) (k : Nat) (hN : Srt w) (hk : k < 256) :
  Calls Tryd.prog 68 #[.int .u8 k] w fun e w' => e = .returned (sortV k) ∧ Below w.heap.size w w' := by
 have hal := (Below.refl w.heap.size w).alloc (Nat.le_refl _) (.cells #[.string ⟨#[]⟩, .int .i64 0] 125)
 have hNx := hN.below hal (Nat.le_refl _)
 obtain ⟨nm, hnm⟩ : ∃ nm : ByteArray, nm = ⟨(sortName k).toArray⟩ := ⟨_, rfl⟩
 obtain ⟨mk, hmk⟩ : ∃ mk, mk = sortMask k := ⟨_, rfl⟩
 unfold sortV
 rw [← hnm, ← hmk]
 have Hn := Lib.hid hnm
 have Hm := Lib.hid hmk
 clear hnm hmk
 by_cases h : k < 23
 ·go_enter Tryd.func68, Tryd.ntmps68
  go_wp2_with (first | ((with_reducible apply ugZ); rfl) | ((with_reducible (first | apply len_B | apply len_BB | apply len_N | apply len_V | apply len_VV | apply len_P | apply len_O | apply len_H)); assumption) | ((with_reducible refine stop_if kT ?_ ?_); rfl))
  refine Stop.go (idx_sort hNx rfl h fun c0 c1 => ?_)
  rw [← Hn.out] at c0
  rw [← Hm.out] at c1
  go_wp2_with (first | ((with_reducible apply ugZ); rfl) | ((with_reducible (first | apply len_B | apply len_BB | apply len_N | apply len_V | apply len_VV | apply len_P | apply len_O | apply len_H)); assumption) | ((with_reducible refine stop_if kT ?_ ?_); rfl))
  have hw2 := Below.refl w.heap.size w
  refine bodyPost_ret (results_cell_row rfl _ _ w.heap.size _ _ _ _ rfl (heap_alloc_new w _) Tryd.underlying125 rfl (by kernel_rfl)) rfl ?_
  exact ⟨rfl, hw2.alloc (Nat.le_refl _) _⟩
 ·have e : sortAt k = ([], 0, []) := sortAt_far k (by omega)
  have e1 : nm = ⟨#[]⟩ := by rw [Hn.out, sortName, e]
  have e2 : mk = 0 := by rw [Hm.out, sortMask, e]
  subst e1
  subst e2
  go_enter Tryd.func68, Tryd.ntmps68
  go_wp2_with (first | ((with_reducible apply ugZ); rfl) | ((with_reducible (first | apply len_B | apply len_BB | apply len_N | apply len_V | apply len_VV | apply len_P | apply len_O | apply len_H)); assumption) | ((with_reducible refine stop_if kT ?_ ?_); rfl))
  refine bodyPost_ret (results_cell_row rfl _ _ w.heap.size _ _ _ _ rfl (heap_alloc_new w _) Tryd.underlying125 rfl (by kernel_rfl)) rfl ?_
  exact ⟨rfl, hal⟩
theorem sort_field1 (nm : ByteArray) (m : Nat) : ∀ w : World, (Instr.field 125 (.agg #[.string nm, .int .i64 (m : Int)]) 1).run Tryd.prog w = .ok (.int .i64 (m : Int)) w := fun _ => by kernel_rfl
set_option maxRecDepth 100000 in
theorem rname_any (w : World) (k : Nat) (hk : k < 256) :
  Calls Tryd.prog 50 #[.int .u8 k] w fun e w' => e = .returned (.tuple #[.string ⟨(sortName k).toArray⟩, .string ⟨(sortLets k).toArray⟩]) ∧ w = w' := by
 by_cases h : 1 ≤ k ∧ k < 23
 ·obtain ⟨h1, h2⟩ := h
  rcases (show k = 1 ∨ k = 2 ∨ k = 3 ∨ k = 4 ∨ k = 5 ∨ k = 6 ∨ k = 7 ∨ k = 8 ∨ k = 9 ∨ k = 10 ∨ k = 11 ∨ k = 12 ∨ k = 13 ∨ k = 14 ∨ k = 15 ∨ k = 16 ∨ k = 17 ∨ k = 18 ∨ k = 19 ∨ k = 20 ∨ k = 21 ∨ k = 22 by omega) with rfl | rfl | rfl | rfl | rfl | rfl | rfl | rfl | rfl | rfl | rfl | rfl | rfl | rfl | rfl | rfl | rfl | rfl | rfl | rfl | rfl | rfl
  all_goals
   go_enter Tryd.func50, Tryd.ntmps50
   go_wp2_with (first | ((with_reducible apply ugZ); rfl) | ((with_reducible (first | apply len_B | apply len_BB | apply len_N | apply len_V | apply len_VV | apply len_P | apply len_O | apply len_H)); assumption) | ((with_reducible refine stop_if kT ?_ ?_); rfl))
   go_ret2
   exact ⟨rfl, rfl⟩
 ·have e1 : sortName k = [] := by
   by_cases h0 : k = 0
   ·subst h0; rfl
   ·rw [sortName, sortAt_far k (by omega)]
  have e2 : sortLets k = [] := by
   by_cases h0 : k = 0
   ·subst h0; rfl
   ·rw [sortLets, sortAt_far k (by omega)]
  rw [e1, e2]
  have n1 : ((k : Int) == 1) = false := beq_eq_false_iff_ne.2 (by omega)
  have n2 : ((k : Int) == 2) = false := beq_eq_false_iff_ne.2 (by omega)
  have n3 : ((k : Int) == 3) = false := beq_eq_false_iff_ne.2 (by omega)
  have n4 : ((k : Int) == 4) = false := beq_eq_false_iff_ne.2 (by omega)
  have n5 : ((k : Int) == 5) = false := beq_eq_false_iff_ne.2 (by omega)
  have n6 : ((k : Int) == 6) = false := beq_eq_false_iff_ne.2 (by omega)
  have n7 : ((k : Int) == 7) = false := beq_eq_false_iff_ne.2 (by omega)
  have n8 : ((k : Int) == 8) = false := beq_eq_false_iff_ne.2 (by omega)
  have n9 : ((k : Int) == 9) = false := beq_eq_false_iff_ne.2 (by omega)
  have n10 : ((k : Int) == 10) = false := beq_eq_false_iff_ne.2 (by omega)
  have n11 : ((k : Int) == 11) = false := beq_eq_false_iff_ne.2 (by omega)
  have n12 : ((k : Int) == 12) = false := beq_eq_false_iff_ne.2 (by omega)
  have n13 : ((k : Int) == 13) = false := beq_eq_false_iff_ne.2 (by omega)
  have n14 : ((k : Int) == 14) = false := beq_eq_false_iff_ne.2 (by omega)
  have n15 : ((k : Int) == 15) = false := beq_eq_false_iff_ne.2 (by omega)
  have n16 : ((k : Int) == 16) = false := beq_eq_false_iff_ne.2 (by omega)
  have n17 : ((k : Int) == 17) = false := beq_eq_false_iff_ne.2 (by omega)
  have n18 : ((k : Int) == 18) = false := beq_eq_false_iff_ne.2 (by omega)
  have n19 : ((k : Int) == 19) = false := beq_eq_false_iff_ne.2 (by omega)
  have n20 : ((k : Int) == 20) = false := beq_eq_false_iff_ne.2 (by omega)
  have n21 : ((k : Int) == 21) = false := beq_eq_false_iff_ne.2 (by omega)
  have n22 : ((k : Int) == 22) = false := beq_eq_false_iff_ne.2 (by omega)
  go_enter Tryd.func50, Tryd.ntmps50
  go_wp2_with (first | ((with_reducible apply ugZ); rfl) | ((with_reducible (first | apply len_B | apply len_BB | apply len_N | apply len_V | apply len_VV | apply len_P | apply len_O | apply len_H)); assumption) | ((with_reducible refine stop_if kT ?_ ?_); rfl))
  go_ret2
  exact ⟨rfl, rfl⟩
end Go.Proofs.YtjkffjngamagkaaDoor
/- package note: held. -/
namespace Go.Arm
open Go.RowKit
def noteV (n : NoteR) (vp vo vv vh : Value) : Value :=
 .agg #[.int .u8 (n.kind.toNat : Int), .int .u64 (n.txn.toNat : Int), .int .u64 (n.batch.toNat : Int), .int .u64 (n.stamp.toNat : Int), .int .u64 (n.after.toNat : Int), .int .u64 (n.mark.toNat : Int), .int .u64 (n.query.toNat : Int), .int .u64 (n.id.toNat : Int), .int .i64 n.k, .int .i64 n.ef, .int .i64 n.code, .int .i64 n.who, vp, vo, vv, vh]
def Nt (w : World) (S : Nat → Prop) (n : NoteR) (V : Value) : Prop :=
 ∃ vp vo vv vh, V = noteV n vp vo vv vh ∧ Sl w S n.parts vp ∧ Sl w S n.ops vo ∧ Sl w S n.vec vv ∧ Sl w S n.hits vh ∧ I64 n.k ∧ I64 n.ef ∧ I64 n.code ∧ I64 n.who
theorem Nt.keep {w w' : World} {S S' : Nat → Prop} {n : NoteR} {V : Value} (h : Nt w S n V) (hk : ∀ b, S b → b < w.heap.size → w'.heap[b]? = w.heap[b]? ∧ S' b) : Nt w' S' n V := by
 obtain ⟨vp, vo, vv, vh, h0, h1, h2, h3, h4, h5⟩ := h
 exact ⟨vp, vo, vv, vh, h0, h1.keep hk, h2.keep hk, h3.keep hk, h4.keep hk, h5⟩
theorem Nt.below {w w' : World} {S : Nat → Prop} {n : NoteR} {V : Value} (h : Nt w S n V) {B : Nat} (hb : Below B w w') (hB : w.heap.size ≤ B) : Nt w' S n V :=
 h.keep fun b hS hlt => ⟨hb.block b (by omega), hS⟩
theorem Nt.old {w : World} {S : Nat → Prop} {n : NoteR} {V : Value} (h : Nt w S n V) : Nt w (· < w.heap.size) n V := h.keep fun _ _ hlt => ⟨rfl, hlt⟩
def heldBits (n : NoteR) : List Bool :=
 [decide (0 < n.txn.toNat), decide (0 < n.batch.toNat), decide (0 < n.stamp.toNat), decide (0 < n.after.toNat), decide (0 < n.mark.toNat), decide (0 < n.query.toNat), decide (0 < n.id.toNat),
 n.k != 0, n.ef != 0, n.code != 0, n.who != 0, decide (0 < n.parts.length), decide (0 < n.ops.length), decide (0 < n.vec.length), decide (0 < n.hits.length)]
def maskOf : List Bool → Nat
 | [] => 0
 | b :: l => (if b then 1 else 0) + 2 * maskOf l
end Go.Arm
namespace Go.Proofs.YtjkffjngamagkaaDoor
open Go Go.RowKit Go.Arm
theorem idx_bits (bs : List Bool) (h : bs.length = 15) (j : Nat) (b : Bool) (hb : bs[j]? = some b) : ∀ w : World, (Instr.index 190 (.agg (bs.map Value.bool).toArray) (.int .i64 (j : Int))).run Tryd.prog w = .ok (.bool b) w := by
 intro w
 have hj : j < 15 := by have := (List.getElem?_eq_some_iff.1 hb).1; omega
 match bs, h with
 | [b0, b1, b2, b3, b4, b5, b6, b7, b8, b9, b10, b11, b12, b13, b14], _ =>
  rcases (show j = 0 ∨ j = 1 ∨ j = 2 ∨ j = 3 ∨ j = 4 ∨ j = 5 ∨ j = 6 ∨ j = 7 ∨ j = 8 ∨ j = 9 ∨ j = 10 ∨ j = 11 ∨ j = 12 ∨ j = 13 ∨ j = 14 by omega) with rfl | rfl | rfl | rfl | rfl | rfl | rfl | rfl | rfl | rfl | rfl | rfl | rfl | rfl | rfl
  all_goals
   simp at hb
   subst hb
   refine Eq.trans ?_ rfl
   kernel_rfl
theorem maskOf_take : ∀ (l : List Bool) (j : Nat) (b : Bool), l[j]? = some b → maskOf (l.take (j + 1)) = maskOf (l.take j) + (if b then 2 ^ j else 0)
 | [], j, b, h => by simp at h
 | x :: l, 0, b, h => by simp at h; subst h; simp [maskOf]
 | x :: l, j + 1, b, h => by
  have ih := maskOf_take l j b (by simpa using h)
  rw [List.take_succ_cons, List.take_succ_cons, maskOf, maskOf, ih, Nat.pow_succ]
  cases b <;> simp <;> omega
theorem maskOf_lt : ∀ (l : List Bool), maskOf l < 2 ^ l.length
 | [] => by simp [maskOf]
 | x :: l => by
  have ih := maskOf_lt l
  rw [maskOf, List.length_cons, Nat.pow_succ]
  split <;> omega
theorem i64_bits (a b : Nat) (ha : a < 9223372036854775808) (hb : b < 9223372036854775808) : bits .or .i64 (a : Int) (b : Int) = ((a ||| b : Nat) : Int) ∧ bits .and .i64 (a : Int) (b : Int) = ((a &&& b : Nat) : Int) := by
 have hw : ∀ n : Nat, n < 9223372036854775808 → IntKind.i64.wrap (n : Int) = n := by
  intro n hn
  simp [IntKind.wrap, IntKind.signed, IntKind.bits]
  omega
 refine ⟨?_, ?_⟩ <;> unfold bits <;> simp only [BitVec.ofInt_natCast]
 ·rw [BitVec.toNat_or, BitVec.toNat_ofNat, BitVec.toNat_ofNat, Nat.mod_eq_of_lt (show a < 2 ^ IntKind.i64.bits by show a < 18446744073709551616; omega), Nat.mod_eq_of_lt (show b < 2 ^ IntKind.i64.bits by show b < 18446744073709551616; omega)]
  exact hw _ (Nat.or_lt_two_pow (n := 63) ha hb)
 ·rw [BitVec.toNat_and, BitVec.toNat_ofNat, BitVec.toNat_ofNat, Nat.mod_eq_of_lt (show a < 2 ^ IntKind.i64.bits by show a < 18446744073709551616; omega), Nat.mod_eq_of_lt (show b < 2 ^ IntKind.i64.bits by show b < 18446744073709551616; omega)]
  exact hw _ (Nat.and_lt_two_pow (n := 63) _ hb)
theorem or_bit (a j : Nat) (ha : a < 2 ^ j) (hj : j < 20) : bits .or .i64 (a : Int) (wrap64 (2 ^ j)) = ((a + 2 ^ j : Nat) : Int) := by
 have hp : 2 ^ j ≤ 2 ^ 19 := Nat.pow_le_pow_right (by decide) (by omega)
 have hw : wrap64 ((2 : Int) ^ j) = ((2 ^ j : Nat) : Int) := by
  have e : (2 : Int) ^ j = ((2 ^ j : Nat) : Int) := by push_cast; rfl
  rw [e]
  generalize 2 ^ j = m at *
  unfold wrap64
  omega
 rw [hw, (i64_bits a (2 ^ j) (by omega) (by omega)).1, Nat.or_comm]
 have h := Nat.two_pow_add_eq_or_of_lt ha 1
 rw [Nat.mul_one] at h
 rw [← h, Nat.add_comm]
set_option maxRecDepth 100000 in
theorem held_any (w : World) (S : Nat → Prop) (n : NoteR) (V : Value) (hV : Nt w S n V) :
  Calls Tryd.prog 69 #[V] w fun e w' => e = .returned (.int .i64 (maskOf (heldBits n) : Int)) ∧ Below w.heap.size w w' := by
 have hV0 := hV.old
 obtain ⟨BS, hBS⟩ : ∃ BS, BS = heldBits n := ⟨_, rfl⟩
 rw [← hBS]
 have HBS := Lib.hid hBS
 clear hBS
 obtain ⟨vp, vo, vv, vh, rfl, h1, h2, h3, h4, _⟩ := hV0
 unfold noteV
 obtain ⟨ap, np, cp, rfl⟩ := Sl.shape h1
 obtain ⟨ao, no, co, rfl⟩ := Sl.shape h2
 obtain ⟨av, nv, cv, rfl⟩ := Sl.shape h3
 obtain ⟨ah, nh, ch, rfl⟩ := Sl.shape h4
 have hal := (Below.refl w.heap.size w).alloc (Nat.le_refl _) (.cells #[.int .u8 (n.kind.toNat : Int), .int .u64 (n.txn.toNat : Int), .int .u64 (n.batch.toNat : Int), .int .u64 (n.stamp.toNat : Int), .int .u64 (n.after.toNat : Int), .int .u64 (n.mark.toNat : Int), .int .u64 (n.query.toNat : Int), .int .u64 (n.id.toNat : Int), .int .i64 n.k, .int .i64 n.ef, .int .i64 n.code, .int .i64 n.who, .slice ap np cp, .slice ao no co, .slice av nv cv, .slice ah nh ch] 33)
 have g1 := h1.below hal (Nat.le_refl _)
 have g2 := h2.below hal (Nat.le_refl _)
 have g3 := h3.below hal (Nat.le_refl _)
 have g4 := h4.below hal (Nat.le_refl _)
 go_enter Tryd.func69, Tryd.ntmps69
 go_wp2_with (first | ((with_reducible apply ugZ); rfl) | ((with_reducible (first | apply len_B | apply len_BB | apply len_N | apply len_V | apply len_VV | apply len_P | apply len_O | apply len_H)); assumption) | ((with_reducible refine stop_if kT ?_ ?_); rfl))
 have hlen : BS.length = 15 := by rw [HBS.out]; rfl
 obtain ⟨ARR, hARR⟩ : ∃ ARR : Value, ARR = .agg (BS.map Value.bool).toArray := ⟨_, rfl⟩
 have hA2 : ARR = .agg #[.bool (decide (0 < n.txn.toNat)), .bool (decide (0 < n.batch.toNat)), .bool (decide (0 < n.stamp.toNat)), .bool (decide (0 < n.after.toNat)), .bool (decide (0 < n.mark.toNat)), .bool (decide (0 < n.query.toNat)), .bool (decide (0 < n.id.toNat)), .bool (n.k != 0), .bool (n.ef != 0), .bool (n.code != 0), .bool (n.who != 0), .bool (decide (0 < n.parts.length)), .bool (decide (0 < n.ops.length)), .bool (decide (0 < n.vec.length)), .bool (decide (0 < n.hits.length))] := by
  rw [hARR, HBS.out]; rfl
 rw [← hA2]
 have HARR := Lib.hid hARR
 clear hA2 hARR g1 g2 g3 g4 h1 h2 h3 h4 hV
 generalize w.alloc (.cells #[.int .u8 (n.kind.toNat : Int), .int .u64 (n.txn.toNat : Int), .int .u64 (n.batch.toNat : Int), .int .u64 (n.stamp.toNat : Int), .int .u64 (n.after.toNat : Int), .int .u64 (n.mark.toNat : Int), .int .u64 (n.query.toNat : Int), .int .u64 (n.id.toNat : Int), .int .i64 n.k, .int .i64 n.ef, .int .i64 n.code, .int .i64 n.who, .slice ap np cp, .slice ao no co, .slice av nv cv, .slice ah nh ch] 33) = w1 at *
 go_loop [3, 4, 5, 56] (fun o x y i => ∃ j : Nat, j ≤ 15 ∧ i = .int .i64 j ∧ o = .int .i64 (maskOf (BS.take j) : Int)) (fun _ _ _ i => 15 - (intOf i).toNat)
 case atStart => exact ⟨0, by omega, rfl, by simp [maskOf]⟩
 case round =>
  obtain ⟨j, hj, rfl, rfl⟩ := hrel
  by_cases hlt : j < 15
  ·obtain ⟨b, hb⟩ : ∃ b, BS[j]? = some b := ⟨_, List.getElem?_eq_getElem (by omega)⟩
   have hrun := idx_bits BS hlen j b hb
   rw [← HARR.out] at hrun
   have hmt := maskOf_take BS j b hb
   have hml := maskOf_lt (BS.take j)
   rw [List.length_take, Nat.min_eq_left (by omega)] at hml
   have Hmt := Lib.hid hmt
   have Hml := Lib.hid hml
   clear hb hmt hml
   cases b
   ·go_wp2_with (first | ((with_reducible apply ugZ); rfl) | ((with_reducible (first | apply len_B | apply len_BB | apply len_N | apply len_V | apply len_VV | apply len_P | apply len_O | apply len_H)); assumption) | ((with_reducible refine stop_if kT ?_ ?_); rfl))
    exact ⟨⟨j + 1, by omega, by go_num, by rw [Hmt.out]; rfl⟩, by simp [intOf]; omega⟩
   ·go_wp2_with (first | ((with_reducible apply ugZ); rfl) | ((with_reducible (first | apply len_B | apply len_BB | apply len_N | apply len_V | apply len_VV | apply len_P | apply len_O | apply len_H)); assumption) | ((with_reducible refine stop_if kT ?_ ?_); rfl))
    have hor := or_bit (maskOf (BS.take j)) j Hml.out (by omega)
    exact ⟨⟨j + 1, by omega, by go_num, by rw [Hmt.out, if_pos rfl, hor]⟩, by simp [intOf]; omega⟩
  ·obtain rfl : j = 15 := by omega
   rw [List.take_of_length_le (by omega)]
   go_wp2_with (first | ((with_reducible apply ugZ); rfl) | ((with_reducible (first | apply len_B | apply len_BB | apply len_N | apply len_V | apply len_VV | apply len_P | apply len_O | apply len_H)); assumption) | ((with_reducible refine stop_if kT ?_ ?_); rfl))
   go_ret
   exact ⟨rfl, hal⟩
end Go.Proofs.YtjkffjngamagkaaDoor
