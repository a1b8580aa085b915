/- PackF: several texts in one. -/
import Derived.Test.YtjkffjngamagkaaDoorPackA
import Derived.Test.YtjkffjngamagkaaDoorNoteBox
import Derived.Test.YtjkffjngamagkaaDoorPackD
import Derived.Test.YtjkffjngamagkaaDoorPackE
import Derived.Deep.RegionHeld3
/- Rows of the call's own whose elements lie in blocks of the call's own; append of a slice to such a row; numbers to numbers. -/
namespace Go.Arm
open Go.RowKit
def OwnG {α : Type} [Rep α] (w : World) (B : Nat) (e : TypeId) (l : List α) (v : Value) : Prop := Own w B e (fun b => B ≤ b ∧ b < w.heap.size ∧ v.ownBlock ≠ some b) l v
theorem OwnG.nil {α : Type} [Rep α] (w : World) (B : Nat) (e : TypeId) : OwnG w B e ([] : List α) (.slice none 0 0) := Own.nil _ _ _ _
theorem OwnG.ge {α : Type} [Rep α] {w : World} {B : Nat} {e : TypeId} {l : List α} {v : Value} (h : OwnG w B e l v) : ∀ b, v.ownBlock = some b → B ≤ b ∧ b < w.heap.size := Own.ge h
theorem OwnG.below {α : Type} [Rep α] {w w' : World} {B : Nat} {e : TypeId} {l : List α} {v : Value} (h : OwnG w B e l v) {C : Nat} (hb : Below C w w') (hC : w.heap.size ≤ C) : OwnG w' B e l v :=
 Own.keep h (fun b hb' hlt => ⟨hb.block b (by omega), hb'.1, by have := hb.size; omega, hb'.2.2⟩) fun b hv => hb.block b (by have := h.ge b hv; omega)
theorem OwnG.grown0 {α : Type} [Rep α] {w w' : World} {B : Nat} {e : TypeId} {l : List α} {v : Value} (h : OwnG w B e l v) (hg : w.grownBy w' none) : OwnG w' B e l v :=
 h.below (below_of_grown hg (Nat.le_refl _) (by simp)) (Nat.le_refl _)
theorem OwnG.sl {α : Type} [Rep α] {w : World} {B : Nat} {e : TypeId} {l : List α} {v : Value} (h : OwnG w B e l v) : Sl w (fun b => B ≤ b ∧ b < w.heap.size) l v :=
 Own.sl h (fun _ h _ => ⟨h.1, h.2.1⟩) fun b hb => h.ge b hb
theorem wpList_appendG {P : Program} {ops : Array Oper} {Q : Exit → Act → World → Prop} {a : Act} {w : World} {rest : List Oper} {dst : Option Tmp} {ty : TypeId} {pos : String} {after : Array Edge}
  {α : Type} [Rep α] {s x : Operand} {t e : TypeId} {z : Value} {bytes : Nat} {B : Nat} {S' : Nat → Prop} {l m : List α} (hr : Row P t e z (Rep.sz α) bytes) (hz : z.cells.size = Rep.sz α) (hsz : 0 < Rep.sz α)
  (hs : OwnG w B e l (a.eval s)) (hx : Sl w S' m (a.eval x)) (hS : ∀ b, S' b → b < w.heap.size → B ≤ b ∧ (a.eval s).ownBlock ≠ some b)
  (h63 : l.length + m.length ≤ maxLen) (hbytes : (l.length + m.length) * bytes ≤ 140737488355328) (hB : B ≤ w.heap.size)
  (h : ∀ v' w', OwnG w' B e (l ++ m) v' → w.grownBy w' (a.eval s).ownBlock → (v'.ownBlock = (a.eval s).ownBlock ∨ ∃ g, v'.ownBlock = some g ∧ w.heap.size ≤ g) → wpList P ops Q rest (a.put dst v') w') :
  wpList P ops Q (⟨dst, .call ⟨.builtin .append, #[s, x], #[t, t]⟩, ty, pos, after, none⟩ :: rest) a w := by
 refine wpList_append hr hz hsz hs hx (fun y cs hy => rds_keep hy fun b hb hlt => ⟨rfl, (hS b hb hlt).1, hlt, (hS b hb hlt).2⟩) (fun b hb _ => hb.2.2) h63 hbytes hB fun v' w' h1 h2 h3 => ?_
 refine h v' w' ?_ h2 h3
 refine Own.keep h1 (fun b hb hlt => ⟨rfl, hb.1, hlt, ?_⟩) fun b _ => rfl
 rcases h3 with h3 | ⟨g, h3, h4⟩
 ·rw [h3]; exact hb.2.2
 ·rw [h3]; intro e; have := hb.2.1; cases e; omega
end Go.Arm
namespace Go.Proofs.YtjkffjngamagkaaDoor
open Go Go.RowKit Go.Arm
end Go.Proofs.YtjkffjngamagkaaDoor
/- slices.Equal, slices.EqualFunc at the notes' types, and note.Same's own functions. -/
namespace Go.Arm
open Go.RowKit
deriving instance DecidableEq for OpR
deriving instance DecidableEq for HitR
deriving instance DecidableEq for NoteR
theorem same_takeG {α : Type} (l m : List α) (j : Nat) (hl : l.length = m.length) (hj : l.length ≤ j) (h : l.take j = m.take j) : l = m := by
 rw [List.take_of_length_le hj, List.take_of_length_le (by omega)] at h
 exact h
theorem take_snocG {α : Type} (l : List α) (j : Nat) (y : α) (h : l[j]? = some y) : l.take (j + 1) = l.take j ++ [y] := by
 obtain ⟨h1, rfl⟩ := List.getElem?_eq_some_iff.1 h
 exact List.take_succ_eq_append_getElem h1
end Go.Arm
namespace Go.Proofs.YtjkffjngamagkaaDoor
open Go Go.RowKit Go.Arm
end Go.Proofs.YtjkffjngamagkaaDoor
/- armillaryref03: SameOps, SameHits; the reference's note in a block of its own. -/
namespace Go.Arm
open Go.RowKit
theorem Sl.index_runR {α : Type} [Rep α] {P : Program} {w : World} {t e : TypeId} {z : Value} {bytes : Nat} {S : Nat → Prop} {l : List α} {v : Value} (hx : Sl w S l v) (hr : Row P t e z (Rep.sz α) bytes) (hsz : 0 < Rep.sz α)
  (k : IntKind) (n : Int) (h0 : 0 ≤ n) (hn : n < l.length) :
  ∃ b o y cs, l[n.toNat]? = some y ∧ Rep.rd w S y cs ∧ (∀ w', (Instr.indexAt t v (.int k n)).run P w' = .ok (.pointer (some ⟨b, o, none⟩)) w') ∧ ∀ j u, cs[j]? = some u → w.cell? ⟨b, o + j, none⟩ = some u := by
 obtain ⟨ao, cap, cs, rfl, _, _, hnone, hcs, _, hloc⟩ := hx
 have hlt : n.toNat < l.length := by omega
 obtain ⟨y, hy⟩ : ∃ y, l[n.toNat]? = some y := ⟨_, List.getElem?_eq_getElem hlt⟩
 obtain ⟨c, hc1, hc2⟩ := rds_get n.toNat hcs hy
 have hlen := Rep.len hc1
 obtain ⟨u0, hu0⟩ : ∃ u, c[0]? = some u := ⟨_, List.getElem?_eq_getElem (by omega)⟩
 cases ao with
 | none => have := hnone rfl; omega
 | some ad =>
  have f0 := hloc ad rfl _ _ (hc2 0 _ hu0)
  have hspot : ∃ b o, ad.add (n.toNat * Rep.sz α) = ⟨b, o, none⟩ := by
   rw [Nat.add_zero] at f0
   generalize ad.add (n.toNat * Rep.sz α) = q at f0
   obtain ⟨b, o, sp⟩ := q
   cases sp with
   | none => exact ⟨b, o, rfl⟩
   | some s =>
    exfalso
    unfold World.cell? at f0
    split at f0 <;> simp at f0
  obtain ⟨b, o, hq⟩ := hspot
  have he : P.elem t = e := by simp [Program.elem, hr.1]
  refine ⟨b, o, y, c, hy, hc1, fun w' => ?_, fun j u hu => ?_⟩
  ·have hrun := run_indexAt_slice (P := P) w' t ad l.length cap k n (by rw [he]; exact hr.1)
   rw [if_pos ⟨h0, hn⟩, he, run_sizeOf_row hr] at hrun
   simp only [Result.andThen, hq] at hrun
   exact hrun
  ·have := hloc ad rfl _ _ (hc2 j u hu)
   rwa [← add_add2, hq, add_lit] at this
end Go.Arm
namespace Go.Proofs.YtjkffjngamagkaaDoor
open Go Go.RowKit Go.Arm
theorem quiet_vec {w : World} {n : Nat} {S S' : Nat → Prop} {l m : List Int32} {p q : Value} (hp : Sl (w.drewN n) S l p) (hq : Sl (w.drewN n) S' m q) :
  Calls Tryd.prog 54 #[p, q] (w.drewN n) fun e w'' => e = .returned (.bool (l == m)) ∧ ∃ k, w'' = w.drewN k :=
 (samevec_any _ _ _ _ _ _ _ hp hq).mono fun _ _ ⟨nq, he, hw⟩ => ⟨he, n + nq, by rw [hw, drewN_twice]⟩
theorem quiet_vecB {w : World} {n : Nat} {S S' : Nat → Prop} {l m : List Int32} {p q : Value} {b : Bool} (hb : (l == m) = b) (hp : Sl (w.drewN n) S l p) (hq : Sl (w.drewN n) S' m q) :
  Calls Tryd.prog 54 #[p, q] (w.drewN n) fun e w'' => e = .returned (.bool b) ∧ ∃ k, w'' = w.drewN k := hb ▸ quiet_vec hp hq
set_option maxHeartbeats 4000000 in
set_option maxRecDepth 100000 in
theorem rsameO_any (w : World) (S S' : Nat → Prop) (l m : List OpR) (p q : Value) (hp : Sl w S l p) (hq : Sl w S' m q) :
  Calls Tryd.prog 53 #[p, q] w fun e w' => ∃ nq, e = .returned (.bool (l == m)) ∧ w' = w.drewN nq := by
 have hll : l.length ≤ 9223372036854775807 := hp.length_le
 by_cases hlen : l.length = m.length
 ·obtain ⟨R, hR⟩ : ∃ R, R = (l == m) := ⟨_, rfl⟩
  rw [← hR]
  have HR := Lib.hid hR
  clear hR
  have hne : ((l.length : Int) != (m.length : Int)) = false := by simp [hlen]
  have Hlen := Lib.hid hlen
  clear hlen
  go_enter Tryd.func53, Tryd.ntmps53
  go_wp2_with (first | ((with_reducible apply ugZ); rfl) | ((with_reducible (first | apply len_B | apply len_BB | apply len_N | apply len_V | apply len_VV | apply len_P | apply len_O | apply len_H)); assumption) | ((with_reducible refine stop_if kK ?_ ?_); rfl))
  go_loopg [5, 13] (l.length + 1) (fun k x i wr => ∃ (j n : Nat), k = l.length - j + 1 ∧ j ≤ l.length ∧ i = .int .i64 j ∧ wr = w.drewN n ∧ l.take j = m.take j)
  case atStart => exact ⟨0, 0, by omega, by omega, rfl, rfl, by simp⟩
  case round =>
   obtain ⟨j, n, hk, hj, rfl, hwr, htk⟩ := hrel
   have hp' : Sl wr S l p := by rw [hwr]; exact hp.drewN n
   have hq' : Sl wr S' m q := by rw [hwr]; exact hq.drewN n
   have Hwr := Lib.hid hwr
   clear hwr
   have Hk := Lib.hid hk
   have Htk := Lib.hid htk
   clear hk htk
   by_cases hlt : j < l.length
   ·have hjm : j < m.length := by rw [← Hlen.out]; exact hlt
    obtain ⟨b1, o1, x, cx, hx, hrx, runx, hcx⟩ := hp'.index_runR (P := Tryd.prog) rowO (by decide) .i64 j (by omega) (by omega)
    obtain ⟨b2, o2, y, cy, hy, hry, runy, hcy⟩ := hq'.index_runR (P := Tryd.prog) rowO (by decide) .i64 j (by omega) (by omega)
    obtain ⟨xv, rfl, svx⟩ := hrx
    have x0 := hcx 0 _ rfl
    have x1 := hcx 1 _ rfl
    obtain ⟨xa, xn, xc, rfl⟩ := Sl.shape svx
    clear hcx
    simp only [Nat.add_zero] at x0
    obtain ⟨yv, rfl, svy⟩ := hry
    have y0 := hcy 0 _ rfl
    have y1 := hcy 1 _ rfl
    obtain ⟨ya, yn, yc, rfl⟩ := Sl.shape svy
    clear hcy
    simp only [Nat.add_zero] at y0
    have Hx := Lib.hid hx
    have Hy := Lib.hid hy
    clear hx hy
    by_cases qid : x.id = y.id
    ·have qidb : (((x.id.toNat : Nat) : Int) != ((y.id.toNat : Nat) : Int)) = false := by rw [qid]; simp
     have Qid := Lib.hid qid
     clear qid
     by_cases qv : x.vec = y.vec
     ·have hvb : (x.vec == y.vec) = true := by rw [qv]; simp
      have QV := Lib.hid qv
      clear qv
      go_wp2_with (first | ((with_reducible apply ugZ); rfl) | ((with_reducible (first | apply len_B | apply len_BB | apply len_N | apply len_V | apply len_VV | apply len_P | apply len_O | apply len_H)); assumption) | ((with_reducible refine stop_if kK ?_ ?_); rfl))
      go_quiet (first | (go_at_call 54; exact quiet_vecB hvb (svx.drewN _) (svy.drewN _)))
      go_wp2_with (first | ((with_reducible apply ugZ); rfl) | ((with_reducible (first | apply len_B | apply len_BB | apply len_N | apply len_V | apply len_VV | apply len_P | apply len_O | apply len_H)); assumption) | ((with_reducible refine stop_if kK ?_ ?_); rfl))
      go_roundg (l.length - (j + 1) + 1)
      case measure => have := Hk.out; omega
      case rel =>
       have hxy : x = y := by
        have qv := QV.out
        have q_id := Qid.out
        clear Hx Hy svx svy hvb HR Htk QV Qid qidb x0 y0 
        cases x; cases y
        simp_all
       refine ⟨j + 1, n + nq, rfl, by omega, rfl, by rw [Hwr.out, drewN_twice], ?_⟩
       rw [take_snocG l j x (by simpa using Hx.out), take_snocG m j y (by simpa using Hy.out), Htk.out, hxy]
     ·have hvb : (x.vec == y.vec) = false := by rw [beq_eq_false_iff_ne]; exact qv
      have QV := Lib.hid qv
      clear qv
      go_wp2_with (first | ((with_reducible apply ugZ); rfl) | ((with_reducible (first | apply len_B | apply len_BB | apply len_N | apply len_V | apply len_VV | apply len_P | apply len_O | apply len_H)); assumption) | ((with_reducible refine stop_if kK ?_ ?_); rfl))
      go_quiet (first | (go_at_call 54; exact quiet_vecB hvb (svx.drewN _) (svy.drewN _)))
      go_wp2_with (first | ((with_reducible apply ugZ); rfl) | ((with_reducible (first | apply len_B | apply len_BB | apply len_N | apply len_V | apply len_VV | apply len_P | apply len_O | apply len_H)); assumption) | ((with_reducible refine stop_if kK ?_ ?_); rfl))
      go_ret
      have e : (l == m) = false := by
       rw [beq_eq_false_iff_ne]
       rintro rfl
       have := Hx.out.symm.trans Hy.out
       have := Option.some.inj this
       subst this
       exact QV.out rfl
      rw [HR.out, e]
      exact ⟨n + nq, rfl, by rw [Hwr.out, drewN_twice]⟩
    ·have qidb : (((x.id.toNat : Nat) : Int) != ((y.id.toNat : Nat) : Int)) = true := by
      rw [bne_iff_ne]
      exact fun h => qid (UInt64.toNat_inj.1 (by omega))
     have Qid := Lib.hid qid
     clear qid
     go_wp2_with (first | ((with_reducible apply ugZ); rfl) | ((with_reducible (first | apply len_B | apply len_BB | apply len_N | apply len_V | apply len_VV | apply len_P | apply len_O | apply len_H)); assumption) | ((with_reducible refine stop_if kK ?_ ?_); rfl))
     go_quiet (fail)
     go_wp2_with (first | ((with_reducible apply ugZ); rfl) | ((with_reducible (first | apply len_B | apply len_BB | apply len_N | apply len_V | apply len_VV | apply len_P | apply len_O | apply len_H)); assumption) | ((with_reducible refine stop_if kK ?_ ?_); rfl))
     go_ret
     have e : (l == m) = false := by
      rw [beq_eq_false_iff_ne]
      rintro rfl
      have := Hx.out.symm.trans Hy.out
      have := Option.some.inj this
      subst this
      exact Qid.out rfl
     rw [HR.out, e]
     exact ⟨n + nq, rfl, by rw [Hwr.out, drewN_twice]⟩
   ·go_wp2_with (first | ((with_reducible apply ugZ); rfl) | ((with_reducible (first | apply len_B | apply len_BB | apply len_N | apply len_V | apply len_VV | apply len_P | apply len_O | apply len_H)); assumption) | ((with_reducible refine stop_if kK ?_ ?_); rfl))
    go_ret
    have e : (l == m) = true := by
     rw [beq_iff_eq]
     exact same_takeG l m j Hlen.out (by omega) Htk.out
    rw [HR.out, e]
    exact ⟨n, rfl, Hwr.out⟩
 ·have hne : ((l.length : Int) != (m.length : Int)) = true := by rw [bne_iff_ne]; omega
  have e : (l == m) = false := by
   rw [beq_eq_false_iff_ne]
   rintro rfl
   exact hlen rfl
  rw [e]
  go_enter Tryd.func53, Tryd.ntmps53
  go_wp2_with (first | ((with_reducible apply ugZ); rfl) | ((with_reducible (first | apply len_B | apply len_BB | apply len_N | apply len_V | apply len_VV | apply len_P | apply len_O | apply len_H)); assumption) | ((with_reducible refine stop_if kK ?_ ?_); rfl))
  go_ret
  exact ⟨0, rfl, rfl⟩
set_option maxHeartbeats 4000000 in
set_option maxRecDepth 100000 in
theorem rsameH_any (w : World) (S S' : Nat → Prop) (l m : List HitR) (p q : Value) (hp : Sl w S l p) (hq : Sl w S' m q) :
  Calls Tryd.prog 55 #[p, q] w fun e w' => ∃ nq, e = .returned (.bool (l == m)) ∧ w' = w.drewN nq := by
 have hll : l.length ≤ 9223372036854775807 := hp.length_le
 by_cases hlen : l.length = m.length
 ·obtain ⟨R, hR⟩ : ∃ R, R = (l == m) := ⟨_, rfl⟩
  rw [← hR]
  have HR := Lib.hid hR
  clear hR
  have hne : ((l.length : Int) != (m.length : Int)) = false := by simp [hlen]
  have Hlen := Lib.hid hlen
  clear hlen
  go_enter Tryd.func55, Tryd.ntmps55
  go_wp2_with (first | ((with_reducible apply ugZ); rfl) | ((with_reducible (first | apply len_B | apply len_BB | apply len_N | apply len_V | apply len_VV | apply len_P | apply len_O | apply len_H)); assumption) | ((with_reducible refine stop_if kK ?_ ?_); rfl))
  go_loopg [5, 13] (l.length + 1) (fun k x i wr => ∃ (j n : Nat), k = l.length - j + 1 ∧ j ≤ l.length ∧ i = .int .i64 j ∧ wr = w.drewN n ∧ l.take j = m.take j)
  case atStart => exact ⟨0, 0, by omega, by omega, rfl, rfl, by simp⟩
  case round =>
   obtain ⟨j, n, hk, hj, rfl, hwr, htk⟩ := hrel
   have hp' : Sl wr S l p := by rw [hwr]; exact hp.drewN n
   have hq' : Sl wr S' m q := by rw [hwr]; exact hq.drewN n
   have Hwr := Lib.hid hwr
   clear hwr
   have Hk := Lib.hid hk
   have Htk := Lib.hid htk
   clear hk htk
   by_cases hlt : j < l.length
   ·have hjm : j < m.length := by rw [← Hlen.out]; exact hlt
    obtain ⟨b1, o1, x, cx, hx, hrx, runx, hcx⟩ := hp'.index_runR (P := Tryd.prog) rowH (by decide) .i64 j (by omega) (by omega)
    obtain ⟨b2, o2, y, cy, hy, hry, runy, hcy⟩ := hq'.index_runR (P := Tryd.prog) rowH (by decide) .i64 j (by omega) (by omega)
    obtain ⟨xv, rfl, svx⟩ := hrx
    have x0 := hcx 0 _ rfl
    have x1 := hcx 1 _ rfl
    have x2 := hcx 2 _ rfl
    obtain ⟨xa, xn, xc, rfl⟩ := Sl.shape svx
    clear hcx
    simp only [Nat.add_zero] at x0
    obtain ⟨yv, rfl, svy⟩ := hry
    have y0 := hcy 0 _ rfl
    have y1 := hcy 1 _ rfl
    have y2 := hcy 2 _ rfl
    obtain ⟨ya, yn, yc, rfl⟩ := Sl.shape svy
    clear hcy
    simp only [Nat.add_zero] at y0
    have Hx := Lib.hid hx
    have Hy := Lib.hid hy
    clear hx hy
    by_cases qid : x.id = y.id
    ·have qidb : (((x.id.toNat : Nat) : Int) != ((y.id.toNat : Nat) : Int)) = false := by rw [qid]; simp
     have Qid := Lib.hid qid
     clear qid
     by_cases qdist : x.dist = y.dist
     ·have qdistb : (((x.dist.toNat : Nat) : Int) != ((y.dist.toNat : Nat) : Int)) = false := by rw [qdist]; simp
      have Qdist := Lib.hid qdist
      clear qdist
      by_cases qv : x.vec = y.vec
      ·have hvb : (x.vec == y.vec) = true := by rw [qv]; simp
       have QV := Lib.hid qv
       clear qv
       go_wp2_with (first | ((with_reducible apply ugZ); rfl) | ((with_reducible (first | apply len_B | apply len_BB | apply len_N | apply len_V | apply len_VV | apply len_P | apply len_O | apply len_H)); assumption) | ((with_reducible refine stop_if kK ?_ ?_); rfl))
       go_quiet (first | (go_at_call 54; exact quiet_vecB hvb (svx.drewN _) (svy.drewN _)))
       go_wp2_with (first | ((with_reducible apply ugZ); rfl) | ((with_reducible (first | apply len_B | apply len_BB | apply len_N | apply len_V | apply len_VV | apply len_P | apply len_O | apply len_H)); assumption) | ((with_reducible refine stop_if kK ?_ ?_); rfl))
       go_roundg (l.length - (j + 1) + 1)
       case measure => have := Hk.out; omega
       case rel =>
        have hxy : x = y := by
         have qv := QV.out
         have q_id := Qid.out
         have q_dist := Qdist.out
         clear Hx Hy svx svy hvb HR Htk QV Qid Qdist qidb qdistb x0 y0 x1 y1 
         cases x; cases y
         simp_all
        refine ⟨j + 1, n + nq, rfl, by omega, rfl, by rw [Hwr.out, drewN_twice], ?_⟩
        rw [take_snocG l j x (by simpa using Hx.out), take_snocG m j y (by simpa using Hy.out), Htk.out, hxy]
      ·have hvb : (x.vec == y.vec) = false := by rw [beq_eq_false_iff_ne]; exact qv
       have QV := Lib.hid qv
       clear qv
       go_wp2_with (first | ((with_reducible apply ugZ); rfl) | ((with_reducible (first | apply len_B | apply len_BB | apply len_N | apply len_V | apply len_VV | apply len_P | apply len_O | apply len_H)); assumption) | ((with_reducible refine stop_if kK ?_ ?_); rfl))
       go_quiet (first | (go_at_call 54; exact quiet_vecB hvb (svx.drewN _) (svy.drewN _)))
       go_wp2_with (first | ((with_reducible apply ugZ); rfl) | ((with_reducible (first | apply len_B | apply len_BB | apply len_N | apply len_V | apply len_VV | apply len_P | apply len_O | apply len_H)); assumption) | ((with_reducible refine stop_if kK ?_ ?_); rfl))
       go_ret
       have e : (l == m) = false := by
        rw [beq_eq_false_iff_ne]
        rintro rfl
        have := Hx.out.symm.trans Hy.out
        have := Option.some.inj this
        subst this
        exact QV.out rfl
       rw [HR.out, e]
       exact ⟨n + nq, rfl, by rw [Hwr.out, drewN_twice]⟩
     ·have qdistb : (((x.dist.toNat : Nat) : Int) != ((y.dist.toNat : Nat) : Int)) = true := by
       rw [bne_iff_ne]
       exact fun h => qdist (UInt64.toNat_inj.1 (by omega))
      have Qdist := Lib.hid qdist
      clear qdist
      go_wp2_with (first | ((with_reducible apply ugZ); rfl) | ((with_reducible (first | apply len_B | apply len_BB | apply len_N | apply len_V | apply len_VV | apply len_P | apply len_O | apply len_H)); assumption) | ((with_reducible refine stop_if kK ?_ ?_); rfl))
      go_quiet (fail)
      go_wp2_with (first | ((with_reducible apply ugZ); rfl) | ((with_reducible (first | apply len_B | apply len_BB | apply len_N | apply len_V | apply len_VV | apply len_P | apply len_O | apply len_H)); assumption) | ((with_reducible refine stop_if kK ?_ ?_); rfl))
      go_ret
      have e : (l == m) = false := by
       rw [beq_eq_false_iff_ne]
       rintro rfl
       have := Hx.out.symm.trans Hy.out
       have := Option.some.inj this
       subst this
       exact Qdist.out rfl
      rw [HR.out, e]
      exact ⟨n + nq, rfl, by rw [Hwr.out, drewN_twice]⟩
    ·have qidb : (((x.id.toNat : Nat) : Int) != ((y.id.toNat : Nat) : Int)) = true := by
      rw [bne_iff_ne]
      exact fun h => qid (UInt64.toNat_inj.1 (by omega))
     have Qid := Lib.hid qid
     clear qid
     go_wp2_with (first | ((with_reducible apply ugZ); rfl) | ((with_reducible (first | apply len_B | apply len_BB | apply len_N | apply len_V | apply len_VV | apply len_P | apply len_O | apply len_H)); assumption) | ((with_reducible refine stop_if kK ?_ ?_); rfl))
     go_quiet (fail)
     go_wp2_with (first | ((with_reducible apply ugZ); rfl) | ((with_reducible (first | apply len_B | apply len_BB | apply len_N | apply len_V | apply len_VV | apply len_P | apply len_O | apply len_H)); assumption) | ((with_reducible refine stop_if kK ?_ ?_); rfl))
     go_ret
     have e : (l == m) = false := by
      rw [beq_eq_false_iff_ne]
      rintro rfl
      have := Hx.out.symm.trans Hy.out
      have := Option.some.inj this
      subst this
      exact Qid.out rfl
     rw [HR.out, e]
     exact ⟨n + nq, rfl, by rw [Hwr.out, drewN_twice]⟩
   ·go_wp2_with (first | ((with_reducible apply ugZ); rfl) | ((with_reducible (first | apply len_B | apply len_BB | apply len_N | apply len_V | apply len_VV | apply len_P | apply len_O | apply len_H)); assumption) | ((with_reducible refine stop_if kK ?_ ?_); rfl))
    go_ret
    have e : (l == m) = true := by
     rw [beq_iff_eq]
     exact same_takeG l m j Hlen.out (by omega) Htk.out
    rw [HR.out, e]
    exact ⟨n, rfl, Hwr.out⟩
 ·have hne : ((l.length : Int) != (m.length : Int)) = true := by rw [bne_iff_ne]; omega
  have e : (l == m) = false := by
   rw [beq_eq_false_iff_ne]
   rintro rfl
   exact hlen rfl
  rw [e]
  go_enter Tryd.func55, Tryd.ntmps55
  go_wp2_with (first | ((with_reducible apply ugZ); rfl) | ((with_reducible (first | apply len_B | apply len_BB | apply len_N | apply len_V | apply len_VV | apply len_P | apply len_O | apply len_H)); assumption) | ((with_reducible refine stop_if kK ?_ ?_); rfl))
  go_ret
  exact ⟨0, rfl, rfl⟩
end Go.Proofs.YtjkffjngamagkaaDoor
/- armillaryref03: Few, Hits. -/
namespace Go.Arm
open Go.RowKit
def cutO (o : OpR) : OpR := ⟨o.id, o.vec.take 10⟩
def cutH (h : HitR) : HitR := ⟨h.id, h.dist, h.vec.take 8⟩
end Go.Arm
namespace Go.Proofs.YtjkffjngamagkaaDoor
open Go Go.RowKit Go.Arm
theorem step_app_OpR {ops : Array Oper} {a : Act} {w : World} {dst : Option Tmp} {ty : TypeId} {pos : String} {after : Array Edge} {K : Act → World → Prop} {Q : Exit → Act → World → Prop} {E : Prop}
  {s x : Operand} {B : Nat} {S' : Nat → Prop} {l m : List OpR} (hs : OwnG w B 63 l (a.eval s)) (hx : Sl w S' m (a.eval x)) (hS : ∀ b, S' b → b < w.heap.size → B ≤ b ∧ (a.eval s).ownBlock ≠ some b)
  (hl : (l.length + m.length) * 32 ≤ 140737488355328) (hB : B ≤ w.heap.size)
  (h : ∀ v' w', OwnG w' B 63 (l ++ m) v' → w.grownBy w' (a.eval s).ownBlock → K (a.put dst v') w') :
  if Region.wanted ⟨dst, .call ⟨.builtin .append, #[s, x], #[29, 29]⟩, ty, pos, after, none⟩ (yielded ops a.tmps) = true then
   Oper.wp Tryd.prog ⟨dst, .call ⟨.builtin .append, #[s, x], #[29, 29]⟩, ty, pos, after, none⟩ a w K Q else E :=
 step_of_list rfl (fun a' w' => ∃ v', a' = a.put dst v' ∧ OwnG w' B 63 (l ++ m) v' ∧ w.grownBy w' (a.eval s).ownBlock)
  (fun _ _ hQ => wpList_appendG rowO rfl (by decide) hs hx hS (by simp only [maxLen]; omega) hl hB fun v' _ g1 g2 _ => hQ _ _ ⟨v', rfl, g1, g2⟩)
  fun _ _ ⟨v', e, g1, g2⟩ => e ▸ h v' _ g1 g2
set_option maxHeartbeats 4000000 in
set_option maxRecDepth 100000 in
theorem rfewO_any (w : World) (S : Nat → Prop) (l : List OpR) (q : Value) (hp : Sl w S l q) :
  Calls Tryd.prog 65 #[q, .int .i64 18] w fun e w' => ∃ v, e = .returned v ∧ Sl w' (fun b => w.heap.size ≤ b ∧ b < w'.heap.size) ((l.take 18).map cutO) v ∧ Below w.heap.size w w' := by
 have hll : l.length ≤ 9223372036854775807 := hp.length_le
 have Hp := Lib.hid hp.old
 go_enter Tryd.func65, Tryd.ntmps65
 go_wp2_with (first | ((with_reducible apply ugZ); rfl) | ((with_reducible (first | apply len_B | apply len_BB | apply len_N | apply len_V | apply len_VV | apply len_P | apply len_O | apply len_H)); assumption) | ((with_reducible refine stop_if kK ?_ ?_); rfl))
 clear hp
 go_loopg [5, 6, 7, 10] (l.length + 1) (fun k x5 x6 x7 i wr => ∃ (j : Nat) (D : List OpR), k = l.length - j + 1 ∧ j ≤ l.length ∧ i = .int .i64 j ∧ D = (l.take (min j 18)).map cutO ∧ D.length ≤ 18 ∧ OwnG wr w.heap.size 63 D x5 ∧ Below w.heap.size w wr)
 case atStart => exact ⟨0, [], by omega, by omega, rfl, by simp, by simp, OwnG.nil _ _ _, Below.refl _ _⟩
 case round =>
  obtain ⟨j, D, hk, hj, rfl, hD, hDl, ho, hbr⟩ := hrel
  have hpr := Hp.out.below hbr (Nat.le_refl _)
  have Hk := Lib.hid hk
  have HD := Lib.hid hD
  clear hk hD
  by_cases hlt : j < l.length
  ·go_wp2_with (first | ((with_reducible apply ugZ); rfl) | ((with_reducible (first | apply len_B | apply len_BB | apply len_N | apply len_V | apply len_VV | apply len_P | apply len_O | apply len_H)); assumption) | ((with_reducible refine stop_if kK ?_ ?_); rfl))
   refine Stop.go (idx_O hpr rfl (by omega) (by omega) fun b5 o5 p pv hp hpv hcell0 hcell1 => ?_)
   have hp' : l[j]? = some p := by simpa using hp
   have Hx := Lib.hid hp'
   clear hp hp'
   obtain ⟨pa, pn, pc, rfl⟩ := Sl.shape hpv
   have ha := (Below.refl wr.heap.size wr).alloc (Nat.le_refl _) (.cells #[.int .u64 (p.id.toNat : Int), .slice pa pn pc] 63)
   by_cases h18 : (j : Int) < 18
   ·go_wp2_with (fail)
    have ex := heap_alloc_new wr (.cells #[.int .u64 (p.id.toNat : Int), .slice pa pn pc] 63)
    generalize wr.alloc (.cells #[.int .u64 (p.id.toNat : Int), .slice pa pn pc] 63) = w5 at ha ex ⊢
    obtain ⟨bo, hbo⟩ : ∃ bo, bo = wr.heap.size := ⟨_, rfl⟩
    rw [← hbo] at ex ⊢
    have HBO := Lib.hid hbo
    clear hbo hpr hcell0 hcell1
    have hbl : bo < w5.heap.size := (Array.getElem?_eq_some_iff.1 ex).1
    have hB5 := below_on hbr ha hbr.size
    have ho5 := ho.below ha (Nat.le_refl _)
    have hv5 := hpv.below ha (Nat.le_refl _)
    have hv5d : Sl w5.drew (· < w.heap.size) p.vec (.slice pa pn pc) := hv5.drew
    have howns : ∀ b, u5.ownBlock = some b → w.heap.size ≤ b ∧ b < bo := fun b hb => ⟨(ho.ge b hb).1, by have := (ho.ge b hb).2; have := HBO.out; omega⟩
    have Ho5 := Lib.hid ho5
    have HoW := Lib.hid howns
    clear ho5 howns ho
    have hcell : ∀ wq : World, wq.heap[bo]? = some (.cells #[.int .u64 (p.id.toNat : Int), .slice pa pn pc] 63) → wq.cell? ⟨bo, 0, none⟩ = some (.int .u64 (p.id.toNat : Int)) ∧ wq.cell? ⟨bo, 1, none⟩ = some (.slice pa pn pc) := by
     intro wq e2
     simp [World.cell?, e2]
    go_region_held3 (fun wq => wq.cell? ⟨bo, 0, none⟩ = some (.int .u64 (p.id.toNat : Int)) ∧ wq.cell? ⟨bo, 1, none⟩ = some (.slice pa pn pc))
     (first | exact hcell _ ex | exact hcell _ ex6 | exact hcell _ ex7 | exact hcell _ ex8)
     (first
      | (go_at_call 67; refine (cutvec_any w5.drew _ p.vec _ 10 hv5d (by decide) (by decide)).mono ?_; rintro e w6 ⟨qv, rfl, hq6, hb6⟩; obtain ⟨qa, qn, qc, rfl⟩ := Own.shape hq6; have hb6' : Below w5.heap.size w5 w6 := ((Below.refl w5.heap.size w5).drew).trans hb6; have ex6 := (hb6'.block bo hbl).trans ex; have ha7 := (Below.refl w6.heap.size w6).alloc (Nat.le_refl _) (.cells #[.int .u64 (p.id.toNat : Int), .slice qa qn qc] 63); have hb7 := below_on hb6' ha7 hb6'.size; have ex7 := (hb7.block bo hbl).trans ex; have hq7 := (hq6.sl (S' := fun b => w5.heap.size ≤ b) (fun _ h _ => h.elim) (fun b hb => (hq6.ge b hb).1)).below ha7 (Nat.le_refl _); have hx7 := lit_sl (w6.alloc (.cells #[.int .u64 (p.id.toNat : Int), .slice qa qn qc] 63)) (fun b => w5.heap.size ≤ b) w6.heap.size [cutO p] [.int .u64 (p.id.toNat : Int), .slice qa qn qc] 63 (by simp) ⟨[.int .u64 (p.id.toNat : Int), .slice qa qn qc], [], rfl, ⟨_, rfl, hq7⟩, rfl⟩ hb6'.size (heap_alloc_new w6 (.cells #[.int .u64 (p.id.toNat : Int), .slice qa qn qc] 63)); have hs7 := Ho5.out.below hb7 (Nat.le_refl _); have hS7 : ∀ b, w5.heap.size ≤ b → b < (w6.alloc (.cells #[.int .u64 (p.id.toNat : Int), .slice qa qn qc] 63)).heap.size → w.heap.size ≤ b ∧ u5.ownBlock ≠ some b := fun b hb _ => ⟨Nat.le_trans hB5.size hb, fun e => by have := (HoW.out b e).2; omega⟩)
      | (refine step_app_OpR (B := w.heap.size) (l := D) (m := [cutO p]) hs7 hx7 hS7 (by simp; omega) (Nat.le_trans hB5.size hb7.size) fun v8 w8 g1 g2 => ?_; have ex8 := (g2.block bo (Nat.lt_of_lt_of_le hbl hb7.size) (fun e => by have e' : u5.ownBlock = some bo := e.symm; have := (HoW.out bo e').2; omega)).trans ex7))
    rename_i hHeld
    have hB8 := (below_on hB5 hb7 hB5.size).grown g2 (Nat.le_trans hB5.size hb7.size) (fun b hb => (HoW.out b hb).1)
    go_wp2_with (fail)
    go_roundg (l.length - (j + 1) + 1)
    case measure => have := Hk.out; omega
    case rel =>
     refine ⟨j + 1, D ++ [cutO p], by omega, by omega, by go_num, ?_, ?_, g1, hB8⟩
     ·rw [HD.out, show min (j + 1) 18 = min j 18 + 1 by omega, show min j 18 = j by omega, take_snocG l j p Hx.out]
      simp
     ·have := congrArg List.length HD.out
      simp at this
      simp
      omega
   ·go_wp2_with (fail)
    go_roundg (l.length - (j + 1) + 1)
    case measure => have := Hk.out; omega
    case rel =>
     refine ⟨j + 1, D, by omega, by omega, by go_num, ?_, hDl, ho.below ha (Nat.le_refl _), below_on hbr ha hbr.size⟩
     rw [HD.out, show min (j + 1) 18 = min j 18 by omega]
  ·obtain rfl : j = l.length := by omega
   go_wp2_with (first | ((with_reducible apply ugZ); rfl) | ((with_reducible (first | apply len_B | apply len_BB | apply len_N | apply len_V | apply len_VV | apply len_P | apply len_O | apply len_H)); assumption) | ((with_reducible refine stop_if kK ?_ ?_); rfl))
   go_ret
   have e := HD.out
   have e2 : l.take (min l.length 18) = l.take 18 := by rw [List.take_eq_take_iff]; omega
   rw [e2] at e
   rw [← e]
   exact ⟨_, rfl, ho.sl, hbr⟩
theorem step_app_HitR {ops : Array Oper} {a : Act} {w : World} {dst : Option Tmp} {ty : TypeId} {pos : String} {after : Array Edge} {K : Act → World → Prop} {Q : Exit → Act → World → Prop} {E : Prop}
  {s x : Operand} {B : Nat} {S' : Nat → Prop} {l m : List HitR} (hs : OwnG w B 114 l (a.eval s)) (hx : Sl w S' m (a.eval x)) (hS : ∀ b, S' b → b < w.heap.size → B ≤ b ∧ (a.eval s).ownBlock ≠ some b)
  (hl : (l.length + m.length) * 40 ≤ 140737488355328) (hB : B ≤ w.heap.size)
  (h : ∀ v' w', OwnG w' B 114 (l ++ m) v' → w.grownBy w' (a.eval s).ownBlock → K (a.put dst v') w') :
  if Region.wanted ⟨dst, .call ⟨.builtin .append, #[s, x], #[31, 31]⟩, ty, pos, after, none⟩ (yielded ops a.tmps) = true then
   Oper.wp Tryd.prog ⟨dst, .call ⟨.builtin .append, #[s, x], #[31, 31]⟩, ty, pos, after, none⟩ a w K Q else E :=
 step_of_list rfl (fun a' w' => ∃ v', a' = a.put dst v' ∧ OwnG w' B 114 (l ++ m) v' ∧ w.grownBy w' (a.eval s).ownBlock)
  (fun _ _ hQ => wpList_appendG rowH rfl (by decide) hs hx hS (by simp only [maxLen]; omega) hl hB fun v' _ g1 g2 _ => hQ _ _ ⟨v', rfl, g1, g2⟩)
  fun _ _ ⟨v', e, g1, g2⟩ => e ▸ h v' _ g1 g2
set_option maxHeartbeats 4000000 in
set_option maxRecDepth 100000 in
theorem rfewH_any (w : World) (S : Nat → Prop) (l : List HitR) (q : Value) (hp : Sl w S l q) :
  Calls Tryd.prog 66 #[q, .int .i64 18] w fun e w' => ∃ v, e = .returned v ∧ Sl w' (fun b => w.heap.size ≤ b ∧ b < w'.heap.size) ((l.take 18).map cutH) v ∧ Below w.heap.size w w' := by
 have hll : l.length ≤ 9223372036854775807 := hp.length_le
 have Hp := Lib.hid hp.old
 go_enter Tryd.func66, Tryd.ntmps66
 go_wp2_with (first | ((with_reducible apply ugZ); rfl) | ((with_reducible (first | apply len_B | apply len_BB | apply len_N | apply len_V | apply len_VV | apply len_P | apply len_O | apply len_H)); assumption) | ((with_reducible refine stop_if kK ?_ ?_); rfl))
 clear hp
 go_loopg [5, 6, 7, 10] (l.length + 1) (fun k x5 x6 x7 i wr => ∃ (j : Nat) (D : List HitR), k = l.length - j + 1 ∧ j ≤ l.length ∧ i = .int .i64 j ∧ D = (l.take (min j 18)).map cutH ∧ D.length ≤ 18 ∧ OwnG wr w.heap.size 114 D x5 ∧ Below w.heap.size w wr)
 case atStart => exact ⟨0, [], by omega, by omega, rfl, by simp, by simp, OwnG.nil _ _ _, Below.refl _ _⟩
 case round =>
  obtain ⟨j, D, hk, hj, rfl, hD, hDl, ho, hbr⟩ := hrel
  have hpr := Hp.out.below hbr (Nat.le_refl _)
  have Hk := Lib.hid hk
  have HD := Lib.hid hD
  clear hk hD
  by_cases hlt : j < l.length
  ·go_wp2_with (first | ((with_reducible apply ugZ); rfl) | ((with_reducible (first | apply len_B | apply len_BB | apply len_N | apply len_V | apply len_VV | apply len_P | apply len_O | apply len_H)); assumption) | ((with_reducible refine stop_if kK ?_ ?_); rfl))
   refine Stop.go (idx_H hpr rfl (by omega) (by omega) fun b5 o5 p pv hp hpv hcell0 hcell1 hcell2 => ?_)
   have hp' : l[j]? = some p := by simpa using hp
   have Hx := Lib.hid hp'
   clear hp hp'
   obtain ⟨pa, pn, pc, rfl⟩ := Sl.shape hpv
   have ha := (Below.refl wr.heap.size wr).alloc (Nat.le_refl _) (.cells #[.int .u64 (p.id.toNat : Int), .int .u64 (p.dist.toNat : Int), .slice pa pn pc] 114)
   by_cases h18 : (j : Int) < 18
   ·go_wp2_with (fail)
    have ex := heap_alloc_new wr (.cells #[.int .u64 (p.id.toNat : Int), .int .u64 (p.dist.toNat : Int), .slice pa pn pc] 114)
    generalize wr.alloc (.cells #[.int .u64 (p.id.toNat : Int), .int .u64 (p.dist.toNat : Int), .slice pa pn pc] 114) = w5 at ha ex ⊢
    obtain ⟨bo, hbo⟩ : ∃ bo, bo = wr.heap.size := ⟨_, rfl⟩
    rw [← hbo] at ex ⊢
    have HBO := Lib.hid hbo
    clear hbo hpr hcell0 hcell1 hcell2
    have hbl : bo < w5.heap.size := (Array.getElem?_eq_some_iff.1 ex).1
    have hB5 := below_on hbr ha hbr.size
    have ho5 := ho.below ha (Nat.le_refl _)
    have hv5 := hpv.below ha (Nat.le_refl _)
    have hv5d : Sl w5.drew (· < w.heap.size) p.vec (.slice pa pn pc) := hv5.drew
    have howns : ∀ b, u5.ownBlock = some b → w.heap.size ≤ b ∧ b < bo := fun b hb => ⟨(ho.ge b hb).1, by have := (ho.ge b hb).2; have := HBO.out; omega⟩
    have Ho5 := Lib.hid ho5
    have HoW := Lib.hid howns
    clear ho5 howns ho
    have hcell : ∀ wq : World, wq.heap[bo]? = some (.cells #[.int .u64 (p.id.toNat : Int), .int .u64 (p.dist.toNat : Int), .slice pa pn pc] 114) → wq.cell? ⟨bo, 0, none⟩ = some (.int .u64 (p.id.toNat : Int)) ∧ wq.cell? ⟨bo, 1, none⟩ = some (.int .u64 (p.dist.toNat : Int)) ∧ wq.cell? ⟨bo, 2, none⟩ = some (.slice pa pn pc) := by
     intro wq e2
     simp [World.cell?, e2]
    go_region_held3 (fun wq => wq.cell? ⟨bo, 0, none⟩ = some (.int .u64 (p.id.toNat : Int)) ∧ wq.cell? ⟨bo, 1, none⟩ = some (.int .u64 (p.dist.toNat : Int)) ∧ wq.cell? ⟨bo, 2, none⟩ = some (.slice pa pn pc))
     (first | exact hcell _ ex | exact hcell _ ex6 | exact hcell _ ex7 | exact hcell _ ex8)
     (first
      | (go_at_call 67; refine (cutvec_any w5.drew _ p.vec _ 8 hv5d (by decide) (by decide)).mono ?_; rintro e w6 ⟨qv, rfl, hq6, hb6⟩; obtain ⟨qa, qn, qc, rfl⟩ := Own.shape hq6; have hb6' : Below w5.heap.size w5 w6 := ((Below.refl w5.heap.size w5).drew).trans hb6; have ex6 := (hb6'.block bo hbl).trans ex; have ha7 := (Below.refl w6.heap.size w6).alloc (Nat.le_refl _) (.cells #[.int .u64 (p.id.toNat : Int), .int .u64 (p.dist.toNat : Int), .slice qa qn qc] 114); have hb7 := below_on hb6' ha7 hb6'.size; have ex7 := (hb7.block bo hbl).trans ex; have hq7 := (hq6.sl (S' := fun b => w5.heap.size ≤ b) (fun _ h _ => h.elim) (fun b hb => (hq6.ge b hb).1)).below ha7 (Nat.le_refl _); have hx7 := lit_sl (w6.alloc (.cells #[.int .u64 (p.id.toNat : Int), .int .u64 (p.dist.toNat : Int), .slice qa qn qc] 114)) (fun b => w5.heap.size ≤ b) w6.heap.size [cutH p] [.int .u64 (p.id.toNat : Int), .int .u64 (p.dist.toNat : Int), .slice qa qn qc] 114 (by simp) ⟨[.int .u64 (p.id.toNat : Int), .int .u64 (p.dist.toNat : Int), .slice qa qn qc], [], rfl, ⟨_, rfl, hq7⟩, rfl⟩ hb6'.size (heap_alloc_new w6 (.cells #[.int .u64 (p.id.toNat : Int), .int .u64 (p.dist.toNat : Int), .slice qa qn qc] 114)); have hs7 := Ho5.out.below hb7 (Nat.le_refl _); have hS7 : ∀ b, w5.heap.size ≤ b → b < (w6.alloc (.cells #[.int .u64 (p.id.toNat : Int), .int .u64 (p.dist.toNat : Int), .slice qa qn qc] 114)).heap.size → w.heap.size ≤ b ∧ u5.ownBlock ≠ some b := fun b hb _ => ⟨Nat.le_trans hB5.size hb, fun e => by have := (HoW.out b e).2; omega⟩)
      | (refine step_app_HitR (B := w.heap.size) (l := D) (m := [cutH p]) hs7 hx7 hS7 (by simp; omega) (Nat.le_trans hB5.size hb7.size) fun v8 w8 g1 g2 => ?_; have ex8 := (g2.block bo (Nat.lt_of_lt_of_le hbl hb7.size) (fun e => by have e' : u5.ownBlock = some bo := e.symm; have := (HoW.out bo e').2; omega)).trans ex7))
    rename_i hHeld
    have hB8 := (below_on hB5 hb7 hB5.size).grown g2 (Nat.le_trans hB5.size hb7.size) (fun b hb => (HoW.out b hb).1)
    go_wp2_with (fail)
    go_roundg (l.length - (j + 1) + 1)
    case measure => have := Hk.out; omega
    case rel =>
     refine ⟨j + 1, D ++ [cutH p], by omega, by omega, by go_num, ?_, ?_, g1, hB8⟩
     ·rw [HD.out, show min (j + 1) 18 = min j 18 + 1 by omega, show min j 18 = j by omega, take_snocG l j p Hx.out]
      simp
     ·have := congrArg List.length HD.out
      simp at this
      simp
      omega
   ·go_wp2_with (fail)
    go_roundg (l.length - (j + 1) + 1)
    case measure => have := Hk.out; omega
    case rel =>
     refine ⟨j + 1, D, by omega, by omega, by go_num, ?_, hDl, ho.below ha (Nat.le_refl _), below_on hbr ha hbr.size⟩
     rw [HD.out, show min (j + 1) 18 = min j 18 by omega]
  ·obtain rfl : j = l.length := by omega
   go_wp2_with (first | ((with_reducible apply ugZ); rfl) | ((with_reducible (first | apply len_B | apply len_BB | apply len_N | apply len_V | apply len_VV | apply len_P | apply len_O | apply len_H)); assumption) | ((with_reducible refine stop_if kK ?_ ?_); rfl))
   go_ret
   have e := HD.out
   have e2 : l.take (min l.length 18) = l.take 18 := by rw [List.take_eq_take_iff]; omega
   rw [e2] at e
   rw [← e]
   exact ⟨_, rfl, ho.sl, hbr⟩
end Go.Proofs.YtjkffjngamagkaaDoor
