/- armillaryref12: Unpack's state. -/
import Derived.Test.YtjkffjngamagkaaDoorPackG
import Derived.Test.YtjkffjngamagkaaDoorNoteUnp
import Derived.Test.YtjkffjngamagkaaDoorPackF
import Derived.Test.YtjkffjngamagkaaDoorPackC
namespace Go.Proofs.YtjkffjngamagkaaDoor
open Go Go.RowKit Go.Arm
structure RuB (w0 : World) (g bN b2 N : Nat) (S : Nat → Prop) : Prop where
 hg : w0.heap.size ≤ g ∧ g < N
 hN : w0.heap.size ≤ bN ∧ bN < N
 h2 : w0.heap.size ≤ b2 ∧ b2 < N
 gN : bN ≠ g
 g2 : b2 ≠ g
 n2 : bN ≠ b2
 hS : ∀ b, S b → b < N ∧ b ≠ bN
structure RuS (w0 w : World) (g bN b2 N M : Nat) (S : Nat → Prop) (lp : List Int) (lo : List OpR) (lv : List Int32) (lh : List HitR) (vp vo vv vh : Value) (cs : Array Value) (s : RS) : Prop where
 rd : RfA w g S s
 nm : N ≤ M
 nw : M ≤ w.heap.size
 cN : Blk w bN 36 cs
 c2 : Blk w b2 36 zeroCells
 bl : Below w0.heap.size w0 w
 sp : Sl w (fun b => N ≤ b ∧ b < M) lp vp
 so : Sl w (fun b => N ≤ b ∧ b < M) lo vo
 sv : Sl w (fun b => N ≤ b ∧ b < M) lv vv
 sh : Sl w (fun b => N ≤ b ∧ b < M) lh vh
section
variable {w0 w w' : World} {g bN b2 N M : Nat} {S : Nat → Prop} {lp : List Int} {lo : List OpR} {lv : List Int32} {lh : List HitR} {vp vo vv vh : Value} {cs cs' : Array Value} {s s' : RS}
theorem RuS.only (h : RuS w0 w g bN b2 N M S lp lo lv lh vp vo vv vh cs s) (hB : RuB w0 g bN b2 N S) {F : Nat → Prop} (ho : Only F w w') (hF : ∀ b, F b → M ≤ b) : RuS w0 w' g bN b2 N M S lp lo lv lh vp vo vv vh cs s := by
 have nm := h.nm
 have f : ∀ b, b < M → ¬ F b := fun b hb hf => by have := hF b hf; omega
 have hg := hB.hg
 have hN := hB.hN
 have h2 := hB.h2
 exact ⟨h.rd.only ho (f g (by omega)) fun b hb _ => f b (by have := hB.hS b hb; omega), nm, Nat.le_trans h.nw ho.size, h.cN.only ho (f _ (by omega)), h.c2.only ho (f _ (by omega)), below_only h.bl ho fun b hb => by have := hF b hb; omega,
  h.sp.only ho fun b hb _ => f b hb.2, h.so.only ho fun b hb _ => f b hb.2, h.sv.only ho fun b hb _ => f b hb.2, h.sh.only ho fun b hb _ => f b hb.2⟩
theorem RuS.below (h : RuS w0 w g bN b2 N M S lp lo lv lh vp vo vv vh cs s) (hB : RuB w0 g bN b2 N S) {B : Nat} (ho : Below B w w') (hF : M ≤ B) : RuS w0 w' g bN b2 N M S lp lo lv lh vp vo vv vh cs s :=
 h.only hB (Only.of_below ho) fun b hb => by omega
theorem RuS.call (h : RuS w0 w g bN b2 N M S lp lo lv lh vp vo vv vh cs s) (hB : RuB w0 g bN b2 N S) (hr : RfA w' g S s') (ho : Only (fun b => b = g ∨ M ≤ b) w w') : RuS w0 w' g bN b2 N M S lp lo lv lh vp vo vv vh cs s' := by
 have nm := h.nm
 have hg := hB.hg
 have hN := hB.hN
 have h2 := hB.h2
 have gN := hB.gN
 have g2 := hB.g2
 have f : ∀ b, N ≤ b ∧ b < M → ¬ (b = g ∨ M ≤ b) := fun b hb => by omega
 exact ⟨hr, nm, Nat.le_trans h.nw ho.size, h.cN.only ho (by omega), h.c2.only ho (by omega), below_only h.bl ho fun b hb => by omega,
  h.sp.only ho fun b hb _ => f b hb, h.so.only ho fun b hb _ => f b hb, h.sv.only ho fun b hb _ => f b hb, h.sh.only ho fun b hb _ => f b hb⟩
theorem RuS.call1 (h : RuS w0 w g bN b2 N M S lp lo lv lh vp vo vv vh cs s) (hB : RuB w0 g bN b2 N S) (hr : RfA w' g S s') (ho : Only (· = g) w w') : RuS w0 w' g bN b2 N M S lp lo lv lh vp vo vv vh cs s' :=
 h.call hB hr (ho.mono fun _ _ e => .inl e)
theorem RuS.callV (h : RuS w0 w g bN b2 N M S lp lo lv lh vp vo vv vh cs s) (hB : RuB w0 g bN b2 N S) (hr : RfA w' g S s') (ho : Only (fun b => b = g ∨ w.heap.size ≤ b) w w') : RuS w0 w' g bN b2 N M S lp lo lv lh vp vo vv vh cs s' :=
 h.call hB hr (ho.mono fun b _ e => by
  have := h.nw
  rcases e with e | e
  ·exact .inl e
  ·exact .inr (by omega))
theorem RuS.set (h : RuS w0 w g bN b2 N M S lp lo lv lh vp vo vv vh cs s) (hB : RuB w0 g bN b2 N S) (hn : Blk w' bN 36 cs') (ho : Only (fun b => b = bN) w w') : RuS w0 w' g bN b2 N M S lp lo lv lh vp vo vv vh cs' s := by
 have hN := hB.hN
 have gN := hB.gN
 have n2 := hB.n2
 have f : ∀ b, N ≤ b ∧ b < M → ¬ (b = bN) := fun b hb => by omega
 exact ⟨h.rd.only ho (fun e => gN e.symm) fun b hb _ => (hB.hS b hb).2, h.nm, Nat.le_trans h.nw ho.size, hn, h.c2.only ho (fun e => n2 e.symm), below_only h.bl ho fun b hb => by omega,
  h.sp.only ho fun b hb _ => f b hb, h.so.only ho fun b hb _ => f b hb, h.sv.only ho fun b hb _ => f b hb, h.sh.only ho fun b hb _ => f b hb⟩
theorem RuB.ne (hB : RuB w0 g bN b2 N S) : ∀ b, N ≤ b → b ≠ g ∧ b ≠ bN := fun b hb => by have := hB.hg; have := hB.hN; omega
theorem RuS.ge (h : RuS w0 w g bN b2 N M S lp lo lv lh vp vo vv vh cs s) (hB : RuB w0 g bN b2 N S) : ∀ b, M ≤ b → b ≠ g ∧ b ≠ bN := fun b hb => hB.ne b (Nat.le_trans h.nm hb)
theorem RuS.none (h : RuS w0 w g bN b2 N M S lp lo lv lh vp vo vv vh cs s) (i : Nat) : (i = 0 → RuS w0 w g bN b2 N M S [] lo lv lh (.slice none 0 0) vo vv vh cs s) ∧ (i = 1 → RuS w0 w g bN b2 N M S lp [] lv lh vp (.slice none 0 0) vv vh cs s) ∧ (i = 2 → RuS w0 w g bN b2 N M S lp lo lv [] vp vo vv (.slice none 0 0) cs s) :=
 ⟨fun _ => ⟨h.rd, h.nm, h.nw, h.cN, h.c2, h.bl, Sl.nil _ _, h.so, h.sv, h.sh⟩, fun _ => ⟨h.rd, h.nm, h.nw, h.cN, h.c2, h.bl, h.sp, Sl.nil _ _, h.sv, h.sh⟩, fun _ => ⟨h.rd, h.nm, h.nw, h.cN, h.c2, h.bl, h.sp, h.so, h.sv, Sl.nil _ _⟩⟩
theorem RuS.grow (h : RuS w0 w g bN b2 N M S lp lo lv lh vp vo vv vh cs s) {lp' : List Int} {lo' : List OpR} {lv' : List Int32} {lh' : List HitR} {vp' vo' vv' vh' : Value}
  (hp : (lp' = lp ∧ vp' = vp) ∨ Sl w (fun b => M ≤ b ∧ b < w.heap.size) lp' vp') (ho : (lo' = lo ∧ vo' = vo) ∨ Sl w (fun b => M ≤ b ∧ b < w.heap.size) lo' vo') (hv : (lv' = lv ∧ vv' = vv) ∨ Sl w (fun b => M ≤ b ∧ b < w.heap.size) lv' vv') (hh : (lh' = lh ∧ vh' = vh) ∨ Sl w (fun b => M ≤ b ∧ b < w.heap.size) lh' vh') :
  RuS w0 w g bN b2 N w.heap.size S lp' lo' lv' lh' vp' vo' vv' vh' cs s := by
 have nm := h.nm
 have nw := h.nw
 refine ⟨h.rd, by omega, Nat.le_refl _, h.cN, h.c2, h.bl, ?_, ?_, ?_, ?_⟩
 ·rcases hp with ⟨rfl, rfl⟩ | hp
  ·exact h.sp.wide fun b hb _ => by omega
  ·exact hp.wide fun b hb _ => by omega
 ·rcases ho with ⟨rfl, rfl⟩ | hp
  ·exact h.so.wide fun b hb _ => by omega
  ·exact hp.wide fun b hb _ => by omega
 ·rcases hv with ⟨rfl, rfl⟩ | hp
  ·exact h.sv.wide fun b hb _ => by omega
  ·exact hp.wide fun b hb _ => by omega
 ·rcases hh with ⟨rfl, rfl⟩ | hp
  ·exact h.sh.wide fun b hb _ => by omega
  ·exact hp.wide fun b hb _ => by omega
end
def NI (n : NoteR) : Prop := I64 n.k ∧ I64 n.ef ∧ I64 n.code ∧ I64 n.who
theorem foldl_take {β : Type} (f : β → Nat → β) (l : List Nat) (b : β) (j i : Nat) (h : l[j]? = some i) : (l.take (j + 1)).foldl f b = f ((l.take j).foldl f b) i := by
 rw [take_snoc l j i h, List.foldl_append]; rfl
theorem drop_sub (l : List Nat) (j x : Nat) (h : x ∈ l.drop (j + 1)) : x ∈ l.drop j := by
 rw [← List.drop_drop] at h
 exact List.mem_of_mem_drop h
theorem drop_here (l : List Nat) (j i : Nat) (h : l[j]? = some i) : i ∈ l.drop j := by
 obtain ⟨h1, h2⟩ := List.getElem?_eq_some_iff.1 h
 rw [List.drop_eq_getElem_cons h1, h2]
 simp
theorem drop_off (l : List Nat) (hl : l.Nodup) (j i : Nat) (h : l[j]? = some i) : i ∉ l.drop (j + 1) := by
 obtain ⟨h1, h2⟩ := List.getElem?_eq_some_iff.1 h
 have hd : (l.drop j).Nodup := hl.sublist (List.drop_sublist _ _)
 rw [List.drop_eq_getElem_cons h1, h2] at hd
 exact (List.nodup_cons.1 hd).1
theorem fieldsOf_nodup (k : Nat) : (fieldsOf k).Nodup := by
 unfold fieldsOf
 exact (List.nodup_range).sublist List.filter_sublist
theorem set_num0 (n : NoteR) (x : Nat) (h : x ≤ 18446744073709551615) (vp vo vv vh : Value) : (noteV n vp vo vv vh).cells.setIfInBounds 1 (.int .u64 (x : Int)) = (noteV (setNum n 0 x) vp vo vv vh).cells := by
 have e : (UInt64.ofNat x).toNat = x := UInt64.toNat_ofNat_of_lt' (by show x < 18446744073709551616; omega)
 simp [noteV, setNum, Value.cells, e]
theorem set_num1 (n : NoteR) (x : Nat) (h : x ≤ 18446744073709551615) (vp vo vv vh : Value) : (noteV n vp vo vv vh).cells.setIfInBounds 2 (.int .u64 (x : Int)) = (noteV (setNum n 1 x) vp vo vv vh).cells := by
 have e : (UInt64.ofNat x).toNat = x := UInt64.toNat_ofNat_of_lt' (by show x < 18446744073709551616; omega)
 simp [noteV, setNum, Value.cells, e]
theorem set_num2 (n : NoteR) (x : Nat) (h : x ≤ 18446744073709551615) (vp vo vv vh : Value) : (noteV n vp vo vv vh).cells.setIfInBounds 3 (.int .u64 (x : Int)) = (noteV (setNum n 2 x) vp vo vv vh).cells := by
 have e : (UInt64.ofNat x).toNat = x := UInt64.toNat_ofNat_of_lt' (by show x < 18446744073709551616; omega)
 simp [noteV, setNum, Value.cells, e]
theorem set_num3 (n : NoteR) (x : Nat) (h : x ≤ 18446744073709551615) (vp vo vv vh : Value) : (noteV n vp vo vv vh).cells.setIfInBounds 4 (.int .u64 (x : Int)) = (noteV (setNum n 3 x) vp vo vv vh).cells := by
 have e : (UInt64.ofNat x).toNat = x := UInt64.toNat_ofNat_of_lt' (by show x < 18446744073709551616; omega)
 simp [noteV, setNum, Value.cells, e]
theorem set_num4 (n : NoteR) (x : Nat) (h : x ≤ 18446744073709551615) (vp vo vv vh : Value) : (noteV n vp vo vv vh).cells.setIfInBounds 5 (.int .u64 (x : Int)) = (noteV (setNum n 4 x) vp vo vv vh).cells := by
 have e : (UInt64.ofNat x).toNat = x := UInt64.toNat_ofNat_of_lt' (by show x < 18446744073709551616; omega)
 simp [noteV, setNum, Value.cells, e]
theorem set_num5 (n : NoteR) (x : Nat) (h : x ≤ 18446744073709551615) (vp vo vv vh : Value) : (noteV n vp vo vv vh).cells.setIfInBounds 6 (.int .u64 (x : Int)) = (noteV (setNum n 5 x) vp vo vv vh).cells := by
 have e : (UInt64.ofNat x).toNat = x := UInt64.toNat_ofNat_of_lt' (by show x < 18446744073709551616; omega)
 simp [noteV, setNum, Value.cells, e]
theorem set_num6 (n : NoteR) (x : Nat) (h : x ≤ 18446744073709551615) (vp vo vv vh : Value) : (noteV n vp vo vv vh).cells.setIfInBounds 7 (.int .u64 (x : Int)) = (noteV (setNum n 6 x) vp vo vv vh).cells := by
 have e : (UInt64.ofNat x).toNat = x := UInt64.toNat_ofNat_of_lt' (by show x < 18446744073709551616; omega)
 simp [noteV, setNum, Value.cells, e]
theorem set_num7 (n : NoteR) (x : Nat) (h : x ≤ 18446744073709551615) (vp vo vv vh : Value) : (noteV n vp vo vv vh).cells.setIfInBounds 8 (.int .i64 (x : Int)) = (noteV (setNum n 7 x) vp vo vv vh).cells := by
 have e : (UInt64.ofNat x).toNat = x := UInt64.toNat_ofNat_of_lt' (by show x < 18446744073709551616; omega)
 simp [noteV, setNum, Value.cells]
theorem set_num8 (n : NoteR) (x : Nat) (h : x ≤ 18446744073709551615) (vp vo vv vh : Value) : (noteV n vp vo vv vh).cells.setIfInBounds 9 (.int .i64 (x : Int)) = (noteV (setNum n 8 x) vp vo vv vh).cells := by
 have e : (UInt64.ofNat x).toNat = x := UInt64.toNat_ofNat_of_lt' (by show x < 18446744073709551616; omega)
 simp [noteV, setNum, Value.cells]
theorem set_num9 (n : NoteR) (x : Nat) (h : x ≤ 18446744073709551615) (vp vo vv vh : Value) : (noteV n vp vo vv vh).cells.setIfInBounds 10 (.int .i64 (x : Int)) = (noteV (setNum n 9 x) vp vo vv vh).cells := by
 have e : (UInt64.ofNat x).toNat = x := UInt64.toNat_ofNat_of_lt' (by show x < 18446744073709551616; omega)
 simp [noteV, setNum, Value.cells]
theorem set_num10 (n : NoteR) (x : Nat) (h : x ≤ 18446744073709551615) (vp vo vv vh : Value) : (noteV n vp vo vv vh).cells.setIfInBounds 11 (.int .i64 (x : Int)) = (noteV (setNum n 10 x) vp vo vv vh).cells := by
 have e : (UInt64.ofNat x).toNat = x := UInt64.toNat_ofNat_of_lt' (by show x < 18446744073709551616; omega)
 simp [noteV, setNum, Value.cells]
theorem set_parts (n : NoteR) (vp vo vv vh u : Value) : (noteV n vp vo vv vh).cells.setIfInBounds 12 u = (noteV n u vo vv vh).cells := by
 simp [noteV, Value.cells]
theorem set_ops (n : NoteR) (vp vo vv vh u : Value) : (noteV n vp vo vv vh).cells.setIfInBounds 13 u = (noteV n vp u vv vh).cells := by
 simp [noteV, Value.cells]
theorem set_vec (n : NoteR) (vp vo vv vh u : Value) : (noteV n vp vo vv vh).cells.setIfInBounds 14 u = (noteV n vp vo u vh).cells := by
 simp [noteV, Value.cells]
theorem set_hits (n : NoteR) (vp vo vv vh u : Value) : (noteV n vp vo vv vh).cells.setIfInBounds 15 u = (noteV n vp vo vv u).cells := by
 simp [noteV, Value.cells]
theorem kind_cells (k : Nat) (hk : k ≤ 255) : (noteV (kindN k) (.slice none 0 0) (.slice none 0 0) (.slice none 0 0) (.slice none 0 0)).cells = (#[.int .u8 (k : Int), .int .u64 0, .int .u64 0, .int .u64 0, .int .u64 0, .int .u64 0, .int .u64 0, .int .u64 0, .int .i64 0, .int .i64 0, .int .i64 0, .int .i64 0, .slice none 0 0, .slice none 0 0, .slice none 0 0, .slice none 0 0] : Array Value) := by
 have e : (UInt8.ofNat k).toNat = k := UInt8.toNat_ofNat_of_lt' (by show k < 256; omega)
 simp [noteV, kindN, mkN, Value.cells, e]
end Go.Proofs.YtjkffjngamagkaaDoor
