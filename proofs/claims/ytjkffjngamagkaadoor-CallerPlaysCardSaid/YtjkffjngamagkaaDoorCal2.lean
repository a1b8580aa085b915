/- package caller: is a number taken? -/
import Derived.Test.YtjkffjngamagkaaDoorCal1
import Derived.Deep.DeepCutAuto
namespace Go.Arm
theorem any_take_snoc {α : Type} (f : α → Bool) (l : List α) (j : Nat) (y : α) (h : l[j]? = some y) (h1 : (l.take j).any f = false) (h2 : f y = false) : (l.take (j + 1)).any f = false := by
 obtain ⟨hlt, rfl⟩ := List.getElem?_eq_some_iff.1 h
 rw [List.take_succ_eq_append_getElem hlt]
 simp only [List.any_append, h1, List.any_cons, h2, List.any_nil, Bool.or_false]
theorem any_hit {α : Type} (f : α → Bool) (l : List α) (j : Nat) (y : α) (h : l[j]? = some y) (h2 : f y = true) : l.any f = true :=
 List.any_eq_true.2 ⟨y, List.mem_of_getElem? h, h2⟩
end Go.Arm
namespace Go.Proofs.YtjkffjngamagkaaDoor
open Go Go.RowKit Go.Arm
theorem pclo_any (w : World) (S : Nat → Prop) (b h : Nat) (x : WantR) (num : UInt64) (hx : BatB w S b x) (hh : Blk w h 26 #[.int .u64 (num.toNat : Int)]) :
  Calls Tryd.prog 82 #[.pointer (some ⟨b, 0, none⟩), .pointer (some ⟨h, 0, none⟩)] w fun e w' => e = .returned (.bool (x.note.batch == num)) ∧ Below w.heap.size w w' := by
 obtain ⟨v, hv, _⟩ := hx
 rw [← u64_beq]
 go_enter Tryd.func82, Tryd.ntmps82
 go_upto_region 1 with (fail)
 have hd := (Below.refl w.heap.size w).drew
 have hvd := hv.below hd hv.lt
 have hhd := hh.below hd (Blk.lt hh)
 refine wp_region_D (fun wq => Blk wq b 155 #[.int .u64 (x.note.batch.toNat : Int), .bool x.over, .int .i64 x.code, .int .u64 (x.stamp.toNat : Int), v] ∧ Blk wq h 26 #[.int .u64 (num.toNat : Int)]) 100 (fun _ => True) 8 rfl (by kernel_rfl) ?_
 refine tkZ 0 4 (.pointer (some ⟨b, 0, none⟩)) rfl rfl (.inl ⟨by rfl, fun _ _ => by kernel_rfl⟩) (⟨hvd, hhd⟩) (.inr trivial) ?_
 simp only [Act.put, zqA, zqB, zqC]
 refine tkZ 1 5 (.pointer (some ⟨b, 0, none⟩)) rfl rfl (.inl ⟨by rfl, fun _ _ => by kernel_rfl⟩) (⟨hvd, hhd⟩) (.inr trivial) ?_
 simp only [Act.put, zqA, zqB, zqC]
 refine tkZ 2 6 (.pointer (some ⟨b, 0, none⟩)) rfl rfl (.inl ⟨by rfl, fun _ _ => by go_simp⟩) (⟨hvd, hhd⟩) (.inr trivial) ?_
 simp only [Act.put, zqA, zqB, zqC]
 refine tkZ 3 7 (.pointer (some ⟨b, 0, none⟩)) rfl rfl (.inl ⟨by rfl, fun _ _ => by go_simp⟩) (⟨hvd, hhd⟩) (.inr trivial) ?_
 simp only [Act.put, zqA, zqB, zqC]
 refine tkZ 4 8 (.int .u64 (x.note.batch.toNat : Int)) rfl rfl (blk_yields oneU64 (by rfl) rfl rfl fun _ h => h.1) (⟨hvd, hhd⟩) (.inr trivial) ?_
 simp only [Act.put, zqA, zqB, zqC]
 refine tkZ 5 9 (.int .u64 (num.toNat : Int)) rfl rfl (blk_yields oneU64 (by rfl) rfl rfl fun _ h => h.2) (⟨hvd, hhd⟩) (.inr trivial) ?_
 simp only [Act.put, zqA, zqB, zqC]
 refine tkZ 6 10 (.bool ((x.note.batch.toNat : Int) == (num.toNat : Int))) rfl rfl (.inl ⟨by rfl, fun _ _ => by go_simp⟩) (⟨hvd, hhd⟩) (.inr trivial) ?_
 simp only [Act.put, zqA, zqB, zqC]
 refine tkZ 7 3 (.bool ((x.note.batch.toNat : Int) == (num.toNat : Int))) rfl rfl (.inl ⟨by rfl, fun _ _ => by kernel_rfl⟩) (⟨hvd, hhd⟩) (.inr trivial) ?_
 simp only [Act.put, zqA, zqB, zqC]
 refine wpAnyD_done (by kernel_rfl) ?_
 go_wp2_with (fail)
 go_ret
 exact ⟨rfl, hd⟩
set_option maxRecDepth 100000 in
theorem index_PB (w : World) (S M : Nat → Prop) (base : Nat) (bs : List Nat) (xs : List WantR) (p : Value) (h : Nat) (num : UInt64) (hp : Own w base 151 (fun _ => False) bs p) (hE : Each (BatB w S) base M bs xs) (hh : Blk w h 26 #[.int .u64 (num.toNat : Int)]) :
  Calls Tryd.prog 107 #[p, .func (.func 82) #[] #[.pointer (some ⟨h, 0, none⟩)]] w fun e w' => ∃ k : Int, e = .returned (.int .i64 k) ∧ (decide (0 ≤ k) = xs.any fun x => x.note.batch == num) ∧ Below w.heap.size w w' := by
 have hp0 := hp.sl'.old
 have hll : bs.length ≤ 9223372036854775807 := hp0.length_le
 have hE0 : Each (BatB w (· < w.heap.size)) base (· < w.heap.size) bs xs := hE.mono (fun b hb _ => ?_) fun b x _ _ h => h.keep rfl fun k _ hk => ⟨rfl, hk⟩
 case refine_1 =>
  obtain ⟨i, hi, e⟩ := List.mem_iff_getElem.1 hb
  have hi2 : i < xs.length := hE.1 ▸ hi
  obtain ⟨v, hv, _⟩ := hE.2.2.2 i b xs[i] (by simp [← e, hi]) (by simp [hi2])
  exact hv.lt
 have HL := Lib.hid hE.1
 clear hp hE
 go_enter Tryd.func107, Tryd.ntmps107
 go_wp2_with (first | ((with_reducible apply ugZ); rfl) | ((with_reducible (first | apply len_B | apply len_PB | apply len_PQ | apply len_L | apply len_Bat | apply len_Qst | apply len_H)); assumption) | ((with_reducible refine stop_ig kC ?_ ?_); rfl))
 go_loopg [5, 8] (bs.length + 1) (fun k x i wr => ∃ j : Nat, k = bs.length - j + 1 ∧ j ≤ bs.length ∧ i = .int .i64 j ∧ Below w.heap.size w wr ∧ ((xs.take j).any fun x => x.note.batch == num) = false)
 case atStart => exact ⟨0, by omega, by omega, rfl, Below.refl _ _, by simp⟩
 case round =>
  obtain ⟨j, hk, hj, rfl, hb, hall⟩ := hrel
  have Hk := Lib.hid hk
  have Hall := Lib.hid hall
  clear hk hall
  have hpr := hp0.below hb (Nat.le_refl _)
  have hhr := hh.below hb (Blk.lt hh)
  by_cases hlt : j < bs.length
  ·go_wp2_with (first | ((with_reducible apply ugZ); rfl) | ((with_reducible (first | apply len_B | apply len_PB | apply len_PQ | apply len_L | apply len_Bat | apply len_Qst | apply len_H)); assumption) | ((with_reducible refine stop_ig kC ?_ ?_); rfl))
   refine Stop.go (idx_PB hpr rfl (by omega) (by omega) fun b o y hy hc => ?_)
   have hy : bs[j]? = some y := by simpa using hy
   obtain ⟨z, hz⟩ : ∃ z, xs[j]? = some z := ⟨_, List.getElem?_eq_getElem (by have := HL.out; omega)⟩
   have hB := (hE0.2.2.2 j y z hy hz).keep (w' := wr) (S' := (· < w.heap.size)) (hb.block y (hE0.2.2.1 y (List.mem_of_getElem? hy)).2) fun k hk _ => ⟨hb.block k hk, hk⟩
   have Hz := Lib.hid hz
   clear hy hz
   go_wp2_with (fail)
   refine (pclo_any wr _ y h z num hB hhr).mono ?_
   rintro e w2 ⟨rfl, hbn⟩
   have hb2 := below_on hb hbn hb.size
   cases hg : (z.note.batch == num)
   ·go_wp2_with (fail)
    go_roundg (bs.length - (j + 1) + 1)
    case measure => have := Hk.out; omega
    case rel => exact ⟨j + 1, by omega, by omega, by go_num, hb2, any_take_snoc _ xs j z Hz.out Hall.out hg⟩
   ·go_wp2_with (fail)
    go_ret
    exact ⟨_, rfl, by rw [any_hit _ xs j z Hz.out hg]; simp, hb2⟩
  ·have e : (xs.any fun x => x.note.batch == num) = false := by
    have := Hall.out
    rwa [List.take_of_length_le (by have := HL.out; omega)] at this
   have He := Lib.hid e
   clear e
   go_wp2_with (fail)
   go_ret
   exact ⟨_, rfl, by rw [He.out]; simp, hb⟩
theorem contains_PB (w : World) (S M : Nat → Prop) (base : Nat) (bs : List Nat) (xs : List WantR) (p : Value) (h : Nat) (num : UInt64) (hp : Own w base 151 (fun _ => False) bs p) (hE : Each (BatB w S) base M bs xs) (hh : Blk w h 26 #[.int .u64 (num.toNat : Int)]) :
  Calls Tryd.prog 81 #[p, .func (.func 82) #[] #[.pointer (some ⟨h, 0, none⟩)]] w fun e w' => e = .returned (.bool (xs.any fun x => x.note.batch == num)) ∧ Below w.heap.size w w' := by
 go_enter Tryd.func81, Tryd.ntmps81
 go_wp2_with (fail)
 refine (index_PB w S M base bs xs p h num hp hE hh).mono ?_
 rintro e w1 ⟨k, rfl, hk, hb⟩
 have Hk := Lib.hid hk
 clear hk
 go_wp2_with (fail)
 go_ret
 rw [← Hk.out]
 exact ⟨rfl, hb⟩
theorem qclo_any (w : World) (S : Nat → Prop) (b h : Nat) (x : WantR) (n : NoteR) (up uo uv uh : Value) (hx : QstB w S b x) (hh : Box w h n up uo uv uh) :
  Calls Tryd.prog 85 #[.pointer (some ⟨b, 0, none⟩), .pointer (some ⟨h, 0, none⟩)] w fun e w' => e = .returned (.bool (x.note.query == n.query)) ∧ Below w.heap.size w w' := by
 obtain ⟨vh, v, hv, _, _⟩ := hx
 rw [← u64_beq]
 go_enter Tryd.func85, Tryd.ntmps85
 go_upto_region 1 with (fail)
 have hd := (Below.refl w.heap.size w).drew
 have hvd := hv.below hd hv.lt
 have hhd := hh.below hd (Blk.lt hh)
 refine wp_region_D (fun wq => Blk wq b 163 #[.int .u64 (x.note.query.toNat : Int), .bool x.over, .int .i64 x.code, .int .u64 (x.stamp.toNat : Int), vh, v] ∧ Box wq h n up uo uv uh) 100 (fun _ => True) 9 rfl (by kernel_rfl) ?_
 refine tkZ 0 4 (.pointer (some ⟨b, 0, none⟩)) rfl rfl (.inl ⟨by rfl, fun _ _ => by kernel_rfl⟩) (⟨hvd, hhd⟩) (.inr trivial) ?_
 simp only [Act.put, zqA, zqB, zqC]
 refine tkZ 1 5 (.pointer (some ⟨b, 0, none⟩)) rfl rfl (.inl ⟨by rfl, fun _ _ => by kernel_rfl⟩) (⟨hvd, hhd⟩) (.inr trivial) ?_
 simp only [Act.put, zqA, zqB, zqC]
 refine tkZ 2 6 (.pointer (some ⟨b, 0, none⟩)) rfl rfl (.inl ⟨by rfl, fun _ _ => by go_simp⟩) (⟨hvd, hhd⟩) (.inr trivial) ?_
 simp only [Act.put, zqA, zqB, zqC]
 refine tkZ 3 7 (.pointer (some ⟨b, 0, none⟩)) rfl rfl (.inl ⟨by rfl, fun _ _ => by go_simp⟩) (⟨hvd, hhd⟩) (.inr trivial) ?_
 simp only [Act.put, zqA, zqB, zqC]
 refine tkZ 4 8 (.int .u64 (x.note.query.toNat : Int)) rfl rfl (blk_yields oneU64 (by rfl) rfl rfl fun _ h => h.1) (⟨hvd, hhd⟩) (.inr trivial) ?_
 simp only [Act.put, zqA, zqB, zqC]
 refine tkZ 5 9 (.pointer (some ⟨h, 6, none⟩)) rfl rfl (.inl ⟨by rfl, fun _ _ => by go_simp⟩) (⟨hvd, hhd⟩) (.inr trivial) ?_
 simp only [Act.put, zqA, zqB, zqC]
 refine tkZ 6 10 (.int .u64 (n.query.toNat : Int)) rfl rfl (blk_yields (cs := (noteV n up uo uv uh).cells) oneU64 (by rfl) rfl rfl fun _ h => h.2) (⟨hvd, hhd⟩) (.inr trivial) ?_
 simp only [Act.put, zqA, zqB, zqC]
 refine tkZ 7 11 (.bool ((x.note.query.toNat : Int) == (n.query.toNat : Int))) rfl rfl (.inl ⟨by rfl, fun _ _ => by go_simp⟩) (⟨hvd, hhd⟩) (.inr trivial) ?_
 simp only [Act.put, zqA, zqB, zqC]
 refine tkZ 8 3 (.bool ((x.note.query.toNat : Int) == (n.query.toNat : Int))) rfl rfl (.inl ⟨by rfl, fun _ _ => by kernel_rfl⟩) (⟨hvd, hhd⟩) (.inr trivial) ?_
 simp only [Act.put, zqA, zqB, zqC]
 refine wpAnyD_done (by kernel_rfl) ?_
 go_wp2_with (fail)
 go_ret
 exact ⟨rfl, hd⟩
set_option maxRecDepth 100000 in
theorem index_PQ (w : World) (S M : Nat → Prop) (base : Nat) (bs : List Nat) (xs : List WantR) (p : Value) (h : Nat) (n : NoteR) (up uo uv uh : Value) (hp : Own w base 161 (fun _ => False) bs p) (hE : Each (QstB w S) base M bs xs) (hh : Box w h n up uo uv uh) :
  Calls Tryd.prog 108 #[p, .func (.func 85) #[] #[.pointer (some ⟨h, 0, none⟩)]] w fun e w' => ∃ k : Int, e = .returned (.int .i64 k) ∧ (decide (0 ≤ k) = xs.any fun x => x.note.query == n.query) ∧ Below w.heap.size w w' := by
 have hp0 := hp.sl'.old
 have hll : bs.length ≤ 9223372036854775807 := hp0.length_le
 have hE0 : Each (QstB w (· < w.heap.size)) base (· < w.heap.size) bs xs := hE.mono (fun b hb _ => ?_) fun b x _ _ h => h.keep rfl fun k _ hk => ⟨rfl, hk⟩
 case refine_1 =>
  obtain ⟨i, hi, e⟩ := List.mem_iff_getElem.1 hb
  have hi2 : i < xs.length := hE.1 ▸ hi
  obtain ⟨vh, v, hv, _, _⟩ := hE.2.2.2 i b xs[i] (by simp [← e, hi]) (by simp [hi2])
  exact hv.lt
 have HL := Lib.hid hE.1
 clear hp hE
 go_enter Tryd.func108, Tryd.ntmps108
 go_wp2_with (first | ((with_reducible apply ugZ); rfl) | ((with_reducible (first | apply len_B | apply len_PB | apply len_PQ | apply len_L | apply len_Bat | apply len_Qst | apply len_H)); assumption) | ((with_reducible refine stop_ig kC ?_ ?_); rfl))
 go_loopg [5, 8] (bs.length + 1) (fun k x i wr => ∃ j : Nat, k = bs.length - j + 1 ∧ j ≤ bs.length ∧ i = .int .i64 j ∧ Below w.heap.size w wr ∧ ((xs.take j).any fun x => x.note.query == n.query) = false)
 case atStart => exact ⟨0, by omega, by omega, rfl, Below.refl _ _, by simp⟩
 case round =>
  obtain ⟨j, hk, hj, rfl, hb, hall⟩ := hrel
  have Hk := Lib.hid hk
  have Hall := Lib.hid hall
  clear hk hall
  have hpr := hp0.below hb (Nat.le_refl _)
  have hhr := hh.below hb (Blk.lt hh)
  by_cases hlt : j < bs.length
  ·go_wp2_with (first | ((with_reducible apply ugZ); rfl) | ((with_reducible (first | apply len_B | apply len_PB | apply len_PQ | apply len_L | apply len_Bat | apply len_Qst | apply len_H)); assumption) | ((with_reducible refine stop_ig kC ?_ ?_); rfl))
   refine Stop.go (idx_PQ hpr rfl (by omega) (by omega) fun b o y hy hc => ?_)
   have hy : bs[j]? = some y := by simpa using hy
   obtain ⟨z, hz⟩ : ∃ z, xs[j]? = some z := ⟨_, List.getElem?_eq_getElem (by have := HL.out; omega)⟩
   have hB := (hE0.2.2.2 j y z hy hz).keep (w' := wr) (S' := (· < w.heap.size)) (hb.block y (hE0.2.2.1 y (List.mem_of_getElem? hy)).2) fun k hk _ => ⟨hb.block k hk, hk⟩
   have Hz := Lib.hid hz
   clear hy hz
   go_wp2_with (fail)
   refine (qclo_any wr _ y h z n up uo uv uh hB hhr).mono ?_
   rintro e w2 ⟨rfl, hbn⟩
   have hb2 := below_on hb hbn hb.size
   cases hg : (z.note.query == n.query)
   ·go_wp2_with (fail)
    go_roundg (bs.length - (j + 1) + 1)
    case measure => have := Hk.out; omega
    case rel => exact ⟨j + 1, by omega, by omega, by go_num, hb2, any_take_snoc _ xs j z Hz.out Hall.out hg⟩
   ·go_wp2_with (fail)
    go_ret
    exact ⟨_, rfl, by rw [any_hit _ xs j z Hz.out hg]; simp, hb2⟩
  ·have e : (xs.any fun x => x.note.query == n.query) = false := by
    have := Hall.out
    rwa [List.take_of_length_le (by have := HL.out; omega)] at this
   have He := Lib.hid e
   clear e
   go_wp2_with (fail)
   go_ret
   exact ⟨_, rfl, by rw [He.out]; simp, hb⟩
theorem contains_PQ (w : World) (S M : Nat → Prop) (base : Nat) (bs : List Nat) (xs : List WantR) (p : Value) (h : Nat) (n : NoteR) (up uo uv uh : Value) (hp : Own w base 161 (fun _ => False) bs p) (hE : Each (QstB w S) base M bs xs) (hh : Box w h n up uo uv uh) :
  Calls Tryd.prog 84 #[p, .func (.func 85) #[] #[.pointer (some ⟨h, 0, none⟩)]] w fun e w' => e = .returned (.bool (xs.any fun x => x.note.query == n.query)) ∧ Below w.heap.size w w' := by
 go_enter Tryd.func84, Tryd.ntmps84
 go_wp2_with (fail)
 refine (index_PQ w S M base bs xs p h n up uo uv uh hp hE hh).mono ?_
 rintro e w1 ⟨k, rfl, hk, hb⟩
 have Hk := Lib.hid hk
 clear hk
 go_wp2_with (fail)
 go_ret
 rw [← Hk.out]
 exact ⟨rfl, hb⟩
end Go.Proofs.YtjkffjngamagkaaDoor
