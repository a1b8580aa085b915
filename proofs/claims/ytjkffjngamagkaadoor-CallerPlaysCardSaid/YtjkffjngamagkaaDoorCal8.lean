/- armillarylaw19: body, awake; callers behind one word. -/
import Derived.Test.YtjkffjngamagkaaDoorCal7
import Derived.Test.YtjkffjngamagkaaDoorRefFewN
import Derived.Test.YtjkffjngamagkaaDoorRefPack
namespace Go.Arm
open Go.RowKit
def bodyOf (n : NoteR) : List UInt8 := if nright (fewN n) = true then frame (encNote (fewN n)) else []
theorem CallR.Ok.put {c : CallR} (h : c.Ok) (num : UInt64) (l : List OpR) : (c.put num l).Ok := by
 obtain ⟨h1, h2, h3, h4⟩ := h
 unfold CallR.put
 split
 ·rename_i hc
  have hr : nright (askN num l) = true := by
   unfold CallR.putCode at hc
   by_cases hn : nright (askN num l) = false
   ·rw [if_pos hn] at hc; cases hc
   ·simpa using hn
  have h64 : c.B.length < 64 := by
   unfold CallR.putCode at hc
   rw [if_neg (by simp [hr])] at hc
   split at hc
   ·cases hc
   ·split at hc
    ·cases hc
    ·omega
  refine ⟨by simp; omega, h2, ?_, h4⟩
  rintro x (hx | hx)
  ·rcases List.mem_append.1 hx with hx | hx
   ·exact h3 x (.inl hx)
   ·simp at hx; subst hx; exact hr
  ·exact h3 x (.inr hx)
 ·exact ⟨h1, h2, h3, h4⟩
theorem CallR.Ok.ask {c : CallR} (h : c.Ok) (n : NoteR) : (c.ask n).Ok := by
 obtain ⟨h1, h2, h3, h4⟩ := h
 unfold CallR.ask
 split
 ·rename_i hc
  unfold CallR.askCode at hc
  have hr : nright n = true := by
   by_cases hn : nright n = false
   ·rw [if_pos (.inl hn)] at hc; cases hc
   ·simpa using hn
  have h64 : c.Q.length < 64 := by
   split at hc
   ·cases hc
   ·split at hc
    ·cases hc
    ·split at hc
     ·cases hc
     ·omega
  refine ⟨h1, by simp; omega, ?_, ?_⟩
  ·rintro x (hx | hx)
   ·exact h3 x (.inl hx)
   ·rcases List.mem_append.1 hx with hx | hx
    ·exact h3 x (.inr hx)
    ·simp at hx; subst hx; exact hr
  ·intro x hx
   rcases List.mem_append.1 hx with hx | hx
   ·exact h4 x hx
   ·simp at hx; subst hx; exact ⟨by simp [newW], fun h hh => by simp [newW] at hh⟩
 ·exact ⟨h1, h2, h3, h4⟩
theorem right_hits {n : NoteR} (h : nright n = true) : n.hits.length ≤ 16 ∧ ∀ y, y ∈ n.hits → y.vec.length ≤ 8 := by
 unfold nright bounded at h
 simp only [Bool.and_eq_true, decide_eq_true_eq] at h
 refine ⟨h.2.1.1.1.1.2.2.2, fun y hy => ?_⟩
 have h1 := List.all_eq_true.1 h.2.2 y hy
 unfold hitRight vecRight at h1
 simp only [Bool.and_eq_true, decide_eq_true_eq] at h1
 exact h1.2.1.2
theorem hearB_note (n : NoteR) (x : WantR) : (hearB n x).note = x.note := by unfold hearB; split <;> rfl
theorem hearQ_note (n : NoteR) (x : WantR) : (hearQ n x).note = x.note := by unfold hearQ; split <;> rfl
theorem hearQ_hits (n : NoteR) (x : WantR) : (hearQ n x).hits = x.hits ∨ (hearQ n x).hits = n.hits := by unfold hearQ; split <;> simp
theorem CallR.Ok.heard {c : CallR} (h : c.Ok) {n : NoteR} (hn : nright n = true) : (c.heard n).Ok := by
 obtain ⟨h1, h2, h3, h4⟩ := h
 unfold CallR.heard
 split
 ·refine ⟨by simpa using h1, h2, ?_, h4⟩
  rintro x (hx | hx)
  ·obtain ⟨y, hy, rfl⟩ := List.mem_map.1 hx
   rw [hearB_note]; exact h3 y (.inl hy)
  ·exact h3 x (.inr hx)
 ·split
  ·refine ⟨h1, by simpa using h2, ?_, ?_⟩
   ·rintro x (hx | hx)
    ·exact h3 x (.inl hx)
    ·obtain ⟨y, hy, rfl⟩ := List.mem_map.1 hx
     rw [hearQ_note]; exact h3 y (.inr hy)
   ·intro x hx
    obtain ⟨y, hy, rfl⟩ := List.mem_map.1 hx
    rcases hearQ_hits n y with e | e
    ·rw [e]; exact h4 y hy
    ·rw [e]; exact right_hits hn
  ·exact ⟨h1, h2, h3, h4⟩
def CallR.hearN (c : CallR) (src : Int) (n : NoteR) : CallR := if nright (fewN n) = true ∧ src = 0 then c.heard (fewN n) else c
theorem CallR.Ok.hearN {c : CallR} (h : c.Ok) (src : Int) (n : NoteR) : (c.hearN src n).Ok := by
 unfold CallR.hearN
 split
 ·rename_i hc; exact h.heard hc.1
 ·exact h
end Go.Arm
namespace Go.Proofs.YtjkffjngamagkaaDoor
open Go Go.RowKit Go.Arm
theorem nunp_body (n : NoteR) : nunp plim (bodyOf n) = if nright (fewN n) = true then (fewN n, 0) else (zeroN, 2) := by
 unfold bodyOf
 split
 ·rename_i h
  rw [nunp_frame plim _ (encNote_len (nright_fair h)), unp_right plim_ok h]
 ·rfl
theorem hear_body (c : CallR) (src : Int) (n : NoteR) : c.hear src (nunp plim (bodyOf n)).1 (nunp plim (bodyOf n)).2 = c.hearN src n := by
 rw [nunp_body]
 unfold CallR.hear CallR.hearN
 by_cases h : nright (fewN n) = true
 ·simp only [h, if_true, true_and]
  by_cases hs : src = 0 <;> simp [hs]
 ·simp [h]
theorem bodyOf_len (n : NoteR) : (bodyOf n).length ≤ 5000 := by
 unfold bodyOf
 split
 ·rename_i h; exact body_len h
 ·simp
theorem body_any (w : World) (_ : Srt w) (_ : Nib w) (S : Nat → Prop) (n : NoteR) (V : Value) (hV : Nt w S n V) :
  Calls Tryd.prog 35 #[V] w fun e w' => ∃ v, e = .returned v ∧ OwnB w' w.heap.size (bodyOf n) v ∧ Below w.heap.size w w' := by
 have hV0 := hV.old
 clear hV
 have hrp := fun w S V h => rpack_any w S (fewN n) V h
 obtain ⟨EC, hEC⟩ : ∃ EC : Int, EC = (if nright (fewN n) = true then 0 else 4) := ⟨_, rfl⟩
 have hb : bodyOf n = if nright (fewN n) = true then frame (encNote (fewN n)) else [] := rfl
 rw [← hEC, ← hb] at hrp
 have HRP := Lib.hid hrp
 clear hrp hEC hb
 obtain ⟨vp, vo, vv, vh, hVe, y1, y2, y3, y4⟩ := nt_shape hV0
 go_enter Tryd.func35, Tryd.ntmps35
 subst hVe
 go_wp2_with (first | ((with_reducible apply ugZ); rfl) | ((with_reducible refine stop_if kD ?_ ?_); rfl))
 refine Stop.go (box_R rfl fun b w1 bx1 hbg ha1 => ?_)
 have hV1 := hV0.below ha1 (Nat.le_refl _)
 go_wp2_with (first | ((with_reducible apply ugZ); rfl) | ((with_reducible refine stop_if kD ?_ ?_); rfl))
 refine Stop.go (load_R bx1 rfl ?_)
 go_wp2_with (first | ((with_reducible apply ugZ); rfl) | ((with_reducible refine stop_if kD ?_ ?_); rfl))
 refine (rfewn_any w1 _ n _ hV1).mono ?_
 rintro e w2 ⟨V2, rfl, hV2, hb2⟩
 have ha2 := below_on ha1 hb2 ha1.size
 go_wp2_with (first | ((with_reducible apply ugZ); rfl) | ((with_reducible refine stop_if kD ?_ ?_); rfl))
 refine (HRP.out w2 _ _ hV2).mono ?_
 rintro e w3 ⟨pv, rfl, hpv, hb3⟩
 have ha3 := below_on ha2 hb3 ha2.size
 have s2 := ha2.size
 clear HRP
 go_wp2_with (fail)
 go_ret
 exact ⟨_, rfl, hpv.rebase fun b hb => by have := (hpv.ge b hb).1; omega, ha3⟩
def Has (w : World) (base g : Nat) (c : CallR) : Prop := ∃ M S, CalP w base M S g c ∧ Fr w base M S ∧ ∀ k, S k → base ≤ k
theorem Has.below {w w' : World} {base g : Nat} {c : CallR} (h : Has w base g c) {B : Nat} (hb : Below B w w') (hB : w.heap.size ≤ B) : Has w' base g c := by
 obtain ⟨M, S, h1, h2, h3⟩ := h
 exact ⟨M, S, h1.below h2 hb hB, h2.below hb, h3⟩
theorem sx_base {w : World} {S M : Nat → Prop} {base : Nat} (h : ∀ k, S k → base ≤ k) (hb : base ≤ w.heap.size) : ∀ k, Sx w S M k → base ≤ k := fun k hk => hk.2.elim (h k) fun h => by omega
theorem put_has (w : World) (hN : Srt w) (hB : Nib w) (base g : Nat) (S0 : Nat → Prop) (c : CallR) (num : UInt64) (l : List OpR) (vo : Value) (hC : Has w base g c) (hbase : base ≤ w.heap.size) (ho : Sl w S0 l vo) (hOk : c.Ok) :
  Calls Tryd.prog 29 #[.pointer (some ⟨g, 0, none⟩), .int .u64 (num.toNat : Int), vo] w fun e w' => ∃ ao cp, e = .returned (.tuple #[.slice ao (c.putL num l).length cp, .int .i64 (c.putCode num l)]) ∧ Has w' base g (c.put num l) ∧ Below base w w' := by
 obtain ⟨M, S, h1, h2, h3⟩ := hC
 refine (put_any w hN hB base M S S0 g c num l vo h1 h2 hbase ho hOk.hB).mono ?_
 rintro e w' ⟨v, M', rfl, k1, k2, k3, k4, k5⟩
 obtain ⟨ao, cap, cs, rfl, _⟩ := k5
 exact ⟨_, _, rfl, ⟨_, _, k1, k2, sx_base h3 hbase⟩, k4.below hbase fun k hk => (h2 k hk).1⟩
theorem hear_has (w : World) (hN : Srt w) (hB : Nib w) (base g : Nat) (S0 : Nat → Prop) (c : CallR) (src : Int) (n : NoteR) (p : Value) (hC : Has w base g c) (hbase : base ≤ w.heap.size) (hp : Sl w S0 (bodyOf n) p) (hOk : c.Ok) :
  Calls Tryd.prog 36 #[.pointer (some ⟨g, 0, none⟩), .int .i64 src, p] w fun e w' => e = .returned (.tuple #[]) ∧ Has w' base g (c.hearN src n) ∧ Below base w w' := by
 obtain ⟨M, S, h1, h2, h3⟩ := hC
 refine (hear_any w hN hB base M S S0 g c src (bodyOf n) p h1 h2 hbase hp (by have := bodyOf_len n; omega) hOk).mono ?_
 rintro e w' ⟨rfl, k1, k2, k4⟩
 rw [hear_body] at k1
 exact ⟨rfl, ⟨_, _, k1, k2, sx_base h3 hbase⟩, k4.below hbase fun k hk => (h2 k hk).1⟩
theorem wake_has (w : World) (base g : Nat) (c : CallR) (hC : Has w base g c) (hOk : c.Ok) :
  Calls Tryd.prog 31 #[.pointer (some ⟨g, 0, none⟩)] w fun e w' => ∃ ao cp, e = .returned (.slice ao c.wake.length cp) ∧ Below w.heap.size w w' := by
 obtain ⟨M, S, h1, h2, _⟩ := hC
 refine (wake_any w base M S g c h1 h2 hOk).mono ?_
 rintro e w' ⟨v, rfl, k1, k2⟩
 obtain ⟨ao, cap, cs, rfl, _⟩ := k1
 exact ⟨_, _, rfl, k2⟩
theorem idle_has (w : World) (base g : Nat) (c : CallR) (hC : Has w base g c) (hOk : c.Ok) :
  Calls Tryd.prog 80 #[.pointer (some ⟨g, 0, none⟩)] w fun e w' => e = .returned (.bool (c.wake.length == 0)) ∧ Below w.heap.size w w' := by
 obtain ⟨M, S, h1, h2, _⟩ := hC
 exact idle_any w base M S g c h1 h2 hOk
theorem batches_has (w : World) (base g : Nat) (c : CallR) (hC : Has w base g c) (hOk : c.Ok) :
  Calls Tryd.prog 41 #[.pointer (some ⟨g, 0, none⟩)] w fun e w' => ∃ v, e = .returned v ∧ Sl w' (fun k => w.heap.size ≤ k ∧ k < w'.heap.size) (c.B.map WantR.bat) v ∧ Below w.heap.size w w' := by
 obtain ⟨M, S, h1, h2, _⟩ := hC
 exact batches_any w base M S g c h1 h2 hOk
theorem new_has (w : World) (s : Int) (h1 : 1 ≤ s) (h2 : s ≤ 15) : Calls Tryd.prog 28 #[.int .i64 s] w fun e w' =>
  ∃ g, e = .returned (.tuple #[.pointer (some ⟨g, 0, none⟩), .int .i64 0]) ∧ Has w' w.heap.size g ⟨s, [], []⟩ ∧ Below w.heap.size w w' := by
 refine (cnew_any w s).mono ?_
 rintro e w' ⟨h, _, hb⟩
 obtain ⟨g, rfl, k1, k2⟩ := h ⟨h1, h2⟩
 exact ⟨g, rfl, ⟨_, _, k1, k2, fun _ h => h.elim⟩, hb⟩
theorem Has.mono {w : World} {base base' g : Nat} {c : CallR} (h : Has w base g c) (hb : base' ≤ base) : Has w base' g c := by
 obtain ⟨M, S, ⟨vb, vq, bs, qs, h1, h2, h3, h4, h5, h6, h7, h8, h9⟩, hF, hS⟩ := h
 exact ⟨M, S, ⟨vb, vq, bs, qs, h1, by omega, h3, h4.rebase fun b hb => by have := (h4.ge b hb).1; omega, h5, h6.rebase fun b hb => by have := (h6.ge b hb).1; omega, h7, ⟨h8.1, h8.2.1, fun b hb => ⟨by have := (h8.2.2.1 b hb).1; omega, (h8.2.2.1 b hb).2⟩, h8.2.2.2⟩, ⟨h9.1, h9.2.1, fun b hb => ⟨by have := (h9.2.2.1 b hb).1; omega, (h9.2.2.1 b hb).2⟩, h9.2.2.2⟩⟩, fun k hk => ⟨by have := (hF k hk).1; omega, (hF k hk).2⟩, fun k hk => by have := hS k hk; omega⟩
section
variable {ops : Array Oper} {Q : Exit → Act → World → Prop} {a : Act} {w : World} {rest : List Oper}
variable {dst : Option Tmp} {ty : TypeId} {pos : String} {after : Array Edge}
theorem idx_Bat {Q : Exit → Act → World → Prop} {x i : Operand} {S : Nat → Prop} {l : List BatR} (hx : Sl w S l (a.eval x)) {k : IntKind} {n : Int} (hi : a.eval i = .int k n) (h0 : 0 ≤ n) (hn : n < l.length)
  (h : ∀ b o y, l[n.toNat]? = some y → w.cell? ⟨b, o, none⟩ = some (.int .u64 (y.num.toNat : Int)) → w.cell? ⟨b, o + 1, none⟩ = some (.bool y.over) → w.cell? ⟨b, o + 2, none⟩ = some (.int .i64 y.code) → w.cell? ⟨b, o + 3, none⟩ = some (.int .u64 (y.stamp.toNat : Int)) → wpList Tryd.prog ops Q rest (a.put dst (.pointer (some ⟨b, o, none⟩))) w) :
  wpList Tryd.prog ops Q (⟨dst, .indexAddr 87 x i, ty, pos, after, none⟩ :: rest) a w :=
 wpList_indexR rowBat (by decide) hx hi h0 hn fun b o y cs hy hr hc => by
  obtain rfl : cs = _ := hr
  exact h b o y hy (hc 0 _ rfl) (hc 1 _ rfl) (hc 2 _ rfl) (hc 3 _ rfl)
end
end Go.Proofs.YtjkffjngamagkaaDoor
