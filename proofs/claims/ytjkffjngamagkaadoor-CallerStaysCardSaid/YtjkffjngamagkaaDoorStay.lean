/- armillarylaw19: what CallerStays watches, in plain Lean. -/
import Derived.Test.YtjkffjngamagkaaDoorCalOp
namespace Go.Arm
open Go.RowKit
/-- f: of a batch that is over with OK, its stamp and one more. -/
structure StInv (c : CallR) (f : UInt64 → UInt64) : Prop where
  nd : (c.B.map (·.note.batch)).Nodup
  fz : ∀ k, f k ≠ 0 → ∃ x, x ∈ c.B ∧ x.note.batch = k ∧ x.over = true ∧ x.code = 0 ∧ f k = x.stamp + 1
  sB : ∀ x, x ∈ c.B → x.stamp.toNat ≤ 1099511627776
  qz : ∀ x, x ∈ c.Q → x.over = false → x.stamp = 0 ∧ x.hits = []
theorem StInv.new (s : Int) : StInv ⟨s, [], []⟩ (fun _ => 0) := ⟨List.nodup_nil, fun k h => absurd rfl h, fun x h => (by simp at h), fun x h => (by simp at h)⟩
theorem nd_of {l : List WantR} (h : (l.map (·.note.batch)).Nodup) {x y : WantR} (hx : x ∈ l) (hy : y ∈ l) (e : x.note.batch = y.note.batch) : x = y := by
  obtain ⟨i, hi, rfl⟩ := List.mem_iff_getElem.1 hx
  obtain ⟨j, hj, rfl⟩ := List.mem_iff_getElem.1 hy
  have := (List.getElem_inj (h₀ := by simpa using hi) (h₁ := by simpa using hj) h).1 (by simpa using e)
  subst this
  rfl
/-- A batch that is watched is as it was. -/
theorem StInv.watched {c : CallR} {f : UInt64 → UInt64} (h : StInv c f) {x : WantR} (hx : x ∈ c.B) (hf : f x.note.batch ≠ 0) : x.over = true ∧ x.code = 0 ∧ f x.note.batch = x.stamp + 1 := by
  obtain ⟨y, hy, e, h1, h2, h3⟩ := h.fz _ hf
  have := nd_of h.nd hy hx e
  subst this
  exact ⟨h1, h2, h3⟩
theorem succ_ne (s : UInt64) (h : s.toNat ≤ 1099511627776) : s + 1 ≠ 0 ∧ (s + 1).toNat = s.toNat + 1 := by
  have e : (s + 1).toNat = s.toNat + 1 := by
    rw [UInt64.toNat_add]
    show (s.toNat + 1) % 18446744073709551616 = _
    omega
  refine ⟨fun e0 => ?_, e⟩
  have := congrArg UInt64.toNat e0
  rw [e] at this
  have z : (0 : UInt64).toNat = 0 := rfl
  omega
/-- A batch that is over with OK is watched from now on. -/
theorem StInv.watch {c : CallR} {f : UInt64 → UInt64} (h : StInv c f) {x : WantR} (hx : x ∈ c.B) (h1 : x.over = true) (h2 : x.code = 0) : StInv c (fun z => if z = x.note.batch then x.stamp + 1 else f z) := by
  refine ⟨h.nd, fun k hk => ?_, h.sB, h.qz⟩
  by_cases e : k = x.note.batch
  · exact ⟨x, hx, e.symm, h1, h2, by rw [if_pos e]⟩
  · simp only [if_neg e] at hk ⊢
    exact h.fz k hk
theorem right_stamp {n : NoteR} (h : nright n = true) : n.stamp.toNat ≤ 1099511627776 := by
  unfold nright bounded at h
  simp only [Bool.and_eq_true, decide_eq_true_eq] at h
  exact h.2.1.1.1.1.1.1.1
theorem hearB_keep (n : NoteR) (x : WantR) (h1 : x.over = true) (h2 : x.code = 0) : hearB n x = x := hearB_over n x h1 h2
theorem hearB_stamp (n : NoteR) (x : WantR) : (hearB n x).stamp = x.stamp ∨ (hearB n x).stamp = n.stamp := by unfold hearB; split <;> simp
theorem hearQ_zero (n : NoteR) (x : WantR) (h : (hearQ n x).over = false) : hearQ n x = x := by
  unfold hearQ at h ⊢
  split
  · rename_i hc; rw [if_pos hc] at h; cases h
  · rfl
theorem StInv.put {c : CallR} {f : UInt64 → UInt64} (h : StInv c f) (num : UInt64) (l : List OpR) : StInv (c.put num l) f := by
  unfold CallR.put
  split
  · rename_i hc
    have hany : (c.B.any fun x => x.note.batch == num) = false := by
      unfold CallR.putCode at hc
      split at hc
      · cases hc
      · split at hc
        · cases hc
        · rename_i h2; simpa using h2
    refine ⟨?_, ?_, ?_, h.qz⟩
    · show ((c.B ++ [newW (askN num l)]).map (·.note.batch)).Nodup
      rw [List.map_append, List.nodup_append]
      refine ⟨h.nd, by simp, ?_⟩
      rintro a ha b hb rfl
      obtain ⟨x, hx, rfl⟩ := List.mem_map.1 ha
      simp only [List.map_cons, List.map_nil, List.mem_singleton] at hb
      have := List.any_eq_false.1 hany x hx
      rw [hb] at this
      exact this (by simp [newW, askN])
    · intro k hk
      obtain ⟨x, hx, r⟩ := h.fz k hk
      exact ⟨x, List.mem_append_left _ hx, r⟩
    · intro x hx
      rcases List.mem_append.1 hx with hx | hx
      · exact h.sB x hx
      · simp at hx; subst hx; show (0 : UInt64).toNat ≤ _; decide
  · exact h
theorem StInv.ask {c : CallR} {f : UInt64 → UInt64} (h : StInv c f) (n : NoteR) : StInv (c.ask n) f := by
  unfold CallR.ask
  split
  · refine ⟨h.nd, h.fz, h.sB, ?_⟩
    intro x hx h1
    rcases List.mem_append.1 hx with hx | hx
    · exact h.qz x hx h1
    · simp at hx; subst hx; exact ⟨rfl, rfl⟩
  · exact h
theorem StInv.heard {c : CallR} {f : UInt64 → UInt64} (h : StInv c f) {n : NoteR} (hn : nright n = true) : StInv (c.heard n) f := by
  unfold CallR.heard
  split
  · refine ⟨?_, ?_, ?_, h.qz⟩
    · show ((c.B.map (hearB n)).map (·.note.batch)).Nodup
      rw [List.map_map]
      have e : ((fun x : WantR => x.note.batch) ∘ hearB n) = fun x => x.note.batch := by funext x; simp [hearB_note]
      rw [e]; exact h.nd
    · intro k hk
      obtain ⟨x, hx, h1, h2, h3, h4⟩ := h.fz k hk
      exact ⟨x, List.mem_map.2 ⟨x, hx, hearB_keep n x h2 h3⟩, h1, h2, h3, h4⟩
    · intro x hx
      obtain ⟨y, hy, rfl⟩ := List.mem_map.1 hx
      rcases hearB_stamp n y with e | e
      · rw [e]; exact h.sB y hy
      · rw [e]; exact right_stamp hn
  · split
    · refine ⟨h.nd, h.fz, h.sB, ?_⟩
      intro x hx h1
      obtain ⟨y, hy, rfl⟩ := List.mem_map.1 hx
      have e := hearQ_zero n y h1
      rw [e] at h1 ⊢
      exact h.qz y hy h1
    · exact h
theorem StInv.step {c : CallR} {f : UInt64 → UInt64} (h : StInv c f) (o : OpC) : StInv (c.step o) f := by
  unfold CallR.step
  split
  · exact h.put _ _
  · split
    · exact h.ask _
    · unfold CallR.hearN
      split
      · rename_i hc; exact h.heard hc.1
      · exact h
/-- How many aren't over. -/
def openN (l : List WantR) : Nat := (l.filter fun x => !x.over).length
theorem openN_snoc (l : List WantR) (j : Nat) (x : WantR) (h : l[j]? = some x) : openN (l.take (j + 1)) = openN (l.take j) + if x.over then 0 else 1 := by
  obtain ⟨hlt, rfl⟩ := List.getElem?_eq_some_iff.1 h
  unfold openN
  rw [List.take_succ_eq_append_getElem hlt, List.filter_append, List.length_append]
  cases hx : l[j].over <;> simp [hx]
theorem openN_le (l : List WantR) : openN l ≤ l.length := List.length_filter_le _ _
theorem wake_open (c : CallR) : c.wake.length = openN c.B + openN c.Q := by
  unfold CallR.wake letsOf openN
  simp
end Go.Arm
namespace Go.Proofs.YtjkffjngamagkaaDoor
open Go Go.RowKit Go.Arm
/-- A caller lies behind 'base', and nothing of it in block x. -/
def HasX (w : World) (base x g : Nat) (c : CallR) : Prop := ∃ M S, CalP w base M S g c ∧ Fr w base M S ∧ (∀ k, S k → base ≤ k) ∧ (∀ k, M k → k ≠ x) ∧ ∀ k, S k → k ≠ x
theorem HasX.has {w : World} {base x g : Nat} {c : CallR} (h : HasX w base x g c) : Has w base g c := by
  obtain ⟨M, S, h1, h2, h3, _⟩ := h
  exact ⟨M, S, h1, h2, h3⟩
theorem Has.x {w : World} {base g : Nat} {c : CallR} (h : Has w base g c) : HasX w base w.heap.size g c := by
  obtain ⟨M, S, h1, h2, h3⟩ := h
  refine ⟨M, fun k => S k ∧ k < w.heap.size, h1.keep (fun k hk => ⟨rfl, hk⟩) fun k hk hlt => ⟨rfl, hk, hlt⟩, fun k hk => ⟨(h2 k hk).1, (h2 k hk).2.1, fun e => (h2 k hk).2.2 e.1⟩, fun k hk => h3 k hk.1, fun k hk => by have := (h2 k hk).2.1; omega, fun k hk => by have := hk.2; omega⟩
theorem HasX.below {w w' : World} {base x g : Nat} {c : CallR} (h : HasX w base x g c) {B : Nat} (hb : Below B w w') (hB : w.heap.size ≤ B) : HasX w' base x g c := by
  obtain ⟨M, S, h1, h2, h3⟩ := h
  exact ⟨M, S, h1.below h2 hb hB, h2.below hb, h3⟩
/-- Block x is written. -/
theorem HasX.onlyX {w w' : World} {base x g : Nat} {c : CallR} (h : HasX w base x g c) (ho : Only (fun k => k = x) w w') : HasX w' base x g c := by
  obtain ⟨M, S, h1, h2, h3, h4, h5⟩ := h
  exact ⟨M, S, h1.only h2 ho (fun k hk e => h4 k hk e) (fun k hk _ e => h5 k hk e), h2.mono ho.size fun _ _ _ h => h, h3, h4, h5⟩
theorem sx_ne {w : World} {S M : Nat → Prop} {x : Nat} (h : ∀ k, S k → k ≠ x) (hx : x < w.heap.size) : ∀ k, Sx w S M k → k ≠ x := fun k hk => hk.2.elim (h k) fun h => by omega
theorem put_hasX (w : World) (hN : Srt w) (hB : Nib w) (base x g : Nat) (S0 : Nat → Prop) (c : CallR) (num : UInt64) (l : List OpR) (vo : Value) (hC : HasX w base x g c) (hx : x < w.heap.size) (hbase : base ≤ w.heap.size) (ho : Sl w S0 l vo) (hOk : c.Ok) :
    Calls Tryd.prog 29 #[.pointer (some ⟨g, 0, none⟩), .int .u64 (num.toNat : Int), vo] w fun e w' => ∃ v, e = .returned v ∧ HasX w' base x g (c.put num l) ∧ Below base w w' ∧ w'.heap[x]? = w.heap[x]? := by
  obtain ⟨M, S, h1, h2, h3, h4, h5⟩ := hC
  refine (put_any w hN hB base M S S0 g c num l vo h1 h2 hbase ho hOk.hB).mono ?_
  rintro e w' ⟨v, M', rfl, k1, k2, k3, k4, k5⟩
  exact ⟨_, rfl, ⟨_, _, k1, k2, sx_base h3 hbase, fun k hk => (k3 k hk).elim (h4 k) fun h => by omega, sx_ne h5 hx⟩, k4.below hbase fun k hk => (h2 k hk).1, k4.block x hx fun e => h4 x e rfl⟩
theorem ask_hasX (w : World) (hN : Srt w) (hB : Nib w) (base x g : Nat) (S0 : Nat → Prop) (c : CallR) (n : NoteR) (V : Value) (hC : HasX w base x g c) (hx : x < w.heap.size) (hbase : base ≤ w.heap.size) (hV : Nt w S0 n V) (hOk : c.Ok) :
    Calls Tryd.prog 30 #[.pointer (some ⟨g, 0, none⟩), V] w fun e w' => ∃ v, e = .returned v ∧ HasX w' base x g (c.ask n) ∧ Below base w w' ∧ w'.heap[x]? = w.heap[x]? := by
  obtain ⟨M, S, h1, h2, h3, h4, h5⟩ := hC
  refine (ask_any w hN hB base M S S0 g c n V h1 h2 hbase hV hOk.hQ).mono ?_
  rintro e w' ⟨v, M', rfl, k1, k2, k3, k4, k5⟩
  exact ⟨_, rfl, ⟨_, _, k1, k2, sx_base h3 hbase, fun k hk => (k3 k hk).elim (h4 k) fun h => by omega, sx_ne h5 hx⟩, k4.below hbase fun k hk => (h2 k hk).1, k4.block x hx fun e => h4 x e rfl⟩
theorem hear_hasX (w : World) (hN : Srt w) (hB : Nib w) (base x g : Nat) (S0 : Nat → Prop) (c : CallR) (src : Int) (n : NoteR) (p : Value) (hC : HasX w base x g c) (hx : x < w.heap.size) (hbase : base ≤ w.heap.size) (hp : Sl w S0 (bodyOf n) p) (hOk : c.Ok) :
    Calls Tryd.prog 36 #[.pointer (some ⟨g, 0, none⟩), .int .i64 src, p] w fun e w' => e = .returned (.tuple #[]) ∧ HasX w' base x g (c.hearN src n) ∧ Below base w w' ∧ w'.heap[x]? = w.heap[x]? := by
  obtain ⟨M, S, h1, h2, h3, h4, h5⟩ := hC
  refine (hear_any w hN hB base M S S0 g c src (bodyOf n) p h1 h2 hbase hp (by have := bodyOf_len n; omega) hOk).mono ?_
  rintro e w' ⟨rfl, k1, k2, k4⟩
  rw [hear_body] at k1
  exact ⟨rfl, ⟨_, _, k1, k2, sx_base h3 hbase, h4, sx_ne h5 hx⟩, k4.below hbase fun k hk => (h2 k hk).1, k4.block x hx fun e => h4 x e rfl⟩
end Go.Proofs.YtjkffjngamagkaaDoor
