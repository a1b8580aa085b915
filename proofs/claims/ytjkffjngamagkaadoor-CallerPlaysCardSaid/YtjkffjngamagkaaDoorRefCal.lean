/- armillaryref19: the document's caller in memory; a letter of it. -/
import Derived.Test.YtjkffjngamagkaaDoorCal9
import Derived.Test.YtjkffjngamagkaaDoorRefPack
namespace Go.Proofs.YtjkffjngamagkaaDoor
open Go Go.RowKit Go.Arm
instance : Rep WantR where
 sz := 20
 rd w S x cs := ∃ V v, Nt w S x.note V ∧ Sl w S x.hits v ∧ cs = V.cells.toList ++ [.bool x.over, .int .i64 x.code, .int .u64 (x.stamp.toNat : Int), v]
 len h := by
  obtain ⟨V, v, ⟨_, _, _, _, rfl, _⟩, _, rfl⟩ := h
  rfl
 one {w S x cs} h := by
  obtain ⟨V, v, ⟨vp, vo, vv, vh, rfl, h1, h2, h3, h4, _⟩, h5, rfl⟩ := h
  have := noteV_one x.note (Sl.slv h1) (Sl.slv h2) (Sl.slv h3) (Sl.slv h4)
  obtain ⟨_, _, _, rfl⟩ := Sl.shape h5
  intro u hu
  rcases List.mem_append.1 hu with hu | hu
  ·exact (Array.all_eq_true_iff_forall_mem.1 this) u (by simpa using hu)
  ·simp at hu
   rcases hu with rfl | rfl | rfl | rfl <;> rfl
 keep h hk := by
  obtain ⟨V, v, h1, h2, h3⟩ := h
  exact ⟨V, v, h1.keep hk, h2.keep hk, h3⟩
theorem rowWant : Row Tryd.prog 69 166 (.agg #[.int .u8 0, .int .u64 0, .int .u64 0, .int .u64 0, .int .u64 0, .int .u64 0, .int .u64 0, .int .u64 0, .int .i64 0, .int .i64 0, .int .i64 0, .int .i64 0, .slice none 0 0, .slice none 0 0, .slice none 0 0, .slice none 0 0, .bool false, .int .i64 0, .int .u64 0, .slice none 0 0]) 20 240 := ⟨Tryd.underlying69, by kernel_rfl⟩
theorem rowRL : Row Tryd.prog 74 167 (.agg #[.int .i64 0, .int .i64 0, .slice none 0 0]) 3 40 := ⟨Tryd.underlying74, by kernel_rfl⟩
def RefP (w : World) (base : Nat) (M S : Nat → Prop) (g : Nat) (c : CallR) : Prop :=
 ∃ vb vq, Blk w g 71 #[.int .i64 c.self, vb, vq] ∧ base ≤ g ∧ M g ∧
  Own w base 166 S c.B vb ∧ (∀ k, vb.ownBlock = some k → M k ∧ vq.ownBlock ≠ some k) ∧
  Own w base 166 S c.Q vq ∧ (∀ k, vq.ownBlock = some k → M k)
theorem RefP.keep {w w' : World} {base : Nat} {M M' S S' : Nat → Prop} {g : Nat} {c : CallR} (h : RefP w base M S g c) (hM : ∀ k, M k → w'.heap[k]? = w.heap[k]? ∧ M' k) (hk : ∀ k, S k → k < w.heap.size → w'.heap[k]? = w.heap[k]? ∧ S' k) : RefP w' base M' S' g c := by
 obtain ⟨vb, vq, h1, h2, h3, h4, h5, h6, h7⟩ := h
 exact ⟨vb, vq, (hM g h3).1.trans h1, h2, (hM g h3).2, h4.keep hk (fun b hb => (hM b (h5 b hb).1).1), fun k hb => ⟨(hM k (h5 k hb).1).2, (h5 k hb).2⟩, h6.keep hk (fun b hb => (hM b (h7 b hb)).1), fun k hb => (hM k (h7 k hb)).2⟩
theorem RefP.below {w w' : World} {base : Nat} {M S : Nat → Prop} {g : Nat} {c : CallR} (h : RefP w base M S g c) (hf : Fr w base M S) {B : Nat} (hb : Below B w w') (hB : w.heap.size ≤ B) : RefP w' base M S g c :=
 h.keep (fun k hk => ⟨hb.block k (by have := (hf k hk).2.1; omega), hk⟩) fun k hk hlt => ⟨hb.block k (by omega), hk⟩
theorem RefP.only {w w' : World} {base : Nat} {M S : Nat → Prop} {g : Nat} {c : CallR} (h : RefP w base M S g c) (hf : Fr w base M S) {F : Nat → Prop} (ho : Only F w w') (h1 : ∀ k, M k → ¬ F k) (h2 : ∀ k, S k → k < w.heap.size → ¬ F k) : RefP w' base M S g c :=
 h.keep (fun k hk => ⟨ho.block k (hf k hk).2.1 (h1 k hk), hk⟩) fun k hk hlt => ⟨ho.block k hlt (h2 k hk hlt), hk⟩
section
variable {ops : Array Oper} {Q : Exit → Act → World → Prop} {a : Act} {w : World} {rest : List Oper}
variable {dst : Option Tmp} {ty : TypeId} {pos : String} {after : Array Edge}
theorem len_W {x : Operand} {S : Nat → Prop} {l : List WantR} (hx : Sl w S l (a.eval x)) (h : wpList Tryd.prog ops Q rest (a.put dst (.int .i64 (l.length : Int))) w) :
  wpList Tryd.prog ops Q (⟨dst, .call ⟨.builtin .len, #[x], #[69]⟩, ty, pos, after, none⟩ :: rest) a w := wpList_len rowWant.1 hx h
theorem len_RL {x : Operand} {S : Nat → Prop} {l : List LetR} (hx : Sl w S l (a.eval x)) (h : wpList Tryd.prog ops Q rest (a.put dst (.int .i64 (l.length : Int))) w) :
  wpList Tryd.prog ops Q (⟨dst, .call ⟨.builtin .len, #[x], #[74]⟩, ty, pos, after, none⟩ :: rest) a w := wpList_len rowRL.1 hx h
theorem idx_W {Q : Exit → Act → World → Prop} {x i : Operand} {S : Nat → Prop} {l : List WantR} (hx : Sl w S l (a.eval x)) {k : IntKind} {n : Int} (hi : a.eval i = .int k n) (h0 : 0 ≤ n) (hn : n < l.length)
  (h : ∀ b o y vp vo vv vh v, l[n.toNat]? = some y → Nt w S y.note (noteV y.note vp vo vv vh) → Sl w S y.hits v → (∀ j u, ((noteV y.note vp vo vv vh).cells.toList ++ [.bool y.over, .int .i64 y.code, .int .u64 (y.stamp.toNat : Int), v] : List Value)[j]? = some u → w.cell? ⟨b, o + j, none⟩ = some u) → wpList Tryd.prog ops Q rest (a.put dst (.pointer (some ⟨b, o, none⟩))) w) :
  wpList Tryd.prog ops Q (⟨dst, .indexAddr 69 x i, ty, pos, after, none⟩ :: rest) a w :=
 wpList_indexR rowWant (by show 0 < 20; decide) hx hi h0 hn fun b o y cs hy hr hc => by
  obtain ⟨V, v, hV, hv, rfl⟩ := hr
  obtain ⟨vp, vo, vv, vh, rfl, _⟩ := id hV
  exact h b o y vp vo vv vh v hy hV hv hc
end
theorem sl_lenW {α : Type} [Rep α] {w : World} {S : Nat → Prop} {l : List α} {a : Option Addr} {n c : Nat} (h : Sl w S l (.slice a n c)) : n = l.length := by
 obtain ⟨_, _, _, e, _⟩ := h
 cases e
 rfl
theorem blk_load_subW {P : Program} {ops : Array Oper} {Q : Exit → Act → World → Prop} {a : Act} {w : World} {rest : List Oper} {dst : Option Tmp} {ty : TypeId} {pos : String} {after : Array Edge} {t T : TypeId} {d : TypeDesc} {cs : Array Value} {g o : Nat} {x : Operand} (V : Value) (ds : List Value) (hu : P.underlying t = some d) (hd : (match d with | .struct _ | .array _ _ => true | _ => false) = true) (hi : (P.info? t).map (·.size) = some ds.length)
  (hg : Blk w g T cs) (hx : a.eval x = .pointer (some ⟨g, o, none⟩)) (hs : (cs.toList.drop o).take ds.length = ds) (hV : V = .agg ds.toArray) (h : wpList P ops Q rest (a.put dst V) w) :
  wpList P ops Q (⟨dst, .load t x, ty, pos, after, none⟩ :: rest) a w := by
 subst hV
 exact blk_load_sub ds hu hd hi hg hx hs h
theorem cells_loadW {P : Program} {ops : Array Oper} {Q : Exit → Act → World → Prop} {a : Act} {w : World} {rest : List Oper} {dst : Option Tmp} {ty : TypeId} {pos : String} {after : Array Edge} {t : TypeId} {d : TypeDesc} {b o : Nat} {x : Operand} (V : Value) (ds : List Value) (hu : P.underlying t = some d) (hd : (match d with | .struct _ | .array _ _ => true | _ => false) = true) (hi : (P.info? t).map (·.size) = some ds.length)
  (hx : a.eval x = .pointer (some ⟨b, o, none⟩)) (hc : ∀ j v, ds[j]? = some v → w.cell? ⟨b, o + j, none⟩ = some v) (hV : V = .agg ds.toArray) (h : wpList P ops Q rest (a.put dst V) w) :
  wpList P ops Q (⟨dst, .load t x, ty, pos, after, none⟩ :: rest) a w := by
 subst hV
 exact cells_load ds hu hd hi hx hc h
def wantC (x : WantR) (vp vo vv vh v : Value) : Array Value := #[.int .u8 (x.note.kind.toNat : Int), .int .u64 (x.note.txn.toNat : Int), .int .u64 (x.note.batch.toNat : Int), .int .u64 (x.note.stamp.toNat : Int), .int .u64 (x.note.after.toNat : Int), .int .u64 (x.note.mark.toNat : Int), .int .u64 (x.note.query.toNat : Int), .int .u64 (x.note.id.toNat : Int), .int .i64 x.note.k, .int .i64 x.note.ef, .int .i64 x.note.code, .int .i64 x.note.who, vp, vo, vv, vh, .bool x.over, .int .i64 x.code, .int .u64 (x.stamp.toNat : Int), v]
theorem wantC_one (x : WantR) {vp vo vv vh v : Value} (h1 : SlV vp) (h2 : SlV vo) (h3 : SlV vv) (h4 : SlV vh) (h5 : SlV v) : (wantC x vp vo vv vh v).all (·.oneCell') = true := by
 obtain ⟨_, _, _, rfl⟩ := h1
 obtain ⟨_, _, _, rfl⟩ := h2
 obtain ⟨_, _, _, rfl⟩ := h3
 obtain ⟨_, _, _, rfl⟩ := h4
 obtain ⟨_, _, _, rfl⟩ := h5
 simp [wantC, Value.oneCell']
def zeroWant : Array Value := #[.int .u8 0, .int .u64 0, .int .u64 0, .int .u64 0, .int .u64 0, .int .u64 0, .int .u64 0, .int .u64 0, .int .i64 0, .int .i64 0, .int .i64 0, .int .i64 0, .slice none 0 0, .slice none 0 0, .slice none 0 0, .slice none 0 0, .bool false, .int .i64 0, .int .u64 0, .slice none 0 0]
set_option maxHeartbeats 4000000 in
theorem rletter_any (w : World) (S : Nat → Prop) (n : NoteR) (V : Value) (g : Nat) (self : Int) (vb vq : Value) (hV : Nt w S n V) (hg : Blk w g 71 #[.int .i64 self, vb, vq]) (hr : nright n = true) :
  Calls Tryd.prog 86 #[.pointer (some ⟨g, 0, none⟩), V] w fun e w' => ∃ u, e = .returned (.agg #[.int .i64 self, .int .i64 0, u]) ∧ OwnB w' w.heap.size (frame (encNote n)) u ∧ Below w.heap.size w w' := by
 have hV0 := hV.old
 clear hV
 have hpk := fun w' S' V' hV' => rpack_any w' S' n V' hV'
 simp only [hr, if_true] at hpk
 obtain ⟨up, uo, uv, uh, rfl, z1, z2, z3, z4⟩ := nt_shape hV0
 go_enter Tryd.func86, Tryd.ntmps86
 go_wp2_with (first | ((with_reducible apply ugZ); rfl) | ((with_reducible (first | apply len_B | apply len_PB | apply len_PQ | apply len_L | apply len_Bat | apply len_Qst | apply len_H)); assumption) | ((with_reducible refine stop_ig kC ?_ ?_); rfl))
 refine Stop.go (box_R rfl fun b w1 bx1 hbg ha1 => ?_)
 have hV1 := hV0.below ha1 (Nat.le_refl _)
 have hg1 := hg.below ha1 hg.lt
 have s1 := ha1.size
 clear hV0 hg
 go_wp2_with (first | ((with_reducible apply ugZ); rfl) | ((with_reducible (first | apply len_B | apply len_PB | apply len_PQ | apply len_L | apply len_Bat | apply len_Qst | apply len_H)); assumption) | ((with_reducible refine stop_ig kC ?_ ?_); rfl))
 refine Stop.go (blk_alloc (z := .agg #[.int .i64 0, .int .i64 0, .slice none 0 0]) (cs := #[.int .i64 0, .int .i64 0, .slice none 0 0]) (zero_run (by kernel_rfl)) rfl fun bl w2 hl hlg hb2 => ?_)
 have hx2 := bx1.below hb2 (Blk.lt bx1)
 have hV2 := hV1.below hb2 (Nat.le_refl _)
 have hg2 := hg1.below hb2 hg1.lt
 have ha2 := below_on ha1 hb2 s1
 clear bx1 hV1 hg1 ha1 hb2
 go_wp2_with (first | ((with_reducible apply ugZ); rfl) | ((with_reducible (first | apply len_B | apply len_PB | apply len_PQ | apply len_L | apply len_Bat | apply len_Qst | apply len_H)); assumption) | ((with_reducible refine stop_ig kC ?_ ?_); rfl))
 refine Stop.go (load_R hx2 rfl ?_)
 go_wp2_with (first | ((with_reducible apply ugZ); rfl) | ((with_reducible (first | apply len_B | apply len_PB | apply len_PQ | apply len_L | apply len_Bat | apply len_Qst | apply len_H)); assumption) | ((with_reducible refine stop_ig kC ?_ ?_); rfl))
 refine (hpk w2 _ _ hV2).mono ?_
 rintro e w3 ⟨u, rfl, hu, hb3⟩
 have hl3 := hl.below hb3 hl.lt
 have hg3 := hg2.below hb3 hg2.lt
 have ha3 := below_on ha2 hb3 ha2.size
 have s2 := ha2.size
 have hlt := hl.lt
 clear hpk hx2 hV2 hg2 hl ha2
 obtain ⟨pa, pn, pc, rfl⟩ := Sl.shape (hu.sl (S' := fun _ => True) (fun _ _ _ => trivial) (fun _ _ => trivial))
 go_wp2_with (first | ((with_reducible apply ugZ); rfl) | ((with_reducible (first | apply len_B | apply len_PB | apply len_PQ | apply len_L | apply len_Bat | apply len_Qst | apply len_H)); assumption) | ((with_reducible refine stop_ig kC ?_ ?_); rfl))
 refine Stop.go (blk_load (cs := #[.int .i64 self, vb, vq]) (.int .i64 self) oneInt hg3 rfl rfl ?_)
 go_wp2_with (first | ((with_reducible apply ugZ); rfl) | ((with_reducible (first | apply len_B | apply len_PB | apply len_PQ | apply len_L | apply len_Bat | apply len_Qst | apply len_H)); assumption) | ((with_reducible refine stop_ig kC ?_ ?_); rfl))
 refine Stop.go (blk_store_all (cs' := #[.int .i64 self, .int .i64 0, .slice pa pn pc]) hl3 rfl rfl (by kernel_rfl) rfl (by simp [Value.oneCell']) fun w4 hl4 o4 z4 => ?_)
 have hu4 := hu.only o4 (fun b hb e => by subst e; have := (hu.ge b hb); omega)
 have ha4 := below_only ha3 o4 (fun k hk => by subst hk; omega)
 go_wp2_with (fail)
 refine bodyPost_ret (results_cell_row rfl _ w4 bl _ _ _ _ rfl hl4 Tryd.underlying167 rfl (by kernel_rfl)) rfl ?_
 exact ⟨_, rfl, hu4.rebase (fun k hk => by have := hu4.ge k hk; omega), ha4⟩
end Go.Proofs.YtjkffjngamagkaaDoor
