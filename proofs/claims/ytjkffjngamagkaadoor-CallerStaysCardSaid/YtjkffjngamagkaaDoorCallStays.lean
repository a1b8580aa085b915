/- armillarylaw19: CallerStays. -/
import Derived.Test.YtjkffjngamagkaaDoorStay
import Derived.Test.YtjkffjngamagkaaDoorDone
import Derived.Test.YtjkffjngamagkaaDoorGen3
import Derived.Deep.CutBlock
namespace Go.Proofs.YtjkffjngamagkaaDoor
open Go Go.RowKit Go.Arm
/-- Where the walk E stops. -/
def kE (o : Op) : Bool := kC o || match o with
  | .lookup _ _ _ _ => true
  | .mapUpdate _ _ _ _ => true
  | _ => false
theorem HasX.only {w w' : World} {base x g : Nat} {c : CallR} (h : HasX w base x g c) (ho : Only (fun k => k = x ∨ w.heap.size ≤ k) w w') : HasX w' base x g c := by
  obtain ⟨M, S, h1, h2, h3, h4, h5⟩ := h
  exact ⟨M, S, h1.only h2 ho (fun k hk e => e.elim (h4 k hk) fun e => by have := (h2 k hk).2.1; omega) (fun k hk hlt e => e.elim (h5 k hk) fun e => by omega), h2.mono ho.size fun _ _ _ h => h, h3, h4, h5⟩
theorem blk_load_subV {P : Program} {ops : Array Oper} {Q : Exit → Act → World → Prop} {a : Act} {w : World} {rest : List Oper} {dst : Option Tmp} {ty : TypeId} {pos : String} {after : Array Edge} {t T : TypeId} {d : TypeDesc} {cs : Array Value} {g o : Nat} {x : Operand} (V : Value) (ds : List Value) (hu : P.underlying t = some d) (hd : (match d with | .struct _ | .array _ _ => true | _ => false) = true) (hi : (P.info? t).map (·.size) = some ds.length)
    (hg : Blk w g T cs) (hx : a.eval x = .pointer (some ⟨g, o, none⟩)) (hs : (cs.toList.drop o).take ds.length = ds) (hV : V = .agg ds.toArray) (h : wpList P ops Q rest (a.put dst V) w) :
    wpList P ops Q (⟨dst, .load t x, ty, pos, after, none⟩ :: rest) a w := by
  subst hV
  exact blk_load_sub ds hu hd hi hg hx hs h
theorem cells_loadV {P : Program} {ops : Array Oper} {Q : Exit → Act → World → Prop} {a : Act} {w : World} {rest : List Oper} {dst : Option Tmp} {ty : TypeId} {pos : String} {after : Array Edge} {t : TypeId} {d : TypeDesc} {b o : Nat} {x : Operand} (V : Value) (ds : List Value) (hu : P.underlying t = some d) (hd : (match d with | .struct _ | .array _ _ => true | _ => false) = true) (hi : (P.info? t).map (·.size) = some ds.length)
    (hx : a.eval x = .pointer (some ⟨b, o, none⟩)) (hc : ∀ j v, ds[j]? = some v → w.cell? ⟨b, o + j, none⟩ = some v) (hV : V = .agg ds.toArray) (h : wpList P ops Q rest (a.put dst V) w) :
    wpList P ops Q (⟨dst, .load t x, ty, pos, after, none⟩ :: rest) a w := by
  subst hV
  exact cells_load ds hu hd hi hx hc h
/-- A script's operation, its cells. -/
def opCells (y : OpC) (vp vo vv vh : Value) : Array Value := #[.int .u8 (y.act.toNat : Int), .int .i64 y.src, .int .u8 (y.note.kind.toNat : Int), .int .u64 (y.note.txn.toNat : Int), .int .u64 (y.note.batch.toNat : Int), .int .u64 (y.note.stamp.toNat : Int), .int .u64 (y.note.after.toNat : Int), .int .u64 (y.note.mark.toNat : Int), .int .u64 (y.note.query.toNat : Int), .int .u64 (y.note.id.toNat : Int), .int .i64 y.note.k, .int .i64 y.note.ef, .int .i64 y.note.code, .int .i64 y.note.who, vp, vo, vv, vh]
theorem opCells_one (y : OpC) {vp vo vv vh : Value} (h1 : SlV vp) (h2 : SlV vo) (h3 : SlV vv) (h4 : SlV vh) : (opCells y vp vo vv vh).all (·.oneCell') = true := by
  obtain ⟨_, _, _, rfl⟩ := h1
  obtain ⟨_, _, _, rfl⟩ := h2
  obtain ⟨_, _, _, rfl⟩ := h3
  obtain ⟨_, _, _, rfl⟩ := h4
  simp [opCells, Value.oneCell']
def zeroOp : Array Value := #[.int .u8 0, .int .i64 0, .int .u8 0, .int .u64 0, .int .u64 0, .int .u64 0, .int .u64 0, .int .u64 0, .int .u64 0, .int .u64 0, .int .i64 0, .int .i64 0, .int .i64 0, .int .i64 0, .slice none 0 0, .slice none 0 0, .slice none 0 0, .slice none 0 0]
theorem sl_len {α : Type} [Rep α] {w : World} {S : Nat → Prop} {l : List α} {a : Option Addr} {n c : Nat} (h : Sl w S l (.slice a n c)) : n = l.length := by
  obtain ⟨_, _, _, e, _⟩ := h
  cases e
  rfl
theorem cells4 {w : World} {b o : Nat} {x0 x1 x2 x3 : Value} (h0 : w.cell? ⟨b, o, none⟩ = some x0) (h1 : w.cell? ⟨b, o + 1, none⟩ = some x1) (h2 : w.cell? ⟨b, o + 2, none⟩ = some x2) (h3 : w.cell? ⟨b, o + 3, none⟩ = some x3) : ∀ j v, [x0, x1, x2, x3][j]? = some v → w.cell? ⟨b, o + j, none⟩ = some v := by
  intro j v h
  match j, h with
  | 0, h => simp at h; subst h; exact h0
  | 1, h => simp at h; subst h; exact h1
  | 2, h => simp at h; subst h; exact h2
  | 3, h => simp at h; subst h; exact h3
theorem cells5 {w : World} {b o : Nat} {x0 x1 x2 x3 x4 : Value} (h0 : w.cell? ⟨b, o, none⟩ = some x0) (h1 : w.cell? ⟨b, o + 1, none⟩ = some x1) (h2 : w.cell? ⟨b, o + 2, none⟩ = some x2) (h3 : w.cell? ⟨b, o + 3, none⟩ = some x3) (h4 : w.cell? ⟨b, o + 4, none⟩ = some x4) : ∀ j v, [x0, x1, x2, x3, x4][j]? = some v → w.cell? ⟨b, o + j, none⟩ = some v := by
  intro j v h
  match j, h with
  | 0, h => simp at h; subst h; exact h0
  | 1, h => simp at h; subst h; exact h1
  | 2, h => simp at h; subst h; exact h2
  | 3, h => simp at h; subst h; exact h3
  | 4, h => simp at h; subst h; exact h4
set_option maxHeartbeats 32000000 in
set_option maxRecDepth 100000 in
theorem callerStays_any (w : World) (hN : Srt w) (hB : Nib w) (S : Nat → Prop) (l : List OpC) (p : Value) (hp : Sl w S l p) :
    Calls Tryd.prog 10 #[p] w fun e w' => e = .returned (.bool true) ∧ Below w.heap.size w w' := by
  have hp0 := hp.old
  clear hp
  have hll : l.length ≤ 9223372036854775807 := hp0.length_le
  obtain ⟨pa, pc, pcs, rfl, rst⟩ := id hp0
  clear rst
  have hmm := @run_makeMap Tryd.prog
  go_enter Tryd.func10, Tryd.ntmps10
  go_wp2_with (first | ((with_reducible apply wpList_unguard); rfl) | ((with_reducible (first | apply len_B | apply len_PB | apply len_PQ | apply len_L | apply len_Bat | apply len_Qst | apply len_H)); assumption) | ((with_reducible refine stop_ig kC ?_ ?_); rfl))
  refine (awake19_any w hN hB).mono ?_
  rintro e w1 ⟨rfl, ha1⟩
  have s1 := ha1.size
  go_wp2_with (first | ((with_reducible apply wpList_unguard); rfl) | ((with_reducible (first | apply len_B | apply len_PB | apply len_PQ | apply len_L | apply len_Bat | apply len_Qst | apply len_H)); assumption) | ((with_reducible refine stop_ig kC ?_ ?_); rfl))
  refine (new_has w1 5 (by decide) (by decide)).mono ?_
  rintro e w2 ⟨g, rfl, hc2, hb2⟩
  have ha2 := below_on ha1 hb2 s1
  have s2 := ha2.size
  have hx2 := (hc2.mono (base' := w.heap.size) s1).x
  have hd2 := DoneM.new w2
  have b23 := (Below.refl w2.heap.size w2).alloc (Nat.le_refl _) (.map #[] 0)
  have hx3 := hx2.below b23 (Nat.le_refl _)
  have ha3 := below_on ha2 b23 s2
  have hin := StInv.new 5
  have hok := Ok0 5
  clear hc2 hb2 ha1 hx2 ha2 b23
  go_wp2_with (first | ((with_reducible apply wpList_unguard); rfl) | ((with_reducible (first | apply len_B | apply len_PB | apply len_PQ | apply len_L | apply len_Bat | apply len_Qst | apply len_H)); assumption) | ((with_reducible refine stop_ig kC ?_ ?_); rfl))
  obtain ⟨bm, hbm⟩ : ∃ bm, bm = w2.heap.size := ⟨_, rfl⟩
  rw [← hbm] at hx3 hd2 ⊢
  have hbm1 : w.heap.size ≤ bm := by omega
  clear hbm
  generalize w2.alloc (.map #[] 0) = w3 at *
  clear hmm
  go_loopg [6, 7, 8, 9, 11, 12, 14, 24] (l.length + 1) (fun k x6 x7 x8 x9 x11 x12 x14 i wr => ∃ (j : Nat) (c : CallR) (f : UInt64 → UInt64), k = l.length - j + 1 ∧ j ≤ l.length ∧ j ≤ 80 ∧ i = .int .i64 j ∧ c.Ok ∧ StInv c f ∧ HasX wr w.heap.size bm g c ∧ DoneM wr bm (64 * j) f ∧ Below w.heap.size w wr)
  case atStart => exact ⟨0, ⟨5, [], []⟩, fun _ => 0, by omega, by omega, by omega, rfl, hok, hin, hx3, hd2, ha3⟩
  case round =>
    clear hx3 hd2 ha3 hok hin
    obtain ⟨j, c, f, hk, hj, hj8, rfl, hok, hin, hcr, hdr, har⟩ := hrel
    have Hk := Lib.hid hk
    clear hk
    have sr := har.size
    have hbl := hdr.lt
    by_cases hlt : j < l.length
    · have hpr := hp0.below har (Nat.le_refl _)
      go_wp2_with (first | ((with_reducible apply wpList_unguard); rfl) | ((with_reducible (first | apply len_B | apply len_PB | apply len_PQ | apply len_L | apply len_Bat | apply len_Qst | apply len_H)); assumption) | ((with_reducible refine stop_ig kC ?_ ?_); rfl))
      refine Stop.go (idx_C hpr rfl (by omega) (by omega) fun b o y vp vo vv vh hy hV hI hc => ?_)
      have hy : l[j]? = some y := by simpa using hy
      have HY := Lib.hid hy
      clear hy hpr
      obtain ⟨_, _, _, _, e1, h1, h2, h3, h4, _⟩ := id hV
      have h1 : SlV vp := by obtain ⟨_, _, _, _, e, h1, _⟩ := hV; cases e; exact Sl.slv h1
      have h2 : SlV vo := by obtain ⟨_, _, _, _, e, _, h1, _⟩ := hV; cases e; exact Sl.slv h1
      have h3 : SlV vv := by obtain ⟨_, _, _, _, e, _, _, h1, _⟩ := hV; cases e; exact Sl.slv h1
      have h4 : SlV vh := by obtain ⟨_, _, _, _, e, _, _, _, h1, _⟩ := hV; cases e; exact Sl.slv h1
      have hone := opCells_one y h1 h2 h3 h4
      clear h1 h2 h3 h4 e1
      go_wp2_with (first | ((with_reducible apply wpList_unguard); rfl) | ((with_reducible (first | apply len_B | apply len_PB | apply len_PQ | apply len_L | apply len_Bat | apply len_Qst | apply len_H)); assumption) | ((with_reducible refine stop_ig kC ?_ ?_); rfl))
      refine Stop.go (cells_loadV (.agg (opCells y vp vo vv vh)) (opCells y vp vo vv vh).toList Tryd.underlying73 rfl (by kernel_rfl) rfl hc rfl ?_)
      go_wp2_with (first | ((with_reducible apply wpList_unguard); rfl) | ((with_reducible (first | apply len_B | apply len_PB | apply len_PQ | apply len_L | apply len_Bat | apply len_Qst | apply len_H)); assumption) | ((with_reducible refine stop_ig kC ?_ ?_); rfl))
      refine Stop.go (blk_alloc (z := .agg zeroOp) (cs := zeroOp) (zero_run (by kernel_rfl)) rfl fun bo w4 ho hog hb4 => ?_)
      go_wp2_with (first | ((with_reducible apply wpList_unguard); rfl) | ((with_reducible (first | apply len_B | apply len_PB | apply len_PQ | apply len_L | apply len_Bat | apply len_Qst | apply len_H)); assumption) | ((with_reducible refine stop_ig kC ?_ ?_); rfl))
      refine Stop.go (blk_store_all (cs' := opCells y vp vo vv vh) ho rfl rfl (by kernel_rfl) rfl hone fun w5 ho5 o5 z5 => ?_)
      have hb5 : Below wr.heap.size wr w5 := hb4.trans (o5.below hb4.size (by rintro k rfl; exact hog))
      have hV5 := hV.below hb5 (Nat.le_refl _)
      have hc5 := hcr.below hb5 (Nat.le_refl _)
      have hd5 := hdr.keep (hb5.block bm hbl)
      have ha5 := below_on har hb5 sr
      have s5 := hb5.size
      have hobl := ho5.lt
      clear ho hb4 o5 z5 hV hcr hdr har hone hc
      by_cases h80 : 80 ≤ j
      · have h80' : (80 : Int) ≤ (j : Int) := by omega
        go_wp2_with (fail)
        go_ret
        exact ⟨rfl, ha5⟩
      have h80' : ¬ (80 : Int) ≤ (j : Int) := by omega
      go_wp2_with (first | ((with_reducible apply wpList_unguard); rfl) | ((with_reducible (first | apply len_B | apply len_PB | apply len_PQ | apply len_L | apply len_Bat | apply len_Qst | apply len_H)); assumption) | ((with_reducible refine stop_ig kC ?_ ?_); rfl))
      refine Stop.go (blk_load_subV (noteV y.note vp vo vv vh) (noteV y.note vp vo vv vh).cells.toList Tryd.underlying36 rfl (by kernel_rfl) ho5 rfl rfl rfl ?_)
      go_wp2_with (first | ((with_reducible apply wpList_unguard); rfl) | ((with_reducible (first | apply len_B | apply len_PB | apply len_PQ | apply len_L | apply len_Bat | apply len_Qst | apply len_H)); assumption) | ((with_reducible refine stop_ig kC ?_ ?_); rfl))
      refine (rfewn_any w5 _ y.note _ hV5).mono ?_
      rintro e w6 ⟨V6, rfl, hV6, hb6⟩
      have ho6 := ho5.below hb6 hobl
      have hc6 := hc5.below hb6 (Nat.le_refl _)
      have hd6 := hd5.keep (hb6.block bm hd5.lt)
      have ha6 := below_on ha5 hb6 ha5.size
      have s6 := hb6.size
      have hst := hok.step y
      have hsi := hin.step y
      have hstep : c.step y = if y.act.toNat % 11 ≤ 2 then c.put (fewN y.note).batch (fewN y.note).ops else if y.act.toNat % 11 ≤ 4 then c.ask (fewN y.note) else c.hearN y.src (fewN y.note) := rfl
      generalize c.step y = c' at *
      generalize fewN y.note = m at *
      have HST := Lib.hid hstep
      clear hstep ho5 hV5 hc5 hd5 ha5 hb6 hb5
      obtain ⟨up, uo, uv, uh, rfl, z1, z2, z3, z4⟩ := nt_shape hV6
      have hone := noteV_one m z1 z2 z3 z4
      go_wp2_with (first | ((with_reducible apply wpList_unguard); rfl) | ((with_reducible (first | apply len_B | apply len_PB | apply len_PQ | apply len_L | apply len_Bat | apply len_Qst | apply len_H)); assumption) | ((with_reducible refine stop_ig kC ?_ ?_); rfl))
      refine Stop.go (blk_alloc (z := .agg zeroCells) (cs := zeroCells) (zero_run (by kernel_rfl)) rfl fun bn w7 hn hng hb7 => ?_)
      go_wp2_with (first | ((with_reducible apply wpList_unguard); rfl) | ((with_reducible (first | apply len_B | apply len_PB | apply len_PQ | apply len_L | apply len_Bat | apply len_Qst | apply len_H)); assumption) | ((with_reducible refine stop_ig kC ?_ ?_); rfl))
      refine Stop.go (blk_store_all (cs' := (noteV m up uo uv uh).cells) hn rfl rfl (by kernel_rfl) rfl hone fun w8 hn8 o8 z8 => ?_)
      have hx8 : RBox w8 bn m up uo uv uh := hn8
      have hb8 : Below w6.heap.size w6 w8 := hb7.trans (o8.below hb7.size (by rintro k rfl; exact hng))
      have ho8 := ho6.below hb8 (by omega)
      have hV8 := (hV6.below hb8 (Nat.le_refl _)).old
      have hc8 := hc6.below hb8 (Nat.le_refl _)
      have hd8 := hd6.keep (hb8.block bm hd6.lt)
      have ha8 := below_on ha6 hb8 ha6.size
      have s8 := hb8.size
      clear hn hb7 o8 z8 hn8 ho6 hV6 hc6 hd6 ha6 hb8 hone z1 z2 z3 z4
      go_wp2_with (first | ((with_reducible apply wpList_unguard); rfl) | ((with_reducible (first | apply len_B | apply len_PB | apply len_PQ | apply len_L | apply len_Bat | apply len_Qst | apply len_H)); assumption) | ((with_reducible refine stop_ig kC ?_ ?_); rfl))
      refine Stop.go (blk_load (.int .u8 (y.act.toNat : Int)) oneU8 ho8 rfl rfl ?_)
      obtain ⟨r, hr, hr11⟩ : ∃ r : Nat, (y.act.toNat : Int) % 11 = r ∧ r = y.act.toNat % 11 := ⟨y.act.toNat % 11, by simp, rfl⟩
      rw [← hr11] at HST
      have HR := Lib.hid hr
      clear hr hr11
      go_upto_block 2 with (fail)
      rw [HR.out]
      have hbase : w.heap.size ≤ w8.heap.size := ha8.size
      have hbl8 := hd8.lt
      have hbnd := Blk.lt hx8
      go_cut [] (fun wx => HasX wx w.heap.size bm g c' ∧ DoneM wx bm (64 * j) f ∧ Below w.heap.size w wx)
      case first =>
        rcases (show r = 0 ∨ r = 1 ∨ r = 2 ∨ r = 3 ∨ r = 4 ∨ 5 ≤ r by omega) with rfl | rfl | rfl | rfl | rfl | hr5
        · have e : c' = c.put m.batch m.ops := HST.out
          subst e
          obtain ⟨_, _, _, _, e1, _, ho, _⟩ := id hV8
          cases e1
          have hput := put_hasX w8 (hN.below ha8 (Nat.le_refl _)) (hB.below ha8 (Nat.le_refl _)) _ bm g _ c m.batch m.ops _ hc8 hbl8 hbase ho hok
          go_wp2_with (first | ((with_reducible apply wpList_unguard); rfl) | ((with_reducible (first | apply len_B | apply len_PB | apply len_PQ | apply len_L | apply len_Bat | apply len_Qst | apply len_H)); assumption) | ((with_reducible refine stop_ig kC ?_ ?_); rfl))
          refine Stop.go (blk_load (cs := (noteV m up uo uv uh).cells) (.int .u64 (m.batch.toNat : Int)) oneU64 hx8 rfl rfl ?_)
          go_wp2_with (first | ((with_reducible apply wpList_unguard); rfl) | ((with_reducible (first | apply len_B | apply len_PB | apply len_PQ | apply len_L | apply len_Bat | apply len_Qst | apply len_H)); assumption) | ((with_reducible refine stop_ig kC ?_ ?_); rfl))
          refine Stop.go (blk_load (cs := (noteV m up uo uv uh).cells) uo oneO hx8 rfl rfl ?_)
          go_wp2_with (first | ((with_reducible apply wpList_unguard); rfl) | ((with_reducible (first | apply len_B | apply len_PB | apply len_PQ | apply len_L | apply len_Bat | apply len_Qst | apply len_H)); assumption) | ((with_reducible refine stop_ig kC ?_ ?_); rfl))
          refine hput.mono ?_
          rintro e w9 ⟨v9, rfl, hc9, hb9, hbk9⟩
          go_wp2_with (fail)
          go_meet
          case rel => exact ⟨hc9, hd8.keep hbk9, ha8.trans hb9⟩
        · have e : c' = c.put m.batch m.ops := HST.out
          subst e
          obtain ⟨_, _, _, _, e1, _, ho, _⟩ := id hV8
          cases e1
          have hput := put_hasX w8 (hN.below ha8 (Nat.le_refl _)) (hB.below ha8 (Nat.le_refl _)) _ bm g _ c m.batch m.ops _ hc8 hbl8 hbase ho hok
          go_wp2_with (first | ((with_reducible apply wpList_unguard); rfl) | ((with_reducible (first | apply len_B | apply len_PB | apply len_PQ | apply len_L | apply len_Bat | apply len_Qst | apply len_H)); assumption) | ((with_reducible refine stop_ig kC ?_ ?_); rfl))
          refine Stop.go (blk_load (cs := (noteV m up uo uv uh).cells) (.int .u64 (m.batch.toNat : Int)) oneU64 hx8 rfl rfl ?_)
          go_wp2_with (first | ((with_reducible apply wpList_unguard); rfl) | ((with_reducible (first | apply len_B | apply len_PB | apply len_PQ | apply len_L | apply len_Bat | apply len_Qst | apply len_H)); assumption) | ((with_reducible refine stop_ig kC ?_ ?_); rfl))
          refine Stop.go (blk_load (cs := (noteV m up uo uv uh).cells) uo oneO hx8 rfl rfl ?_)
          go_wp2_with (first | ((with_reducible apply wpList_unguard); rfl) | ((with_reducible (first | apply len_B | apply len_PB | apply len_PQ | apply len_L | apply len_Bat | apply len_Qst | apply len_H)); assumption) | ((with_reducible refine stop_ig kC ?_ ?_); rfl))
          refine hput.mono ?_
          rintro e w9 ⟨v9, rfl, hc9, hb9, hbk9⟩
          go_wp2_with (fail)
          go_meet
          case rel => exact ⟨hc9, hd8.keep hbk9, ha8.trans hb9⟩
        · have e : c' = c.put m.batch m.ops := HST.out
          subst e
          obtain ⟨_, _, _, _, e1, _, ho, _⟩ := id hV8
          cases e1
          have hput := put_hasX w8 (hN.below ha8 (Nat.le_refl _)) (hB.below ha8 (Nat.le_refl _)) _ bm g _ c m.batch m.ops _ hc8 hbl8 hbase ho hok
          go_wp2_with (first | ((with_reducible apply wpList_unguard); rfl) | ((with_reducible (first | apply len_B | apply len_PB | apply len_PQ | apply len_L | apply len_Bat | apply len_Qst | apply len_H)); assumption) | ((with_reducible refine stop_ig kC ?_ ?_); rfl))
          refine Stop.go (blk_load (cs := (noteV m up uo uv uh).cells) (.int .u64 (m.batch.toNat : Int)) oneU64 hx8 rfl rfl ?_)
          go_wp2_with (first | ((with_reducible apply wpList_unguard); rfl) | ((with_reducible (first | apply len_B | apply len_PB | apply len_PQ | apply len_L | apply len_Bat | apply len_Qst | apply len_H)); assumption) | ((with_reducible refine stop_ig kC ?_ ?_); rfl))
          refine Stop.go (blk_load (cs := (noteV m up uo uv uh).cells) uo oneO hx8 rfl rfl ?_)
          go_wp2_with (first | ((with_reducible apply wpList_unguard); rfl) | ((with_reducible (first | apply len_B | apply len_PB | apply len_PQ | apply len_L | apply len_Bat | apply len_Qst | apply len_H)); assumption) | ((with_reducible refine stop_ig kC ?_ ?_); rfl))
          refine hput.mono ?_
          rintro e w9 ⟨v9, rfl, hc9, hb9, hbk9⟩
          go_wp2_with (fail)
          go_meet
          case rel => exact ⟨hc9, hd8.keep hbk9, ha8.trans hb9⟩
        · have e : c' = c.ask m := HST.out
          subst e
          have hask := ask_hasX w8 (hN.below ha8 (Nat.le_refl _)) (hB.below ha8 (Nat.le_refl _)) _ bm g _ c m _ hc8 hbl8 hbase hV8 hok
          go_wp2_with (first | ((with_reducible apply wpList_unguard); rfl) | ((with_reducible (first | apply len_B | apply len_PB | apply len_PQ | apply len_L | apply len_Bat | apply len_Qst | apply len_H)); assumption) | ((with_reducible refine stop_ig kC ?_ ?_); rfl))
          refine Stop.go (load_R hx8 rfl ?_)
          go_wp2_with (first | ((with_reducible apply wpList_unguard); rfl) | ((with_reducible (first | apply len_B | apply len_PB | apply len_PQ | apply len_L | apply len_Bat | apply len_Qst | apply len_H)); assumption) | ((with_reducible refine stop_ig kC ?_ ?_); rfl))
          refine hask.mono ?_
          rintro e w9 ⟨v9, rfl, hc9, hb9, hbk9⟩
          go_wp2_with (fail)
          go_meet
          case rel => exact ⟨hc9, hd8.keep hbk9, ha8.trans hb9⟩
        · have e : c' = c.ask m := HST.out
          subst e
          have hask := ask_hasX w8 (hN.below ha8 (Nat.le_refl _)) (hB.below ha8 (Nat.le_refl _)) _ bm g _ c m _ hc8 hbl8 hbase hV8 hok
          go_wp2_with (first | ((with_reducible apply wpList_unguard); rfl) | ((with_reducible (first | apply len_B | apply len_PB | apply len_PQ | apply len_L | apply len_Bat | apply len_Qst | apply len_H)); assumption) | ((with_reducible refine stop_ig kC ?_ ?_); rfl))
          refine Stop.go (load_R hx8 rfl ?_)
          go_wp2_with (first | ((with_reducible apply wpList_unguard); rfl) | ((with_reducible (first | apply len_B | apply len_PB | apply len_PQ | apply len_L | apply len_Bat | apply len_Qst | apply len_H)); assumption) | ((with_reducible refine stop_ig kC ?_ ?_); rfl))
          refine hask.mono ?_
          rintro e w9 ⟨v9, rfl, hc9, hb9, hbk9⟩
          go_wp2_with (fail)
          go_meet
          case rel => exact ⟨hc9, hd8.keep hbk9, ha8.trans hb9⟩
        · have e : c' = c.hearN y.src m := by rw [HST.out, if_neg (by omega), if_neg (by omega)]
          subst e
          have f0 : ((r : Int) == 0) = false := beq_eq_false_iff_ne.2 (by omega)
          have f1 : ((r : Int) == 1) = false := beq_eq_false_iff_ne.2 (by omega)
          have f2 : ((r : Int) == 2) = false := beq_eq_false_iff_ne.2 (by omega)
          have f3 : ((r : Int) == 3) = false := beq_eq_false_iff_ne.2 (by omega)
          have f4 : ((r : Int) == 4) = false := beq_eq_false_iff_ne.2 (by omega)
          go_upto_region 11 with (fail)
          have hd := (Below.refl w8.heap.size w8).drew
          have hod := ho8.below hd ho8.lt
          have hxd := hx8.below hd hbnd
          have hVd := hV8.below hd (Nat.le_refl _)
          have hcd := hc8.below hd (Nat.le_refl _)
          have hdd := hd8.keep (w' := w8.drew) rfl
          have had := below_on ha8 hd ha8.size
          have sdd : w8.drew.heap.size = w8.heap.size := rfl
          clear ho8 hx8 hV8 hc8 hd8 ha8 hd f0 f1 f2 f3 f4
          refine wp_region_D (fun _ => True) 5 (fun wq => Blk wq bo 73 (opCells y vp vo vv vh) ∧ RBox wq bn m up uo uv uh) 6 rfl (by kernel_rfl) ?_
          generalize w8.drew = wd at *
          refine wpAnyD_take (i := 0) (dst := some 37) (v := .pointer (some ⟨g, 0, none⟩)) rfl rfl (by decide) (by kernel_rfl) (by kernel_rfl) (by kernel_rfl) (fun _ _ _ h => h) (.inl ⟨by rfl, fun _ _ => by kernel_rfl⟩) (trivial) (.inr ⟨hod, hxd⟩) ?_
          simp only [Act.put, List.setIfInBounds_toArray, List.set_cons_zero, List.set_cons_succ]
          refine wpAnyD_take (i := 1) (dst := some 38) (v := .pointer (some ⟨bo, 1, none⟩)) rfl rfl (by decide) (by kernel_rfl) (by kernel_rfl) (by kernel_rfl) (fun _ _ _ h => h) (.inl ⟨by rfl, fun _ _ => by go_simp⟩) (trivial) (.inr ⟨hod, hxd⟩) ?_
          simp only [Act.put, List.setIfInBounds_toArray, List.set_cons_zero, List.set_cons_succ]
          refine wpAnyD_take2 (i := 2) (dst := some 39) (v := .int .i64 y.src) rfl rfl (by decide) (by kernel_rfl) (by kernel_rfl) (by kernel_rfl) rfl (by kernel_rfl) (by kernel_rfl) (fun _ _ _ h => h) (blk_yields oneInt (by rfl) rfl rfl fun _ h => h.2.1) (trivial) (⟨hod, hxd⟩) ?_
          simp only [Act.put, List.setIfInBounds_toArray, List.set_cons_zero, List.set_cons_succ]
          refine wpAnyD_take2 (i := 3) (dst := some 40) (v := noteV m up uo uv uh) rfl rfl (by decide) (by kernel_rfl) (by kernel_rfl) (by kernel_rfl) rfl (by kernel_rfl) (by kernel_rfl) (fun _ _ _ h => h) (yields_R (by rfl) rfl fun _ h => h.2.2) (trivial) (⟨hod, hxd⟩) ?_
          simp only [Act.put, List.setIfInBounds_toArray, List.set_cons_zero, List.set_cons_succ]
          refine wpAnyD_step (i := 4) (by kernel_rfl) rfl fun K hK => ?_
          refine step_call (vs := #[noteV m up uo uv uh]) (by rfl) (by go_simp) (by kernel_rfl) (body_any wd (hN.below had (Nat.le_refl _)) (hB.below had (Nat.le_refl _)) _ m _ hVd) ?_
          rintro e w9 ⟨pv, rfl, hpv, hb9⟩
          have hod := hod.below hb9 hod.lt
          have hxd := hxd.below hb9 (Blk.lt hxd)
          have hcd := hcd.below hb9 (Nat.le_refl _)
          have hdd := hdd.keep (hb9.block bm hdd.lt)
          have had := below_on had hb9 had.size
          have s9 := hb9.size
          clear hVd hb9
          refine ⟨_, rfl, hK _ _ trivial ⟨hod, hxd⟩ ?_⟩
          clear hK K
          simp only [Act.put, List.setIfInBounds_toArray, List.set_cons_zero, List.set_cons_succ]
          refine wpAnyD_stepd (i := 5) (by kernel_rfl) rfl (by kernel_rfl) fun K hK => ?_
          refine step_call (vs := #[.pointer (some ⟨g, 0, none⟩), .int .i64 y.src, pv]) (by rfl) (by go_simp) (by kernel_rfl) (hear_hasX w9 (hN.below had (Nat.le_refl _)) (hB.below had (Nat.le_refl _)) _ bm g _ c y.src m pv hcd hdd.lt had.size hpv.sl' hok) ?_
          rintro e wa ⟨rfl, hca, hba, hbka⟩
          refine ⟨_, rfl, hK _ _ trivial ?_⟩
          clear hK K
          simp only [Act.put, List.setIfInBounds_toArray, List.set_cons_zero, List.set_cons_succ]
          refine wpAnyD_done (by kernel_rfl) ?_
          go_wp2_with (fail)
          go_meet
          case rel => exact ⟨hca, hdd.keep hbka, had.trans hba⟩
      case rest =>
        obtain ⟨hcc, hdc, hac⟩ := hcut
        have swc := hac.size
        have hbat := batches_has wc _ g c' hcc.has hst
        have hbmc := hdc.lt
        have hB64 := hst.hB
        have hQ64 := hst.hQ
        go_wp2_with (first | ((with_reducible apply wpList_unguard); rfl) | ((with_reducible (first | apply len_B | apply len_PB | apply len_PQ | apply len_L | apply len_Bat | apply len_Qst | apply len_H)); assumption) | ((with_reducible refine stop_ig kE ?_ ?_); rfl))
        refine hbat.mono ?_
        rintro e wL ⟨bv, rfl, hbv, hbL⟩
        have hcL := hcc.below hbL (Nat.le_refl _)
        have hdL := hdc.keep (hbL.block bm hdc.lt)
        have haL := below_on hac hbL hac.size
        have sL := hbL.size
        obtain ⟨ba, bq, bc, rfl⟩ := Sl.shape hbv
        have hbn := sl_len hbv
        rw [List.length_map] at hbn
        subst hbn
        clear hbat hcc hdc hac hbL
        go_wp2_with (first | ((with_reducible apply wpList_unguard); rfl) | ((with_reducible (first | apply len_B | apply len_PB | apply len_PQ | apply len_L | apply len_Bat | apply len_Qst | apply len_H)); assumption) | ((with_reducible refine stop_ig kE ?_ ?_); rfl))
        go_loopg [9, 11, 12, 62] (c'.B.length + 1) (fun k x9 x11 x12 i wq => ∃ (i2 : Nat) (f2 : UInt64 → UInt64), k = c'.B.length - i2 + 1 ∧ i2 ≤ c'.B.length ∧ i = .int .i64 i2 ∧ x9 = .int .i64 (openN (c'.B.take i2) : Nat) ∧ StInv c' f2 ∧ DoneM wq bm (64 * j + i2) f2 ∧ Only (fun k => k = bm ∨ wL.heap.size ≤ k) wL wq)
        case atStart => exact ⟨0, f, by omega, by omega, rfl, rfl, hsi, hdL, Only.refl _ _⟩
        case round =>
          clear hdL
          obtain ⟨i2, f2, hk2, hi2, rfl, rfl, hsi2, hd2, ho2⟩ := hrel
          have Hk2 := Lib.hid hk2
          clear hk2
          have so2 := ho2.size
          have hbm2 := hd2.lt
          by_cases hlt2 : i2 < c'.B.length
          · have hbv2 := hbv.only ho2 (fun b hb _ e => by have := hb.1; have := hb.2; omega)
            go_wp2_with (first | ((with_reducible apply wpList_unguard); rfl) | ((with_reducible (first | apply len_B | apply len_PB | apply len_PQ | apply len_L | apply len_Bat | apply len_Qst | apply len_H)); assumption) | ((with_reducible refine stop_ig kE ?_ ?_); rfl))
            refine Stop.go (idx_Bat hbv2 rfl (by omega) (by rw [List.length_map]; omega) fun b1 o1 y2 hy q0 q1 q2 q3 => ?_)
            obtain ⟨x, hx, hyx⟩ : ∃ x, c'.B[i2]? = some x ∧ y2 = x.bat := by
              rw [List.getElem?_map] at hy
              obtain ⟨x, hx, e⟩ := Option.map_eq_some_iff.1 hy
              exact ⟨x, by simpa using hx, e.symm⟩
            subst hyx
            have hxm := List.mem_of_getElem? hx
            have hsn := openN_snoc c'.B i2 x hx
            have hs40 := hsi2.sB x hxm
            have hsu := succ_ne x.stamp hs40
            have hwat := hsi2.watched hxm
            have hwch := hsi2.watch hxm
            have hop : openN (c'.B.take i2) ≤ 64 := by have := openN_le (c'.B.take i2); rw [List.length_take] at this; omega
            have HSN := Lib.hid hsn
            have HSU := Lib.hid hsu
            have HWA := Lib.hid hwat
            have HWC := Lib.hid hwch
            clear hy hx hbv2 hsn hsu hwat hwch
            go_wp2_with (first | ((with_reducible apply wpList_unguard); rfl) | ((with_reducible (first | apply len_B | apply len_PB | apply len_PQ | apply len_L | apply len_Bat | apply len_Qst | apply len_H)); assumption) | ((with_reducible refine stop_ig kE ?_ ?_); rfl))
            refine Stop.go (cells_loadV (.agg #[.int .u64 (x.note.batch.toNat : Int), .bool x.over, .int .i64 x.code, .int .u64 (x.stamp.toNat : Int)]) [.int .u64 (x.note.batch.toNat : Int), .bool x.over, .int .i64 x.code, .int .u64 (x.stamp.toNat : Int)] Tryd.underlying90 rfl (by kernel_rfl) rfl (cells4 q0 q1 q2 q3) rfl ?_)
            go_wp2_with (first | ((with_reducible apply wpList_unguard); rfl) | ((with_reducible (first | apply len_B | apply len_PB | apply len_PQ | apply len_L | apply len_Bat | apply len_Qst | apply len_H)); assumption) | ((with_reducible refine stop_ig kE ?_ ?_); rfl))
            refine Stop.go (blk_alloc (z := .agg #[.int .u64 0, .bool false, .int .i64 0, .int .u64 0]) (cs := #[.int .u64 0, .bool false, .int .i64 0, .int .u64 0]) (zero_run (by kernel_rfl)) rfl fun bb wA hA hbg hbA => ?_)
            go_wp2_with (first | ((with_reducible apply wpList_unguard); rfl) | ((with_reducible (first | apply len_B | apply len_PB | apply len_PQ | apply len_L | apply len_Bat | apply len_Qst | apply len_H)); assumption) | ((with_reducible refine stop_ig kE ?_ ?_); rfl))
            refine Stop.go (blk_store_all (cs' := #[.int .u64 (x.note.batch.toNat : Int), .bool x.over, .int .i64 x.code, .int .u64 (x.stamp.toNat : Int)]) hA rfl rfl (by kernel_rfl) rfl (by simp [Value.oneCell']) fun wB hB2 oB zB => ?_)
            have hbAB : Below wr.heap.size wr wB := hbA.trans (oB.below hbA.size (by rintro k rfl; exact hbg))
            have hd3 := hd2.keep (hbAB.block bm hbm2)
            have ho3 : Only (fun k => k = bm ∨ wL.heap.size ≤ k) wL wB := ho2.trans ((Only.of_below hbAB).mono (G := fun k => k = bm ∨ wL.heap.size ≤ k) fun k _ h => .inr (by omega)) (fun _ _ h => h)
            have hbb := hB2.lt
            have hbbm : bb ≠ bm := by omega
            clear q0 q1 q2 q3 hA hbA oB zB hd2 ho2 hbAB
            cases hov : x.over
            · have hf0 : f2 x.note.batch = 0 := by
                by_cases h : f2 x.note.batch = 0
                · exact h
                · have := (HWA.out h).1; rw [hov] at this; cases this
              rw [hov] at hB2 HSN
              have hz : ((f2 x.note.batch).toNat : Int) = 0 := by rw [hf0]; rfl
              have HZ := Lib.hid hz
              clear hf0 hz hov HWA HWC HSU
              go_wp2_with (first | ((with_reducible apply wpList_unguard); rfl) | ((with_reducible (first | apply len_B | apply len_PB | apply len_PQ | apply len_L | apply len_Bat | apply len_Qst | apply len_H)); assumption) | ((with_reducible refine stop_ig kE ?_ ?_); rfl))
              refine Stop.go (blk_load (.bool false) oneBool hB2 rfl rfl ?_)
              go_wp2_with (first | ((with_reducible apply wpList_unguard); rfl) | ((with_reducible (first | apply len_B | apply len_PB | apply len_PQ | apply len_L | apply len_Bat | apply len_Qst | apply len_H)); assumption) | ((with_reducible refine stop_ig kE ?_ ?_); rfl))
              refine Stop.go (blk_load (.int .u64 (x.note.batch.toNat : Int)) oneU64 hB2 rfl rfl ?_)
              go_wp2_with (first | ((with_reducible apply wpList_unguard); rfl) | ((with_reducible (first | apply len_B | apply len_PB | apply len_PQ | apply len_L | apply len_Bat | apply len_Qst | apply len_H)); assumption) | ((with_reducible refine stop_ig kE ?_ ?_); rfl))
              refine Stop.go (done_look hd3 rfl x.note.batch rfl ?_)
              rw [HZ.out]
              go_upto_region 26 with (fail)
              go_upto_region 28 with (fail)
              go_wp2_with (first | ((with_reducible apply wpList_unguard); rfl) | ((with_reducible (first | apply len_B | apply len_PB | apply len_PQ | apply len_L | apply len_Bat | apply len_Qst | apply len_H)); assumption) | ((with_reducible refine stop_ig kE ?_ ?_); rfl))
              refine Stop.go (blk_load (.bool false) oneBool hB2 rfl rfl ?_)
              go_wp2_with (fail)
              go_roundg (c'.B.length - (i2 + 1) + 1)
              case measure => have := Hk2.out; omega
              case rel => exact ⟨i2 + 1, f2, by omega, by omega, by go_num, by rw [HSN.out, if_neg (by decide)]; go_num, hsi2, hd3.mono (by omega), ho3⟩
            · by_cases hcd : x.code = 0
              case neg =>
                have hf0 : f2 x.note.batch = 0 := by
                  by_cases h : f2 x.note.batch = 0
                  · exact h
                  · exact absurd (HWA.out h).2.1 hcd
                rw [hov] at hB2 HSN
                have hz : ((f2 x.note.batch).toNat : Int) = 0 := by rw [hf0]; rfl
                have HZ := Lib.hid hz
                have hcb : (x.code == 0) = false := by simpa using hcd
                clear hf0 hz hov hcd HWA HWC HSU
                go_wp2_with (first | ((with_reducible apply wpList_unguard); rfl) | ((with_reducible (first | apply len_B | apply len_PB | apply len_PQ | apply len_L | apply len_Bat | apply len_Qst | apply len_H)); assumption) | ((with_reducible refine stop_ig kE ?_ ?_); rfl))
                refine Stop.go (blk_load (.bool true) oneBool hB2 rfl rfl ?_)
                go_wp2_with (first | ((with_reducible apply wpList_unguard); rfl) | ((with_reducible (first | apply len_B | apply len_PB | apply len_PQ | apply len_L | apply len_Bat | apply len_Qst | apply len_H)); assumption) | ((with_reducible refine stop_ig kE ?_ ?_); rfl))
                refine Stop.go (blk_load (.int .i64 x.code) oneErr hB2 rfl rfl ?_)
                go_wp2_with (first | ((with_reducible apply wpList_unguard); rfl) | ((with_reducible (first | apply len_B | apply len_PB | apply len_PQ | apply len_L | apply len_Bat | apply len_Qst | apply len_H)); assumption) | ((with_reducible refine stop_ig kE ?_ ?_); rfl))
                refine Stop.go (blk_load (.int .u64 (x.note.batch.toNat : Int)) oneU64 hB2 rfl rfl ?_)
                go_wp2_with (first | ((with_reducible apply wpList_unguard); rfl) | ((with_reducible (first | apply len_B | apply len_PB | apply len_PQ | apply len_L | apply len_Bat | apply len_Qst | apply len_H)); assumption) | ((with_reducible refine stop_ig kE ?_ ?_); rfl))
                refine Stop.go (done_look hd3 rfl x.note.batch rfl ?_)
                rw [HZ.out]
                go_upto_region 26 with (fail)
                go_upto_region 28 with (fail)
                go_wp2_with (first | ((with_reducible apply wpList_unguard); rfl) | ((with_reducible (first | apply len_B | apply len_PB | apply len_PQ | apply len_L | apply len_Bat | apply len_Qst | apply len_H)); assumption) | ((with_reducible refine stop_ig kE ?_ ?_); rfl))
                refine Stop.go (blk_load (.bool true) oneBool hB2 rfl rfl ?_)
                go_wp2_with (fail)
                go_roundg (c'.B.length - (i2 + 1) + 1)
                case measure => have := Hk2.out; omega
                case rel => exact ⟨i2 + 1, f2, by omega, by omega, by go_num, by rw [HSN.out]; rfl, hsi2, hd3.mono (by omega), ho3⟩
              have hW := HWC.out hov hcd
              have hsum : ((x.stamp + 1).toNat : Int) = (x.stamp.toNat : Int) + 1 := by have := HSU.out.2; omega
              have HSM := Lib.hid hsum
              have hs0 : ((x.stamp.toNat : Int) + 1 != 0) = true := by simp; omega
              have hs0' : ((x.stamp.toNat : Int) + 1 == 0) = false := by simp; omega
              rw [hov] at hB2 HSN
              rw [hcd] at hB2
              by_cases hf0 : f2 x.note.batch = 0
              · have hz : ((f2 x.note.batch).toNat : Int) = 0 := by rw [hf0]; rfl
                have HZ := Lib.hid hz
                have HF0 := Lib.hid hf0
                clear hf0 hz hov hcd HWA HWC hsum
                go_wp2_with (first | ((with_reducible apply wpList_unguard); rfl) | ((with_reducible (first | apply len_B | apply len_PB | apply len_PQ | apply len_L | apply len_Bat | apply len_Qst | apply len_H)); assumption) | ((with_reducible refine stop_ig kE ?_ ?_); rfl))
                refine Stop.go (blk_load (.bool true) oneBool hB2 rfl rfl ?_)
                go_wp2_with (first | ((with_reducible apply wpList_unguard); rfl) | ((with_reducible (first | apply len_B | apply len_PB | apply len_PQ | apply len_L | apply len_Bat | apply len_Qst | apply len_H)); assumption) | ((with_reducible refine stop_ig kE ?_ ?_); rfl))
                refine Stop.go (blk_load (.int .i64 0) oneErr hB2 rfl rfl ?_)
                go_wp2_with (first | ((with_reducible apply wpList_unguard); rfl) | ((with_reducible (first | apply len_B | apply len_PB | apply len_PQ | apply len_L | apply len_Bat | apply len_Qst | apply len_H)); assumption) | ((with_reducible refine stop_ig kE ?_ ?_); rfl))
                refine Stop.go (blk_load (.int .u64 (x.note.batch.toNat : Int)) oneU64 hB2 rfl rfl ?_)
                go_wp2_with (first | ((with_reducible apply wpList_unguard); rfl) | ((with_reducible (first | apply len_B | apply len_PB | apply len_PQ | apply len_L | apply len_Bat | apply len_Qst | apply len_H)); assumption) | ((with_reducible refine stop_ig kE ?_ ?_); rfl))
                refine Stop.go (done_look hd3 rfl x.note.batch rfl ?_)
                rw [HZ.out]
                go_wp2_with (first | ((with_reducible apply wpList_unguard); rfl) | ((with_reducible (first | apply len_B | apply len_PB | apply len_PQ | apply len_L | apply len_Bat | apply len_Qst | apply len_H)); assumption) | ((with_reducible refine stop_ig kE ?_ ?_); rfl))
                refine Stop.go (blk_load (.int .u64 (x.note.batch.toNat : Int)) oneU64 hB2 rfl rfl ?_)
                go_wp2_with (first | ((with_reducible apply wpList_unguard); rfl) | ((with_reducible (first | apply len_B | apply len_PB | apply len_PQ | apply len_L | apply len_Bat | apply len_Qst | apply len_H)); assumption) | ((with_reducible refine stop_ig kE ?_ ?_); rfl))
                refine Stop.go (blk_load (.int .u64 (x.stamp.toNat : Int)) oneU64 hB2 rfl rfl ?_)
                go_wp2_with (first | ((with_reducible apply wpList_unguard); rfl) | ((with_reducible (first | apply len_B | apply len_PB | apply len_PQ | apply len_L | apply len_Bat | apply len_Qst | apply len_H)); assumption) | ((with_reducible refine stop_ig kE ?_ ?_); rfl))
                rw [← HSM.out]
                refine Stop.go (done_put hd3 (by omega) rfl x.note.batch (x.stamp + 1) rfl rfl fun wC hd4 hgr => ?_)
                have ho4 : Only (fun k => k = bm ∨ wL.heap.size ≤ k) wL wC := ho3.trans ((Only.of_grown hgr).mono (G := fun k => k = bm ∨ wL.heap.size ≤ k) fun k _ h => .inl (Option.some.inj h).symm) (fun _ _ h => h)
                have hB3 := hB2.grown hgr (fun e => hbbm (Option.some.inj e).symm)
                clear hB2 hd3 ho3 hgr
                go_wp2_with (first | ((with_reducible apply wpList_unguard); rfl) | ((with_reducible (first | apply len_B | apply len_PB | apply len_PQ | apply len_L | apply len_Bat | apply len_Qst | apply len_H)); assumption) | ((with_reducible refine stop_ig kE ?_ ?_); rfl))
                refine Stop.go (blk_load (.int .u64 (x.note.batch.toNat : Int)) oneU64 hB3 rfl rfl ?_)
                go_wp2_with (first | ((with_reducible apply wpList_unguard); rfl) | ((with_reducible (first | apply len_B | apply len_PB | apply len_PQ | apply len_L | apply len_Bat | apply len_Qst | apply len_H)); assumption) | ((with_reducible refine stop_ig kE ?_ ?_); rfl))
                refine Stop.go (done_look hd4 rfl x.note.batch rfl ?_)
                rw [if_pos rfl, HSM.out]
                go_wp2_with (first | ((with_reducible apply wpList_unguard); rfl) | ((with_reducible (first | apply len_B | apply len_PB | apply len_PQ | apply len_L | apply len_Bat | apply len_Qst | apply len_H)); assumption) | ((with_reducible refine stop_ig kE ?_ ?_); rfl))
                refine Stop.go (blk_load (.bool true) oneBool hB3 rfl rfl ?_)
                go_wp2_with (first | ((with_reducible apply wpList_unguard); rfl) | ((with_reducible (first | apply len_B | apply len_PB | apply len_PQ | apply len_L | apply len_Bat | apply len_Qst | apply len_H)); assumption) | ((with_reducible refine stop_ig kE ?_ ?_); rfl))
                refine Stop.go (blk_load (.int .i64 0) oneErr hB3 rfl rfl ?_)
                go_wp2_with (first | ((with_reducible apply wpList_unguard); rfl) | ((with_reducible (first | apply len_B | apply len_PB | apply len_PQ | apply len_L | apply len_Bat | apply len_Qst | apply len_H)); assumption) | ((with_reducible refine stop_ig kE ?_ ?_); rfl))
                refine Stop.go (blk_load (.int .u64 (x.stamp.toNat : Int)) oneU64 hB3 rfl rfl ?_)
                go_wp2_with (first | ((with_reducible apply wpList_unguard); rfl) | ((with_reducible (first | apply len_B | apply len_PB | apply len_PQ | apply len_L | apply len_Bat | apply len_Qst | apply len_H)); assumption) | ((with_reducible refine stop_ig kE ?_ ?_); rfl))
                refine Stop.go (blk_load (.bool true) oneBool hB3 rfl rfl ?_)
                go_wp2_with (fail)
                go_roundg (c'.B.length - (i2 + 1) + 1)
                case measure => have := Hk2.out; omega
                case rel => exact ⟨i2 + 1, _, by omega, by omega, by go_num, by rw [HSN.out]; rfl, hW, hd4.mono (by omega), ho4⟩
              · have hw := HWA.out hf0
                have hz : ((f2 x.note.batch).toNat : Int) = (x.stamp.toNat : Int) + 1 := by rw [hw.2.2]; exact hsum
                have HZ := Lib.hid hz
                have hd4 := hd3
                have ho4 := ho3
                have hB3 := hB2
                clear hz hov hcd HWA HWC hsum hw hd3 ho3
                go_wp2_with (first | ((with_reducible apply wpList_unguard); rfl) | ((with_reducible (first | apply len_B | apply len_PB | apply len_PQ | apply len_L | apply len_Bat | apply len_Qst | apply len_H)); assumption) | ((with_reducible refine stop_ig kE ?_ ?_); rfl))
                refine Stop.go (blk_load (.bool true) oneBool hB2 rfl rfl ?_)
                go_wp2_with (first | ((with_reducible apply wpList_unguard); rfl) | ((with_reducible (first | apply len_B | apply len_PB | apply len_PQ | apply len_L | apply len_Bat | apply len_Qst | apply len_H)); assumption) | ((with_reducible refine stop_ig kE ?_ ?_); rfl))
                refine Stop.go (blk_load (.int .i64 0) oneErr hB2 rfl rfl ?_)
                go_wp2_with (first | ((with_reducible apply wpList_unguard); rfl) | ((with_reducible (first | apply len_B | apply len_PB | apply len_PQ | apply len_L | apply len_Bat | apply len_Qst | apply len_H)); assumption) | ((with_reducible refine stop_ig kE ?_ ?_); rfl))
                refine Stop.go (blk_load (.int .u64 (x.note.batch.toNat : Int)) oneU64 hB2 rfl rfl ?_)
                go_wp2_with (first | ((with_reducible apply wpList_unguard); rfl) | ((with_reducible (first | apply len_B | apply len_PB | apply len_PQ | apply len_L | apply len_Bat | apply len_Qst | apply len_H)); assumption) | ((with_reducible refine stop_ig kE ?_ ?_); rfl))
                refine Stop.go (done_look hd4 rfl x.note.batch rfl ?_)
                rw [HZ.out]
                go_wp2_with (first | ((with_reducible apply wpList_unguard); rfl) | ((with_reducible (first | apply len_B | apply len_PB | apply len_PQ | apply len_L | apply len_Bat | apply len_Qst | apply len_H)); assumption) | ((with_reducible refine stop_ig kE ?_ ?_); rfl))
                refine Stop.go (blk_load (.int .u64 (x.note.batch.toNat : Int)) oneU64 hB3 rfl rfl ?_)
                go_wp2_with (first | ((with_reducible apply wpList_unguard); rfl) | ((with_reducible (first | apply len_B | apply len_PB | apply len_PQ | apply len_L | apply len_Bat | apply len_Qst | apply len_H)); assumption) | ((with_reducible refine stop_ig kE ?_ ?_); rfl))
                refine Stop.go (done_look hd4 rfl x.note.batch rfl ?_)
                rw [HZ.out]
                go_wp2_with (first | ((with_reducible apply wpList_unguard); rfl) | ((with_reducible (first | apply len_B | apply len_PB | apply len_PQ | apply len_L | apply len_Bat | apply len_Qst | apply len_H)); assumption) | ((with_reducible refine stop_ig kE ?_ ?_); rfl))
                refine Stop.go (blk_load (.bool true) oneBool hB3 rfl rfl ?_)
                go_wp2_with (first | ((with_reducible apply wpList_unguard); rfl) | ((with_reducible (first | apply len_B | apply len_PB | apply len_PQ | apply len_L | apply len_Bat | apply len_Qst | apply len_H)); assumption) | ((with_reducible refine stop_ig kE ?_ ?_); rfl))
                refine Stop.go (blk_load (.int .i64 0) oneErr hB3 rfl rfl ?_)
                go_wp2_with (first | ((with_reducible apply wpList_unguard); rfl) | ((with_reducible (first | apply len_B | apply len_PB | apply len_PQ | apply len_L | apply len_Bat | apply len_Qst | apply len_H)); assumption) | ((with_reducible refine stop_ig kE ?_ ?_); rfl))
                refine Stop.go (blk_load (.int .u64 (x.stamp.toNat : Int)) oneU64 hB3 rfl rfl ?_)
                go_wp2_with (first | ((with_reducible apply wpList_unguard); rfl) | ((with_reducible (first | apply len_B | apply len_PB | apply len_PQ | apply len_L | apply len_Bat | apply len_Qst | apply len_H)); assumption) | ((with_reducible refine stop_ig kE ?_ ?_); rfl))
                refine Stop.go (blk_load (.bool true) oneBool hB3 rfl rfl ?_)
                go_wp2_with (fail)
                go_roundg (c'.B.length - (i2 + 1) + 1)
                case measure => have := Hk2.out; omega
                case rel => exact ⟨i2 + 1, f2, by omega, by omega, by go_num, by rw [HSN.out]; rfl, hsi2, hd4.mono (by omega), ho4⟩
          · have hi2e : i2 = c'.B.length := by omega
            subst hi2e
            rw [List.take_length]
            obtain ⟨nb, hnb⟩ : ∃ nb, nb = openN c'.B := ⟨_, rfl⟩
            rw [← hnb]
            have hnb64 : nb ≤ 64 := by rw [hnb]; exact Nat.le_trans (openN_le _) hB64
            have hcM := hcL.only ho2
            have haM := below_only haL ho2 (fun k hk => by rcases hk with rfl | h; exact hbm1; exact Nat.le_trans haL.size h)
            have hqst := questions_has _ _ g c' hcM.has hst
            have HNB := Lib.hid hnb
            clear hcL haL hbv ho2 hnb
            go_wp2_with (first | ((with_reducible apply wpList_unguard); rfl) | ((with_reducible (first | apply len_B | apply len_PB | apply len_PQ | apply len_L | apply len_Bat | apply len_Qst | apply len_H)); assumption) | ((with_reducible refine stop_ig kE ?_ ?_); rfl))
            refine hqst.mono ?_
            rintro e wM ⟨qv, rfl, hqv, hbM⟩
            have hcN := hcM.below hbM (Nat.le_refl _)
            have hdN := hd2.keep (hbM.block bm hd2.lt)
            have haN := below_on haM hbM haM.size
            have sM := hbM.size
            have hqo := hqv.old
            clear hqst hcM hd2 haM hbM hqv
            obtain ⟨qa, qn, qc, rfl⟩ := Sl.shape hqo
            have hqn := sl_len hqo
            rw [List.length_map] at hqn
            subst hqn
            go_wp2_with (first | ((with_reducible apply wpList_unguard); rfl) | ((with_reducible (first | apply len_B | apply len_PB | apply len_PQ | apply len_L | apply len_Bat | apply len_Qst | apply len_H)); assumption) | ((with_reducible refine stop_ig kE ?_ ?_); rfl))
            go_loopg [9, 14, 118] (c'.Q.length + 1) (fun k x9 x14 i wq => ∃ (i3 : Nat), k = c'.Q.length - i3 + 1 ∧ i3 ≤ c'.Q.length ∧ i = .int .i64 i3 ∧ x9 = .int .i64 ((nb + openN (c'.Q.take i3) : Nat) : Int) ∧ Below wM.heap.size wM wq)
            case atStart => exact ⟨0, by omega, by omega, rfl, rfl, Below.refl _ _⟩
            case round =>
              obtain ⟨i3, hk3, hi3, rfl, rfl, hb3⟩ := hrel
              have Hk3 := Lib.hid hk3
              clear hk3
              have sb3 := hb3.size
              have hop : openN (c'.Q.take i3) ≤ 64 := by have := openN_le (c'.Q.take i3); rw [List.length_take] at this; omega
              by_cases hlt3 : i3 < c'.Q.length
              · have hqv3 := hqo.below hb3 (Nat.le_refl _)
                go_wp2_with (first | ((with_reducible apply wpList_unguard); rfl) | ((with_reducible (first | apply len_B | apply len_PB | apply len_PQ | apply len_L | apply len_Bat | apply len_Qst | apply len_H)); assumption) | ((with_reducible refine stop_ig kE ?_ ?_); rfl))
                refine Stop.go (idx_Qst hqv3 rfl (by omega) (by rw [List.length_map]; omega) fun b1 o1 y2 v2 hy hv2 q0 q1 q2 q3 q4 => ?_)
                obtain ⟨x, hx, hyx⟩ : ∃ x, c'.Q[i3]? = some x ∧ y2 = x.qst := by
                  rw [List.getElem?_map] at hy
                  obtain ⟨x, hx, e⟩ := Option.map_eq_some_iff.1 hy
                  exact ⟨x, by simpa using hx, e.symm⟩
                subst hyx
                have hxm := List.mem_of_getElem? hx
                have hsn := openN_snoc c'.Q i3 x hx
                have hqz := hsi2.qz x hxm
                obtain ⟨va, vn, vc, rfl⟩ := Sl.shape hv2
                have hvn : vn = x.hits.length := sl_len hv2
                have HSN := Lib.hid hsn
                have HQZ := Lib.hid hqz
                have HVN := Lib.hid hvn
                clear hy hx hqv3 hsn hqz hv2 hvn hxm
                go_wp2_with (first | ((with_reducible apply wpList_unguard); rfl) | ((with_reducible (first | apply len_B | apply len_PB | apply len_PQ | apply len_L | apply len_Bat | apply len_Qst | apply len_H)); assumption) | ((with_reducible refine stop_ig kE ?_ ?_); rfl))
                refine Stop.go (cells_loadV (.agg #[.int .u64 (x.note.query.toNat : Int), .bool x.over, .int .i64 x.code, .int .u64 (x.stamp.toNat : Int), .slice va vn vc]) [.int .u64 (x.note.query.toNat : Int), .bool x.over, .int .i64 x.code, .int .u64 (x.stamp.toNat : Int), .slice va vn vc] Tryd.underlying94 rfl (by kernel_rfl) rfl (cells5 q0 q1 q2 q3 q4) rfl ?_)
                go_wp2_with (first | ((with_reducible apply wpList_unguard); rfl) | ((with_reducible (first | apply len_B | apply len_PB | apply len_PQ | apply len_L | apply len_Bat | apply len_Qst | apply len_H)); assumption) | ((with_reducible refine stop_ig kE ?_ ?_); rfl))
                refine Stop.go (blk_alloc (z := .agg #[.int .u64 0, .bool false, .int .i64 0, .int .u64 0, .slice none 0 0]) (cs := #[.int .u64 0, .bool false, .int .i64 0, .int .u64 0, .slice none 0 0]) (zero_run (by kernel_rfl)) rfl fun bb wA hA hbg hbA => ?_)
                go_wp2_with (first | ((with_reducible apply wpList_unguard); rfl) | ((with_reducible (first | apply len_B | apply len_PB | apply len_PQ | apply len_L | apply len_Bat | apply len_Qst | apply len_H)); assumption) | ((with_reducible refine stop_ig kE ?_ ?_); rfl))
                refine Stop.go (blk_store_all (cs' := #[.int .u64 (x.note.query.toNat : Int), .bool x.over, .int .i64 x.code, .int .u64 (x.stamp.toNat : Int), .slice va vn vc]) hA rfl rfl (by kernel_rfl) rfl (by simp [Value.oneCell']) fun wB hB2 oB zB => ?_)
                have hbAB : Below wr.heap.size wr wB := hbA.trans (oB.below hbA.size (by rintro k rfl; exact hbg))
                have hb4 := below_on hb3 hbAB sb3
                clear q0 q1 q2 q3 q4 hA hbA oB zB hb3 hbAB
                cases hov : x.over
                · rw [hov] at hB2 HSN
                  have hz := HQZ.out hov
                  have hs0 : (x.stamp.toNat : Int) = 0 := by rw [hz.1]; rfl
                  have hv0 : vn = 0 := by rw [HVN.out, hz.2]; rfl
                  subst hv0
                  rw [hs0] at hB2
                  clear hz hs0 hov HQZ HVN
                  go_wp2_with (first | ((with_reducible apply wpList_unguard); rfl) | ((with_reducible (first | apply len_B | apply len_PB | apply len_PQ | apply len_L | apply len_Bat | apply len_Qst | apply len_H)); assumption) | ((with_reducible refine stop_ig kE ?_ ?_); rfl))
                  refine Stop.go (blk_load (.bool false) oneBool hB2 rfl rfl ?_)
                  go_wp2_with (first | ((with_reducible apply wpList_unguard); rfl) | ((with_reducible (first | apply len_B | apply len_PB | apply len_PQ | apply len_L | apply len_Bat | apply len_Qst | apply len_H)); assumption) | ((with_reducible refine stop_ig kE ?_ ?_); rfl))
                  refine Stop.go (blk_load (.int .u64 0) oneU64 hB2 rfl rfl ?_)
                  go_wp2_with (first | ((with_reducible apply wpList_unguard); rfl) | ((with_reducible (first | apply len_B | apply len_PB | apply len_PQ | apply len_L | apply len_Bat | apply len_Qst | apply len_H)); assumption) | ((with_reducible refine stop_ig kE ?_ ?_); rfl))
                  refine Stop.go (blk_load (.slice va 0 vc) oneH hB2 rfl rfl ?_)
                  go_wp2_with (fail)
                  go_roundg (c'.Q.length - (i3 + 1) + 1)
                  case measure => have := Hk3.out; omega
                  case rel => exact ⟨i3 + 1, by omega, by omega, by go_num, by rw [HSN.out, if_neg (by decide)]; go_num, hb4⟩
                · rw [hov] at hB2 HSN
                  clear hov HQZ HVN
                  go_wp2_with (first | ((with_reducible apply wpList_unguard); rfl) | ((with_reducible (first | apply len_B | apply len_PB | apply len_PQ | apply len_L | apply len_Bat | apply len_Qst | apply len_H)); assumption) | ((with_reducible refine stop_ig kE ?_ ?_); rfl))
                  refine Stop.go (blk_load (.bool true) oneBool hB2 rfl rfl ?_)
                  go_wp2_with (fail)
                  go_roundg (c'.Q.length - (i3 + 1) + 1)
                  case measure => have := Hk3.out; omega
                  case rel => exact ⟨i3 + 1, by omega, by omega, by go_num, by rw [HSN.out]; rfl, hb4⟩
              · have e3 : i3 = c'.Q.length := by omega
                subst e3
                rw [List.take_length]
                have hcO := hcN.below hb3 (Nat.le_refl _)
                have hdO := hdN.keep (hb3.block bm hdN.lt)
                have haO := below_on haN hb3 haN.size
                have hwk := wake_has _ _ g c' hcO.has hst
                have hwo : c'.wake.length = nb + openN c'.Q := by rw [wake_open, HNB.out]
                rw [hwo] at hwk
                obtain ⟨n2, hn2⟩ : ∃ n2, n2 = nb + openN c'.Q := ⟨_, rfl⟩
                rw [← hn2] at hwk ⊢
                rw [List.take_length] at hop
                have hn64 : n2 ≤ 128 := by omega
                clear hcN hdN haN hb3 hwo hn2 hqo
                go_wp2_with (first | ((with_reducible apply wpList_unguard); rfl) | ((with_reducible (first | apply len_B | apply len_PB | apply len_PQ | apply len_L | apply len_Bat | apply len_Qst | apply len_H)); assumption) | ((with_reducible refine stop_ig kE ?_ ?_); rfl))
                refine hwk.mono ?_
                rintro e wW ⟨a4, p4, rfl, hbW⟩
                have hcP := hcO.below hbW (Nat.le_refl _)
                have hdP := hdO.keep (hbW.block bm hdO.lt)
                have haP := below_on haO hbW haO.size
                clear hwk hcO hdO haO hbW
                go_wp2_with (fail)
                go_roundg (l.length - (j + 1) + 1)
                case measure => have := Hk.out; omega
                case rel => exact ⟨j + 1, c', f2, by omega, by omega, by omega, by go_num, hst, hsi2, hcP, hdP.mono (by omega), haP⟩
    · have hjl : j = l.length := by omega
      go_wp2_with (fail)
      go_ret
      exact ⟨rfl, har⟩
end Go.Proofs.YtjkffjngamagkaaDoor
