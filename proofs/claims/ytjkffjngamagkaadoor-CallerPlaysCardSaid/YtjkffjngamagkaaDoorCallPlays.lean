/- armillarylaw19: CallerPlays. -/
import Derived.Test.YtjkffjngamagkaaDoorDuo
import Derived.Test.YtjkffjngamagkaaDoorRefSame
import Derived.Test.YtjkffjngamagkaaDoorCalOp
import Derived.Deep.CutBlock
namespace Go.Arm
open Go.RowKit
structure RawI where
 val : Int
instance : Rep RawI where
 sz := 1
 rd _ _ x cs := cs = [.int .i32 x.val]
 len h := by subst h; rfl
 one h := by subst h; intro u hu; simp at hu; subst hu; rfl
 keep h _ := h
theorem rds_raw {w : World} {S : Nat → Prop} : ∀ {l : List Int32} {cs : List Value}, rds w S l cs → rds w S (l.map fun x => (⟨x.toInt⟩ : RawI)) cs
 | [], _, h => h
 | _ :: _, _, h => by
  obtain ⟨c, d, rfl, h1, h2⟩ := h
  exact ⟨c, d, rfl, h1, rds_raw h2⟩
theorem Own.raw {w : World} {B : Nat} {e : TypeId} {S : Nat → Prop} {l : List Int32} {v : Value} (h : Own w B e S l v) : Own w B e S (l.map fun x => (⟨x.toInt⟩ : RawI)) v := by
 obtain ⟨cs, h1, h2⟩ := h
 exact ⟨cs, rds_raw h1, by rw [List.length_map]; exact h2⟩
def CallR.stepP (c : CallR) (y : OpC) : CallR :=
 if y.act.toNat % 11 ≤ 2 then c.put (fewN y.note).batch (fewN y.note).ops
 else if y.act.toNat % 11 ≤ 4 then c.ask (fewN y.note)
 else if y.act.toNat % 11 = 10 then c else c.hearN y.src (fewN y.note)
theorem CallR.Ok.stepP {c : CallR} (h : c.Ok) (y : OpC) : (c.stepP y).Ok := by
 unfold CallR.stepP
 split
 ·exact h.put _ _
 ·split
  ·exact h.ask _
  ·split
   ·exact h
   ·exact h.hearN _ _
theorem putL_len (o : Option CallR) (num : UInt64) (l : List OpR) : (oL o (·.putL num l)).length ≤ 200 := by
 cases o with
 | none => exact Nat.zero_le _
 | some c =>
  show (c.putL num l).length ≤ 200
  unfold CallR.putL
  split <;> simp
theorem askL_len (o : Option CallR) (n : NoteR) : (oL o (·.askL n)).length ≤ 200 := by
 cases o with
 | none => exact Nat.zero_le _
 | some c =>
  show (c.askL n).length ≤ 200
  unfold CallR.askL
  split <;> simp
theorem wakeL_len (o : Option CallR) (h : ∀ c, o = some c → c.Ok) : (oL o (·.wake)).length ≤ 200 := by
 cases o with
 | none => exact Nat.zero_le _
 | some c =>
  show c.wake.length ≤ 200
  have h1 := h c rfl
  have h2 := letsOf_len c.self c.B
  have h3 := letsOf_len c.self c.Q
  have := h1.hB
  have := h1.hQ
  unfold CallR.wake
  rw [List.length_append]
  omega
end Go.Arm
namespace Go.Proofs.YtjkffjngamagkaaDoor
open Go Go.RowKit Go.Arm
def opCells (y : OpC) (vp vo vv vh : Value) : Array Value := #[.int .u8 (y.act.toNat : Int), .int .i64 y.src, .int .u8 (y.note.kind.toNat : Int), .int .u64 (y.note.txn.toNat : Int), .int .u64 (y.note.batch.toNat : Int), .int .u64 (y.note.stamp.toNat : Int), .int .u64 (y.note.after.toNat : Int), .int .u64 (y.note.mark.toNat : Int), .int .u64 (y.note.query.toNat : Int), .int .u64 (y.note.id.toNat : Int), .int .i64 y.note.k, .int .i64 y.note.ef, .int .i64 y.note.code, .int .i64 y.note.who, vp, vo, vv, vh]
theorem opCells_one (y : OpC) {vp vo vv vh : Value} (h1 : SlV vp) (h2 : SlV vo) (h3 : SlV vv) (h4 : SlV vh) : (opCells y vp vo vv vh).all (·.oneCell') = true := by
 obtain ⟨_, _, _, rfl⟩ := h1
 obtain ⟨_, _, _, rfl⟩ := h2
 obtain ⟨_, _, _, rfl⟩ := h3
 obtain ⟨_, _, _, rfl⟩ := h4
 simp [opCells, Value.oneCell']
def zeroOp : Array Value := #[.int .u8 0, .int .i64 0, .int .u8 0, .int .u64 0, .int .u64 0, .int .u64 0, .int .u64 0, .int .u64 0, .int .u64 0, .int .u64 0, .int .i64 0, .int .i64 0, .int .i64 0, .int .i64 0, .slice none 0 0, .slice none 0 0, .slice none 0 0, .slice none 0 0]
theorem oneI32 : One Tryd.prog 21 := One.mk' Tryd.underlying21 rfl (by kernel_rfl)
theorem CalP.base {w : World} {base base' : Nat} {M S : Nat → Prop} {g : Nat} {c : CallR} (h : CalP w base M S g c) (hb : base' ≤ base) : CalP w base' M S g c := by
 obtain ⟨vb, vq, bs, qs, h1, h2, h3, h4, h5, h6, h7, h8, h9⟩ := h
 exact ⟨vb, vq, bs, qs, h1, Nat.le_trans hb h2, h3, h4.rebase fun b hb' => Nat.le_trans hb (h4.ge b hb').1, h5, h6.rebase fun b hb' => Nat.le_trans hb (h6.ge b hb').1, h7, ⟨h8.1, h8.2.1, fun b hb' => ⟨Nat.le_trans hb (h8.2.2.1 b hb').1, (h8.2.2.1 b hb').2⟩, h8.2.2.2⟩, ⟨h9.1, h9.2.1, fun b hb' => ⟨Nat.le_trans hb (h9.2.2.1 b hb').1, (h9.2.2.1 b hb').2⟩, h9.2.2.2⟩⟩
theorem Went.trans {w w1 w2 : World} {base : Nat} {pc px : Value} {o1 o2 p1 p2 : Option CallR} {Z Z1 Z2 Y Y1 Y2 : Nat → Prop} (h : Went w w1 base pc px o1 o2 Z Z1 Y) (h' : Went w1 w2 base pc px p1 p2 Z1 Z2 Y1) (hY : ∀ k, Y2 k → Y1 k) : Went w w2 base pc px p1 p2 Z Z2 Y2 :=
 ⟨h'.1.mono (fun _ e => e) hY fun k hk => h'.1.yz k (hY k hk), fun k hk => h'.2.1 k (h.2.1 k hk), fun k hk => (h'.2.2.1 k (h.2.1 k hk)).trans (h.2.2.1 k hk), h.2.2.2.trans h'.2.2.2⟩
set_option maxHeartbeats 64000000 in
set_option maxRecDepth 100000 in
theorem callerPlays_any (w : World) (hN : Srt w) (hB : Nib w) (nn : Bool) (self : Int) (S : Nat → Prop) (l : List OpC) (p : Value) (hp : Sl w S l p) :
  Calls Tryd.prog 9 #[.bool nn, .int .i64 self, p] w fun e w' => e = .returned (.bool true) ∧ Below w.heap.size w w' := by
 have hp0 := hp.old
 clear hp
 have hll : l.length ≤ 9223372036854775807 := hp0.length_le
 obtain ⟨pa, pc, pcs, rfl, rst⟩ := id hp0
 clear rst
 go_enter Tryd.func9, Tryd.ntmps9
 go_wp2_with (first | ((with_reducible apply ugZ); rfl) | ((with_reducible (first | apply len_B | apply len_V | apply len_C | apply len_L | apply len_RL)); assumption) | ((with_reducible refine stop_ig kC ?_ ?_); rfl))
 refine (awake19_any w hN hB).mono ?_
 rintro e w1 ⟨rfl, ha1⟩
 have s1 := ha1.size
 go_wp2_with (first | ((with_reducible apply ugZ); rfl) | ((with_reducible (first | apply len_B | apply len_V | apply len_C | apply len_L | apply len_RL)); assumption) | ((with_reducible refine stop_ig kC ?_ ?_); rfl))
 refine (cnew_any w1 self).mono ?_
 rintro e w2 ⟨hr, hnr, hb2⟩
 have ha2 := below_on ha1 hb2 s1
 have s2 := ha2.size
 have hb2s := ha1.size
 obtain ⟨rb, qc, ec, rfl, hrb, hE⟩ : ∃ rb qc ec, e = .returned (.tuple #[qc, .int .i64 ec]) ∧ rb = decide (1 ≤ self ∧ self ≤ 15) ∧ ((rb = true ∧ ec = 0 ∧ ∃ g, qc = .pointer (some ⟨g, 0, none⟩) ∧ CalP w2 w1.heap.size (fun k => k = g) (fun _ => False) g ⟨self, [], []⟩ ∧ Fr w2 w1.heap.size (fun k => k = g) (fun _ => False)) ∨ (rb = false ∧ ec = 1 ∧ qc = .pointer none)) := by
  by_cases h : 1 ≤ self ∧ self ≤ 15
  ·obtain ⟨g, rfl, h1, h2⟩ := hr h
   exact ⟨true, _, 0, rfl, (decide_eq_true h).symm, .inl ⟨rfl, rfl, g, rfl, h1, h2⟩⟩
  ·obtain rfl := hnr h
   exact ⟨false, _, 1, rfl, (decide_eq_false h).symm, .inr ⟨rfl, rfl, rfl⟩⟩
 have HRB := Lib.hid hrb
 clear hr hnr hb2 ha1 s1 hrb
 go_upto_region 4 with (fail)
 go_cut [9] (fun x9 wx => x9 = .bool rb ∧ wx = w2)
 case first =>
  have h0 := HRB.out
  by_cases h1 : 1 ≤ self
  ·by_cases h2 : self ≤ 15
   ·have e : rb = true := by rw [h0]; exact decide_eq_true ⟨h1, h2⟩
    subst e
    clear h0 HRB
    go_wp2_with (fail)
    go_meet
    case rel => exact ⟨rfl, rfl⟩
   ·have e : rb = false := by rw [h0]; exact decide_eq_false fun h => h2 h.2
    subst e
    clear h0 HRB
    go_wp2_with (fail)
    go_meet
    case rel => exact ⟨rfl, rfl⟩
  ·have e : rb = false := by rw [h0]; exact decide_eq_false fun h => h1 h.1
   subst e
   clear h0 HRB
   go_wp2_with (fail)
   go_meet
   case rel => exact ⟨rfl, rfl⟩
 case rest =>
  obtain ⟨rfl, hw⟩ := hcut
  obtain rfl := hw.symm
  clear HRB
  go_upto_region 5 with (fail)
  go_cut [51] (fun x51 wx => x51 = .bool false ∧ wx = w2)
  case first =>
   rcases hE with ⟨rfl, rfl, g, rfl, _⟩ | ⟨rfl, rfl, rfl⟩
   ·go_wp2_with (fail)
    go_meet
    case rel => exact ⟨rfl, rfl⟩
   ·go_wp2_with (fail)
    go_meet
    case rel => exact ⟨rfl, rfl⟩
  case rest =>
   obtain ⟨rfl, hw⟩ := hcut
   obtain rfl := hw.symm
   go_wp2_with (first | ((with_reducible apply ugZ); rfl) | ((with_reducible (first | apply len_B | apply len_V | apply len_C | apply len_L | apply len_RL)); assumption) | ((with_reducible refine stop_ig kC ?_ ?_); rfl))
   refine Stop.go (blk_box (cs := #[.int .i64 self, .slice none 0 0, .slice none 0 0]) rfl fun gx w3 hx hxg hb3 => ?_)
   have ha3 := below_on ha2 hb3 s2
   have hx3 := hx.lt
   go_upto_region 8 with (fail)
   go_cut [59] (fun x59 wx => x59 = .bool (nn || !rb) ∧ wx = w3)
   case first =>
    cases nn
    ·cases rb
     ·go_wp2_with (fail)
      go_meet
      case rel => exact ⟨rfl, rfl⟩
     ·go_wp2_with (fail)
      go_meet
      case rel => exact ⟨rfl, rfl⟩
    ·go_wp2_with (fail)
     go_meet
     case rel => exact ⟨rfl, rfl⟩
   case rest =>
    obtain ⟨rfl, hw⟩ := hcut
    obtain rfl := hw.symm
    go_upto_if 59 with (fail)
    go_cut [7, 10] (fun x7 x10 wx => wx = w3 ∧ ∃ o, (∀ c, o = some c → c.Ok) ∧ Two w3 w.heap.size x7 x10 o o (fun _ => False) (fun _ => False))
    case first =>
     obtain ⟨cb, hcb⟩ : ∃ cb, cb = (nn || !rb) := ⟨_, rfl⟩
     rw [← hcb]
     have HCB := Lib.hid hcb
     clear hcb
     cases cb
     ·go_wp2_with (fail)
      go_meet
      case rel =>
       refine ⟨rfl, some ⟨self, [], []⟩, fun c e => by cases e; exact Ok0 self, ?_⟩
       have hrb : rb = true := by have := HCB.out; cases rb <;> simp at this ⊢
       rcases hE with ⟨_, _, g, rfl, h1, h2⟩ | ⟨h, _⟩
       ·have h3 := h1.below h2 hb3 (Nat.le_refl _)
        have h4 := h2.below hb3
        have hg := (h2 g rfl).2.1
        have hl1 := hb2s
        have h5 : CalP w3 w.heap.size (fun k => k = g) (fun _ => False) g ⟨self, [], []⟩ := CalP.base h3 hl1
        have h6 : Fr w3 w.heap.size (fun k => k = g) (fun _ => False) := fun k hk => ⟨Nat.le_trans hl1 (h4 k hk).1, (h4 k hk).2⟩
        refine .inr ⟨g, gx, _, _, fun k => k = g, fun _ => False, fun k => k = gx, fun _ => False, rfl, rfl, rfl, rfl, ⟨h5, h6, ?_, ?_, ?_, fun _ _ h => h, fun _ _ h => h, fun _ h => h.elim False.elim False.elim, fun _ h => h.elim, fun _ h => h.elim⟩⟩
        ·exact ⟨.slice none 0 0, .slice none 0 0, hx, by omega, rfl, Own.nil _ _ _ _, (fun k hk => by cases hk), Own.nil _ _ _ _, fun k hk => by cases hk⟩
        ·rintro k rfl
         exact ⟨by omega, hx3, fun h => h⟩
        ·rintro k rfl e
         omega
       ·rw [hrb] at h; cases h
     ·go_wp2_with (fail)
      go_meet
      case rel => exact ⟨rfl, none, fun c e => (by cases e), .inl ⟨rfl, rfl, rfl, rfl, fun _ h => h.elim, fun _ h => h⟩⟩
    case rest =>
     obtain ⟨hw, o, hok, htw⟩ := hcut
     obtain rfl := hw.symm
     clear hE hx hxg hb3 hx3 ha2 s2 hb2s
     have s3 := ha3.size
     go_wp2_with (first | ((with_reducible apply ugZ); rfl) | ((with_reducible (first | apply len_B | apply len_V | apply len_C | apply len_L | apply len_RL)); assumption) | ((with_reducible refine stop_ig kC ?_ ?_); rfl))
     go_loopg [11, 12, 13, 14, 15, 16, 17, 18, 19, 20, 62] (l.length + 1) (fun k x11 x12 x13 x14 x15 x16 x17 x18 x19 x20 i wr => ∃ (j : Nat) (o : Option CallR), k = l.length - j + 1 ∧ j ≤ l.length ∧ j ≤ 80 ∧ i = .int .i64 j ∧ (∀ c, o = some c → c.Ok) ∧ Two wr w.heap.size u7 u10 o o (fun _ => False) (fun _ => False) ∧ Below w.heap.size w wr)
     case atStart => exact ⟨0, o, by omega, by omega, by omega, rfl, hok, htw, ha3⟩
     case round =>
      clear htw hok ha3
      clear o
      obtain ⟨j, o, hk, hj, hj8, rfl, hok, htr, har⟩ := hrel
      have Hk := Lib.hid hk
      clear hk
      have sr := har.size
      by_cases hlt : j < l.length
      ·have hpr := hp0.below har (Nat.le_refl _)
       go_wp2_with (first | ((with_reducible apply ugZ); rfl) | ((with_reducible (first | apply len_B | apply len_V | apply len_C | apply len_L | apply len_RL)); assumption) | ((with_reducible refine stop_ig kC ?_ ?_); rfl))
       refine Stop.go (idx_C hpr rfl (by omega) (by omega) fun b o0 y vp vo vv vh hy hV hI hc => ?_)
       clear hy hpr
       have h1 : SlV vp := by obtain ⟨_, _, _, _, e, h1, _⟩ := hV; cases e; exact Sl.slv h1
       have h2 : SlV vo := by obtain ⟨_, _, _, _, e, _, h1, _⟩ := hV; cases e; exact Sl.slv h1
       have h3 : SlV vv := by obtain ⟨_, _, _, _, e, _, _, h1, _⟩ := hV; cases e; exact Sl.slv h1
       have h4 : SlV vh := by obtain ⟨_, _, _, _, e, _, _, _, h1, _⟩ := hV; cases e; exact Sl.slv h1
       have hone := opCells_one y h1 h2 h3 h4
       clear h1 h2 h3 h4
       go_wp2_with (first | ((with_reducible apply ugZ); rfl) | ((with_reducible (first | apply len_B | apply len_V | apply len_C | apply len_L | apply len_RL)); assumption) | ((with_reducible refine stop_ig kC ?_ ?_); rfl))
       refine Stop.go (cells_loadW (.agg (opCells y vp vo vv vh)) (opCells y vp vo vv vh).toList Tryd.underlying73 rfl (by kernel_rfl) rfl hc rfl ?_)
       go_wp2_with (first | ((with_reducible apply ugZ); rfl) | ((with_reducible (first | apply len_B | apply len_V | apply len_C | apply len_L | apply len_RL)); assumption) | ((with_reducible refine stop_ig kC ?_ ?_); rfl))
       refine Stop.go (blk_alloc (z := .agg zeroOp) (cs := zeroOp) (zero_run (by kernel_rfl)) rfl fun bo w4 ho hog hb4 => ?_)
       go_wp2_with (first | ((with_reducible apply ugZ); rfl) | ((with_reducible (first | apply len_B | apply len_V | apply len_C | apply len_L | apply len_RL)); assumption) | ((with_reducible refine stop_ig kC ?_ ?_); rfl))
       refine Stop.go (blk_store_all (cs' := opCells y vp vo vv vh) ho rfl rfl (by kernel_rfl) rfl hone fun w5 ho5 o5 z5 => ?_)
       have hb5 : Below wr.heap.size wr w5 := hb4.trans (o5.below hb4.size (by rintro k rfl; exact hog))
       have hV5 := hV.below hb5 (Nat.le_refl _)
       have s5 := hb5.size
       have hobl := ho5.lt
       clear ho hb4 o5 z5 hV hone hc
       by_cases h80 : 80 ≤ j
       ·have h80' : (80 : Int) ≤ (j : Int) := by omega
        go_wp2_with (fail)
        go_ret
        exact ⟨rfl, below_on har hb5 sr⟩
       have h80' : ¬ (80 : Int) ≤ (j : Int) := by omega
       go_wp2_with (first | ((with_reducible apply ugZ); rfl) | ((with_reducible (first | apply len_B | apply len_V | apply len_C | apply len_L | apply len_RL)); assumption) | ((with_reducible refine stop_ig kC ?_ ?_); rfl))
       refine Stop.go (blk_load_subW (noteV y.note vp vo vv vh) (noteV y.note vp vo vv vh).cells.toList Tryd.underlying36 rfl (by kernel_rfl) ho5 rfl rfl rfl ?_)
       go_wp2_with (first | ((with_reducible apply ugZ); rfl) | ((with_reducible (first | apply len_B | apply len_V | apply len_C | apply len_L | apply len_RL)); assumption) | ((with_reducible refine stop_ig kC ?_ ?_); rfl))
       refine (rfewn_any w5 _ y.note _ hV5).mono ?_
       rintro e w6 ⟨V6, rfl, hV6, hb6⟩
       have ho6 := ho5.below hb6 hobl
       have hbr6 := below_on hb5 hb6 s5
       have s6 := hb6.size
       have hstep : ∀ c : CallR, c.stepP y = if y.act.toNat % 11 ≤ 2 then c.put (fewN y.note).batch (fewN y.note).ops else if y.act.toNat % 11 ≤ 4 then c.ask (fewN y.note) else if y.act.toNat % 11 = 10 then c else c.hearN y.src (fewN y.note) := fun _ => rfl
       have hfew := few_same y.note
       generalize fewN y.note = m at *
       have HST := Lib.hid hstep
       clear hstep ho5 hV5 hb6 hb5
       obtain ⟨up, uo, uv, uh, rfl, z1, z2, z3, z4⟩ := nt_shape hV6
       have hone := noteV_one m z1 z2 z3 z4
       go_wp2_with (first | ((with_reducible apply ugZ); rfl) | ((with_reducible (first | apply len_B | apply len_V | apply len_C | apply len_L | apply len_RL)); assumption) | ((with_reducible refine stop_ig kC ?_ ?_); rfl))
       refine Stop.go (blk_alloc (z := .agg zeroCells) (cs := zeroCells) (zero_run (by kernel_rfl)) rfl fun bn w7 hn hng hb7 => ?_)
       go_wp2_with (first | ((with_reducible apply ugZ); rfl) | ((with_reducible (first | apply len_B | apply len_V | apply len_C | apply len_L | apply len_RL)); assumption) | ((with_reducible refine stop_ig kC ?_ ?_); rfl))
       refine Stop.go (blk_store_all (cs' := (noteV m up uo uv uh).cells) hn rfl rfl (by kernel_rfl) rfl hone fun w8 hn8 o8 z8 => ?_)
       have hx8 : RBox w8 bn m up uo uv uh := hn8
       have hb8 : Below w6.heap.size w6 w8 := hb7.trans (o8.below hb7.size (by rintro k rfl; exact hng))
       have ho8 := ho6.below hb8 (by omega)
       have hbr8 := below_on hbr6 hb8 hbr6.size
       have s8 := hb8.size
       have hV8 : Nt w8 (fun k => wr.heap.size ≤ k ∧ k < w8.heap.size) m (noteV m up uo uv uh) := (hV6.below hb8 (Nat.le_refl _)).keep fun k (hk : w5.heap.size ≤ k) hlt => ⟨rfl, by omega, hlt⟩
       have hbnl := Blk.lt hx8
       clear hn hb7 o8 z8 hn8 ho6 hV6 hb8 hone z1 z2 z3 z4 hbr6
       go_wp2_with (first | ((with_reducible apply ugZ); rfl) | ((with_reducible (first | apply len_B | apply len_V | apply len_C | apply len_L | apply len_RL)); assumption) | ((with_reducible refine stop_ig kC ?_ ?_); rfl))
       refine Stop.go (load_R hx8 rfl ?_)
       go_wp2_with (first | ((with_reducible apply ugZ); rfl) | ((with_reducible (first | apply len_B | apply len_V | apply len_C | apply len_L | apply len_RL)); assumption) | ((with_reducible refine stop_ig kC ?_ ?_); rfl))
       refine (rfewv_any w8 _ m _ hV8).mono ?_
       rw [hfew]
       rintro e w9 ⟨qp, qo, qv, qh, rfl, hQ9, hW9, hb9⟩
       have s9 := hb9.size
       have ho9 := ho8.below hb9 (by omega)
       have hx9 := hx8.below hb9 (by omega)
       have hV9 := hV8.below hb9 (Nat.le_refl _)
       have hbr9 := below_on hbr8 hb9 hbr8.size
       have hone := noteV_one m (by obtain ⟨_, _, _, _, e, h1, _⟩ := hQ9; cases e; exact Sl.slv h1) (by obtain ⟨_, _, _, _, e, _, h1, _⟩ := hQ9; cases e; exact Sl.slv h1) (by obtain ⟨_, _, _, _, e, _, _, h1, _⟩ := hQ9; cases e; exact Sl.slv h1) (by obtain ⟨_, _, _, _, e, _, _, _, h1, _⟩ := hQ9; cases e; exact Sl.slv h1)
       clear ho8 hx8 hV8 hb9 hbr8
       go_wp2_with (first | ((with_reducible apply ugZ); rfl) | ((with_reducible (first | apply len_B | apply len_V | apply len_C | apply len_L | apply len_RL)); assumption) | ((with_reducible refine stop_ig kC ?_ ?_); rfl))
       refine Stop.go (blk_alloc (z := .agg zeroCells) (cs := zeroCells) (zero_run (by kernel_rfl)) rfl fun bm wa hm hmg hba => ?_)
       go_wp2_with (first | ((with_reducible apply ugZ); rfl) | ((with_reducible (first | apply len_B | apply len_V | apply len_C | apply len_L | apply len_RL)); assumption) | ((with_reducible refine stop_ig kC ?_ ?_); rfl))
       refine Stop.go (blk_store_all (cs' := (noteV m qp qo qv qh).cells) hm rfl rfl (by kernel_rfl) rfl hone fun wb hm8 ob zb => ?_)
       have hmb : Box wb bm m qp qo qv qh := hm8
       have hbb : Below w9.heap.size w9 wb := hba.trans (ob.below hba.size (by rintro k rfl; exact hmg))
       have sb := hbb.size
       have hob := ho9.below hbb (by omega)
       have hnb := hx9.below hbb (by omega)
       have hVb := hV9.below hbb (Nat.le_refl _)
       have hbrb := below_on hbr9 hbb hbr9.size
       have hab := below_on har hbrb sr
       have hbml := Blk.lt hmb
       have hQb : Nt wb (fun k => wr.heap.size ≤ k ∧ k < wb.heap.size) m (noteV m qp qo qv qh) := (hQ9.below hbb (Nat.le_refl _)).keep fun k (hk : w8.heap.size ≤ k) hlt => ⟨rfl, by omega, hlt⟩
       have hWb := hW9.below hbb (Nat.le_refl _)
       have htb := (htr.grow hbrb).mono (Z' := fun k => wr.heap.size ≤ k ∧ k < wb.heap.size) (Y' := fun k => w8.heap.size ≤ k ∧ k < wb.heap.size) (fun k hk => .inr hk) (fun k hk => .inr ⟨by omega, hk.2⟩) (fun k hk => ⟨by omega, hk.2⟩)
       have hbnr : wr.heap.size ≤ bn := by omega
       have hbmr : wr.heap.size ≤ bm := by omega
       have hbor : wr.heap.size ≤ bo := hog
       clear hm hba ob zb hm8 ho9 hx9 hV9 hbr9 hQ9 hW9 hbb hone hmg hng hog htr har hfew
       go_wp2_with (first | ((with_reducible apply ugZ); rfl) | ((with_reducible (first | apply len_B | apply len_V | apply len_C | apply len_L | apply len_RL)); assumption) | ((with_reducible refine stop_ig kC ?_ ?_); rfl))
       refine Stop.go (blk_load (.int .u8 (y.act.toNat : Int)) oneU8 hob rfl rfl ?_)
       obtain ⟨r, hr, hr11⟩ : ∃ r : Nat, (y.act.toNat : Int) % 11 = r ∧ r = y.act.toNat % 11 := ⟨y.act.toNat % 11, by simp, rfl⟩
       have hrl : r < 11 := by omega
       rw [← hr11] at HST
       have HR := Lib.hid hr
       clear hr hr11
       go_upto_block 2 with (fail)
       rw [HR.out]
       obtain ⟨F, hF⟩ : ∃ F : CallR → CallR, F = fun c => c.stepP y := ⟨_, rfl⟩
       have HF := Lib.hid hF
       clear hF
       have hbs := hab.size
       go_cut [15, 16, 17, 18, 19] (fun x15 x16 x17 x18 x19 wx => ∃ (Zf : Nat → Prop) (L : List LetR) (code : Int), x17 = .int .i64 code ∧ x18 = .int .i64 code ∧ Sl wx Zf L x15 ∧ Sl wx Zf L x16 ∧ L.length ≤ 200 ∧ Went wb wx w.heap.size u7 u10 (o.map F) (o.map F) (fun k => wr.heap.size ≤ k ∧ k < wb.heap.size) Zf (fun k => w8.heap.size ≤ k ∧ k < wb.heap.size))
       case first =>
        rcases (show r = 0 ∨ r = 1 ∨ r = 2 ∨ r = 3 ∨ r = 4 ∨ r = 10 ∨ (5 ≤ r ∧ r ≤ 9) by omega) with rfl | rfl | rfl | rfl | rfl | rfl | ⟨hr5, hr9⟩
        ·have e : F = fun c => c.put m.batch m.ops := HF.out.trans (funext fun c => by rw [HST.out, if_pos (by decide)])
         clear HST HF HR
         go_wp2_with (first | ((with_reducible apply ugZ); rfl) | ((with_reducible (first | apply len_B | apply len_V | apply len_C | apply len_L | apply len_RL)); assumption) | ((with_reducible refine stop_ig kC ?_ ?_); rfl))
         refine Stop.go (blk_load (cs := (noteV m up uo uv uh).cells) (.int .u64 (m.batch.toNat : Int)) oneU64 hnb rfl rfl ?_)
         go_wp2_with (first | ((with_reducible apply ugZ); rfl) | ((with_reducible (first | apply len_B | apply len_V | apply len_C | apply len_L | apply len_RL)); assumption) | ((with_reducible refine stop_ig kC ?_ ?_); rfl))
         refine Stop.go (blk_load (cs := (noteV m qp qo qv qh).cells) qo oneO hmb rfl rfl ?_)
         obtain ⟨_, _, _, _, e1, _, hqo, _⟩ := id hQb
         cases e1
         obtain ⟨_, _, _, _, e1, _, huo, _⟩ := id hVb
         cases e1
         have hput := two_put wb w.heap.size u7 u10 o o _ _ (hN.below hab (Nat.le_refl _)) (hB.below hab (Nat.le_refl _)) htb hbs hok _ m.batch m.ops _ hqo
         go_wp2_with (first | ((with_reducible apply ugZ); rfl) | ((with_reducible (first | apply len_B | apply len_V | apply len_C | apply len_L | apply len_RL)); assumption) | ((with_reducible refine stop_ig kC ?_ ?_); rfl))
         refine hput.mono ?_
         clear hput
         rintro e0 wc1 ⟨ua, Za, rfl, hWa, hSa⟩
         have hnb1 : RBox wc1 bn m up uo uv uh := (hWa.2.2.1 bn ⟨hbnr, by omega⟩).trans hnb
         have huo1 := huo.keep (w' := wc1) (S' := fun k => wr.heap.size ≤ k ∧ k < w8.heap.size) fun k hk hlt => ⟨hWa.2.2.1 k ⟨hk.1, by omega⟩, hk⟩
         have hbs1 := (hab.trans hWa.2.2.2).size
         have hput := two_rput wc1 w.heap.size u7 u10 (o.map fun c => c.put m.batch m.ops) o _ _ hWa.1 hbs1 hok _ (fun k hk => hWa.2.1 k ⟨hk.1, by omega⟩) m.batch m.ops _ huo1
         clear huo1 huo hqo
         go_wp2_with (first | ((with_reducible apply ugZ); rfl) | ((with_reducible (first | apply len_B | apply len_V | apply len_C | apply len_L | apply len_RL)); assumption) | ((with_reducible refine stop_ig kC ?_ ?_); rfl))
         refine Stop.go (blk_load (cs := (noteV m up uo uv uh).cells) (.int .u64 (m.batch.toNat : Int)) oneU64 hnb1 rfl rfl ?_)
         go_wp2_with (first | ((with_reducible apply ugZ); rfl) | ((with_reducible (first | apply len_B | apply len_V | apply len_C | apply len_L | apply len_RL)); assumption) | ((with_reducible refine stop_ig kC ?_ ?_); rfl))
         refine Stop.go (blk_load (cs := (noteV m up uo uv uh).cells) uo oneO hnb1 rfl rfl ?_)
         go_wp2_with (first | ((with_reducible apply ugZ); rfl) | ((with_reducible (first | apply len_B | apply len_V | apply len_C | apply len_L | apply len_RL)); assumption) | ((with_reducible refine stop_ig kC ?_ ?_); rfl))
         refine hput.mono ?_
         clear hput
         rintro e0 wc2 ⟨ub, Zb, rfl, hWb2, hSb⟩
         have hW := hWa.trans hWb2 (Y2 := fun k => w8.heap.size ≤ k ∧ k < wb.heap.size) (fun k hk => ⟨hk, fun e => by omega⟩)
         have hSa2 := hSa.keep (S' := Zb) fun k hk hlt => ⟨hWb2.2.2.1 k hk, hWb2.2.1 k hk⟩
         go_wp2_with (fail)
         go_meet
         case rel => exact ⟨Zb, _, _, rfl, rfl, hSa2, hSb, putL_len o m.batch m.ops, by rw [e]; exact hW⟩
        ·have e : F = fun c => c.put m.batch m.ops := HF.out.trans (funext fun c => by rw [HST.out, if_pos (by decide)])
         clear HST HF HR
         go_wp2_with (first | ((with_reducible apply ugZ); rfl) | ((with_reducible (first | apply len_B | apply len_V | apply len_C | apply len_L | apply len_RL)); assumption) | ((with_reducible refine stop_ig kC ?_ ?_); rfl))
         refine Stop.go (blk_load (cs := (noteV m up uo uv uh).cells) (.int .u64 (m.batch.toNat : Int)) oneU64 hnb rfl rfl ?_)
         go_wp2_with (first | ((with_reducible apply ugZ); rfl) | ((with_reducible (first | apply len_B | apply len_V | apply len_C | apply len_L | apply len_RL)); assumption) | ((with_reducible refine stop_ig kC ?_ ?_); rfl))
         refine Stop.go (blk_load (cs := (noteV m qp qo qv qh).cells) qo oneO hmb rfl rfl ?_)
         obtain ⟨_, _, _, _, e1, _, hqo, _⟩ := id hQb
         cases e1
         obtain ⟨_, _, _, _, e1, _, huo, _⟩ := id hVb
         cases e1
         have hput := two_put wb w.heap.size u7 u10 o o _ _ (hN.below hab (Nat.le_refl _)) (hB.below hab (Nat.le_refl _)) htb hbs hok _ m.batch m.ops _ hqo
         go_wp2_with (first | ((with_reducible apply ugZ); rfl) | ((with_reducible (first | apply len_B | apply len_V | apply len_C | apply len_L | apply len_RL)); assumption) | ((with_reducible refine stop_ig kC ?_ ?_); rfl))
         refine hput.mono ?_
         clear hput
         rintro e0 wc1 ⟨ua, Za, rfl, hWa, hSa⟩
         have hnb1 : RBox wc1 bn m up uo uv uh := (hWa.2.2.1 bn ⟨hbnr, by omega⟩).trans hnb
         have huo1 := huo.keep (w' := wc1) (S' := fun k => wr.heap.size ≤ k ∧ k < w8.heap.size) fun k hk hlt => ⟨hWa.2.2.1 k ⟨hk.1, by omega⟩, hk⟩
         have hbs1 := (hab.trans hWa.2.2.2).size
         have hput := two_rput wc1 w.heap.size u7 u10 (o.map fun c => c.put m.batch m.ops) o _ _ hWa.1 hbs1 hok _ (fun k hk => hWa.2.1 k ⟨hk.1, by omega⟩) m.batch m.ops _ huo1
         clear huo1 huo hqo
         go_wp2_with (first | ((with_reducible apply ugZ); rfl) | ((with_reducible (first | apply len_B | apply len_V | apply len_C | apply len_L | apply len_RL)); assumption) | ((with_reducible refine stop_ig kC ?_ ?_); rfl))
         refine Stop.go (blk_load (cs := (noteV m up uo uv uh).cells) (.int .u64 (m.batch.toNat : Int)) oneU64 hnb1 rfl rfl ?_)
         go_wp2_with (first | ((with_reducible apply ugZ); rfl) | ((with_reducible (first | apply len_B | apply len_V | apply len_C | apply len_L | apply len_RL)); assumption) | ((with_reducible refine stop_ig kC ?_ ?_); rfl))
         refine Stop.go (blk_load (cs := (noteV m up uo uv uh).cells) uo oneO hnb1 rfl rfl ?_)
         go_wp2_with (first | ((with_reducible apply ugZ); rfl) | ((with_reducible (first | apply len_B | apply len_V | apply len_C | apply len_L | apply len_RL)); assumption) | ((with_reducible refine stop_ig kC ?_ ?_); rfl))
         refine hput.mono ?_
         clear hput
         rintro e0 wc2 ⟨ub, Zb, rfl, hWb2, hSb⟩
         have hW := hWa.trans hWb2 (Y2 := fun k => w8.heap.size ≤ k ∧ k < wb.heap.size) (fun k hk => ⟨hk, fun e => by omega⟩)
         have hSa2 := hSa.keep (S' := Zb) fun k hk hlt => ⟨hWb2.2.2.1 k hk, hWb2.2.1 k hk⟩
         go_wp2_with (fail)
         go_meet
         case rel => exact ⟨Zb, _, _, rfl, rfl, hSa2, hSb, putL_len o m.batch m.ops, by rw [e]; exact hW⟩
        ·have e : F = fun c => c.put m.batch m.ops := HF.out.trans (funext fun c => by rw [HST.out, if_pos (by decide)])
         clear HST HF HR
         go_wp2_with (first | ((with_reducible apply ugZ); rfl) | ((with_reducible (first | apply len_B | apply len_V | apply len_C | apply len_L | apply len_RL)); assumption) | ((with_reducible refine stop_ig kC ?_ ?_); rfl))
         refine Stop.go (blk_load (cs := (noteV m up uo uv uh).cells) (.int .u64 (m.batch.toNat : Int)) oneU64 hnb rfl rfl ?_)
         go_wp2_with (first | ((with_reducible apply ugZ); rfl) | ((with_reducible (first | apply len_B | apply len_V | apply len_C | apply len_L | apply len_RL)); assumption) | ((with_reducible refine stop_ig kC ?_ ?_); rfl))
         refine Stop.go (blk_load (cs := (noteV m qp qo qv qh).cells) qo oneO hmb rfl rfl ?_)
         obtain ⟨_, _, _, _, e1, _, hqo, _⟩ := id hQb
         cases e1
         obtain ⟨_, _, _, _, e1, _, huo, _⟩ := id hVb
         cases e1
         have hput := two_put wb w.heap.size u7 u10 o o _ _ (hN.below hab (Nat.le_refl _)) (hB.below hab (Nat.le_refl _)) htb hbs hok _ m.batch m.ops _ hqo
         go_wp2_with (first | ((with_reducible apply ugZ); rfl) | ((with_reducible (first | apply len_B | apply len_V | apply len_C | apply len_L | apply len_RL)); assumption) | ((with_reducible refine stop_ig kC ?_ ?_); rfl))
         refine hput.mono ?_
         clear hput
         rintro e0 wc1 ⟨ua, Za, rfl, hWa, hSa⟩
         have hnb1 : RBox wc1 bn m up uo uv uh := (hWa.2.2.1 bn ⟨hbnr, by omega⟩).trans hnb
         have huo1 := huo.keep (w' := wc1) (S' := fun k => wr.heap.size ≤ k ∧ k < w8.heap.size) fun k hk hlt => ⟨hWa.2.2.1 k ⟨hk.1, by omega⟩, hk⟩
         have hbs1 := (hab.trans hWa.2.2.2).size
         have hput := two_rput wc1 w.heap.size u7 u10 (o.map fun c => c.put m.batch m.ops) o _ _ hWa.1 hbs1 hok _ (fun k hk => hWa.2.1 k ⟨hk.1, by omega⟩) m.batch m.ops _ huo1
         clear huo1 huo hqo
         go_wp2_with (first | ((with_reducible apply ugZ); rfl) | ((with_reducible (first | apply len_B | apply len_V | apply len_C | apply len_L | apply len_RL)); assumption) | ((with_reducible refine stop_ig kC ?_ ?_); rfl))
         refine Stop.go (blk_load (cs := (noteV m up uo uv uh).cells) (.int .u64 (m.batch.toNat : Int)) oneU64 hnb1 rfl rfl ?_)
         go_wp2_with (first | ((with_reducible apply ugZ); rfl) | ((with_reducible (first | apply len_B | apply len_V | apply len_C | apply len_L | apply len_RL)); assumption) | ((with_reducible refine stop_ig kC ?_ ?_); rfl))
         refine Stop.go (blk_load (cs := (noteV m up uo uv uh).cells) uo oneO hnb1 rfl rfl ?_)
         go_wp2_with (first | ((with_reducible apply ugZ); rfl) | ((with_reducible (first | apply len_B | apply len_V | apply len_C | apply len_L | apply len_RL)); assumption) | ((with_reducible refine stop_ig kC ?_ ?_); rfl))
         refine hput.mono ?_
         clear hput
         rintro e0 wc2 ⟨ub, Zb, rfl, hWb2, hSb⟩
         have hW := hWa.trans hWb2 (Y2 := fun k => w8.heap.size ≤ k ∧ k < wb.heap.size) (fun k hk => ⟨hk, fun e => by omega⟩)
         have hSa2 := hSa.keep (S' := Zb) fun k hk hlt => ⟨hWb2.2.2.1 k hk, hWb2.2.1 k hk⟩
         go_wp2_with (fail)
         go_meet
         case rel => exact ⟨Zb, _, _, rfl, rfl, hSa2, hSb, putL_len o m.batch m.ops, by rw [e]; exact hW⟩
        ·have e : F = fun c => c.ask m := HF.out.trans (funext fun c => by rw [HST.out, if_neg (by decide), if_pos (by decide)])
         clear HST HF HR
         go_wp2_with (first | ((with_reducible apply ugZ); rfl) | ((with_reducible (first | apply len_B | apply len_V | apply len_C | apply len_L | apply len_RL)); assumption) | ((with_reducible refine stop_ig kC ?_ ?_); rfl))
         refine Stop.go (load_N hmb rfl ?_)
         have hput := two_ask wb w.heap.size u7 u10 o o _ _ (hN.below hab (Nat.le_refl _)) (hB.below hab (Nat.le_refl _)) htb hbs hok _ m _ hQb
         go_wp2_with (first | ((with_reducible apply ugZ); rfl) | ((with_reducible (first | apply len_B | apply len_V | apply len_C | apply len_L | apply len_RL)); assumption) | ((with_reducible refine stop_ig kC ?_ ?_); rfl))
         refine hput.mono ?_
         clear hput
         rintro e0 wc1 ⟨ua, Za, rfl, hWa, hSa⟩
         have hnb1 : RBox wc1 bn m up uo uv uh := (hWa.2.2.1 bn ⟨hbnr, by omega⟩).trans hnb
         have huo1 := hVb.keep (w' := wc1) (S' := fun k => wr.heap.size ≤ k ∧ k < w8.heap.size) fun k hk hlt => ⟨hWa.2.2.1 k ⟨hk.1, by omega⟩, hk⟩
         have hbs1 := (hab.trans hWa.2.2.2).size
         have hput := two_rask wc1 w.heap.size u7 u10 (o.map fun c => c.ask m) o _ _ hWa.1 hbs1 hok _ (fun k hk => hWa.2.1 k ⟨hk.1, by omega⟩) m _ huo1
         clear huo1
         go_wp2_with (first | ((with_reducible apply ugZ); rfl) | ((with_reducible (first | apply len_B | apply len_V | apply len_C | apply len_L | apply len_RL)); assumption) | ((with_reducible refine stop_ig kC ?_ ?_); rfl))
         refine Stop.go (load_R hnb1 rfl ?_)
         go_wp2_with (first | ((with_reducible apply ugZ); rfl) | ((with_reducible (first | apply len_B | apply len_V | apply len_C | apply len_L | apply len_RL)); assumption) | ((with_reducible refine stop_ig kC ?_ ?_); rfl))
         refine hput.mono ?_
         clear hput
         rintro e0 wc2 ⟨ub, Zb, rfl, hWb2, hSb⟩
         have hW := hWa.trans hWb2 (Y2 := fun k => w8.heap.size ≤ k ∧ k < wb.heap.size) (fun k hk => ⟨hk, fun e => by omega⟩)
         have hSa2 := hSa.keep (S' := Zb) fun k hk hlt => ⟨hWb2.2.2.1 k hk, hWb2.2.1 k hk⟩
         go_wp2_with (fail)
         go_meet
         case rel => exact ⟨Zb, _, _, rfl, rfl, hSa2, hSb, askL_len o m, by rw [e]; exact hW⟩
        ·have e : F = fun c => c.ask m := HF.out.trans (funext fun c => by rw [HST.out, if_neg (by decide), if_pos (by decide)])
         clear HST HF HR
         go_wp2_with (first | ((with_reducible apply ugZ); rfl) | ((with_reducible (first | apply len_B | apply len_V | apply len_C | apply len_L | apply len_RL)); assumption) | ((with_reducible refine stop_ig kC ?_ ?_); rfl))
         refine Stop.go (load_N hmb rfl ?_)
         have hput := two_ask wb w.heap.size u7 u10 o o _ _ (hN.below hab (Nat.le_refl _)) (hB.below hab (Nat.le_refl _)) htb hbs hok _ m _ hQb
         go_wp2_with (first | ((with_reducible apply ugZ); rfl) | ((with_reducible (first | apply len_B | apply len_V | apply len_C | apply len_L | apply len_RL)); assumption) | ((with_reducible refine stop_ig kC ?_ ?_); rfl))
         refine hput.mono ?_
         clear hput
         rintro e0 wc1 ⟨ua, Za, rfl, hWa, hSa⟩
         have hnb1 : RBox wc1 bn m up uo uv uh := (hWa.2.2.1 bn ⟨hbnr, by omega⟩).trans hnb
         have huo1 := hVb.keep (w' := wc1) (S' := fun k => wr.heap.size ≤ k ∧ k < w8.heap.size) fun k hk hlt => ⟨hWa.2.2.1 k ⟨hk.1, by omega⟩, hk⟩
         have hbs1 := (hab.trans hWa.2.2.2).size
         have hput := two_rask wc1 w.heap.size u7 u10 (o.map fun c => c.ask m) o _ _ hWa.1 hbs1 hok _ (fun k hk => hWa.2.1 k ⟨hk.1, by omega⟩) m _ huo1
         clear huo1
         go_wp2_with (first | ((with_reducible apply ugZ); rfl) | ((with_reducible (first | apply len_B | apply len_V | apply len_C | apply len_L | apply len_RL)); assumption) | ((with_reducible refine stop_ig kC ?_ ?_); rfl))
         refine Stop.go (load_R hnb1 rfl ?_)
         go_wp2_with (first | ((with_reducible apply ugZ); rfl) | ((with_reducible (first | apply len_B | apply len_V | apply len_C | apply len_L | apply len_RL)); assumption) | ((with_reducible refine stop_ig kC ?_ ?_); rfl))
         refine hput.mono ?_
         clear hput
         rintro e0 wc2 ⟨ub, Zb, rfl, hWb2, hSb⟩
         have hW := hWa.trans hWb2 (Y2 := fun k => w8.heap.size ≤ k ∧ k < wb.heap.size) (fun k hk => ⟨hk, fun e => by omega⟩)
         have hSa2 := hSa.keep (S' := Zb) fun k hk hlt => ⟨hWb2.2.2.1 k hk, hWb2.2.1 k hk⟩
         go_wp2_with (fail)
         go_meet
         case rel => exact ⟨Zb, _, _, rfl, rfl, hSa2, hSb, askL_len o m, by rw [e]; exact hW⟩
        ·have e : F = fun c => c := HF.out.trans (funext fun c => by rw [HST.out, if_neg (by decide), if_neg (by decide), if_pos rfl])
         have em : o.map F = o := by rw [e]; exact Option.map_id'
         clear HST HF HR
         have hput := two_wake wb w.heap.size u7 u10 o o _ _ htb hbs hok
         go_wp2_with (first | ((with_reducible apply ugZ); rfl) | ((with_reducible (first | apply len_B | apply len_V | apply len_C | apply len_L | apply len_RL)); assumption) | ((with_reducible refine stop_ig kC ?_ ?_); rfl))
         refine hput.mono ?_
         clear hput
         rintro e0 wc1 ⟨ua, Za, rfl, hWa, hSa⟩
         have hbs1 := (hab.trans hWa.2.2.2).size
         have hput := two_rwake wc1 w.heap.size u7 u10 o o _ _ hWa.1 hbs1 hok
         go_wp2_with (first | ((with_reducible apply ugZ); rfl) | ((with_reducible (first | apply len_B | apply len_V | apply len_C | apply len_L | apply len_RL)); assumption) | ((with_reducible refine stop_ig kC ?_ ?_); rfl))
         refine hput.mono ?_
         clear hput
         rintro e0 wc2 ⟨ub, Zb, rfl, hWb2, hSb⟩
         have hW := hWa.trans hWb2 (Y2 := fun k => w8.heap.size ≤ k ∧ k < wb.heap.size) (fun k hk => hk)
         have hSa2 := hSa.keep (S' := Zb) fun k hk hlt => ⟨hWb2.2.2.1 k hk, hWb2.2.1 k hk⟩
         go_wp2_with (fail)
         go_meet
         case rel => exact ⟨Zb, _, 0, rfl, rfl, hSa2, hSb, wakeL_len o hok, by rw [em]; exact hW⟩
        ·have e : F = fun c => c.hearN y.src m := HF.out.trans (funext fun c => by rw [HST.out, if_neg (by omega), if_neg (by omega), if_neg (by omega)])
         clear HST HF HR
         have f0 : ((r : Int) == 0) = false := beq_eq_false_iff_ne.2 (by omega)
         have f1 : ((r : Int) == 1) = false := beq_eq_false_iff_ne.2 (by omega)
         have f2 : ((r : Int) == 2) = false := beq_eq_false_iff_ne.2 (by omega)
         have f3 : ((r : Int) == 3) = false := beq_eq_false_iff_ne.2 (by omega)
         have f4 : ((r : Int) == 4) = false := beq_eq_false_iff_ne.2 (by omega)
         have f10 : ((r : Int) == 10) = false := beq_eq_false_iff_ne.2 (by omega)
         go_wp2_with (first | ((with_reducible apply ugZ); rfl) | ((with_reducible (first | apply len_B | apply len_V | apply len_C | apply len_L | apply len_RL)); assumption) | ((with_reducible refine stop_ig kC ?_ ?_); rfl))
         refine Stop.go (load_R hnb rfl ?_)
         go_wp2_with (first | ((with_reducible apply ugZ); rfl) | ((with_reducible (first | apply len_B | apply len_V | apply len_C | apply len_L | apply len_RL)); assumption) | ((with_reducible refine stop_ig kC ?_ ?_); rfl))
         refine (body_any wb (hN.below hab (Nat.le_refl _)) (hB.below hab (Nat.le_refl _)) _ m _ hVb).mono ?_
         rintro e0 wc1 ⟨pv, rfl, hpv, hb1⟩
         have hob1 := hob.below hb1 (by omega)
         have ht1 := htb.below hb1
         have ha1 := below_on hab hb1 hbs
         have hW1 : Went wb wc1 w.heap.size u7 u10 o o (fun k => wr.heap.size ≤ k ∧ k < wb.heap.size) (fun k => wr.heap.size ≤ k ∧ k < wb.heap.size) (fun k => w8.heap.size ≤ k ∧ k < wb.heap.size) := ⟨ht1, fun _ h => h, fun k hk => hb1.block k hk.2, (Only.of_below hb1).below hbs fun k hk => by omega⟩
         have hput := two_hear wc1 w.heap.size u7 u10 o o _ _ (hN.below ha1 (Nat.le_refl _)) (hB.below ha1 (Nat.le_refl _)) ht1 ha1.size hok _ y.src m pv hpv.sl'
         clear hpv hb1
         go_wp2_with (first | ((with_reducible apply ugZ); rfl) | ((with_reducible (first | apply len_B | apply len_V | apply len_C | apply len_L | apply len_RL)); assumption) | ((with_reducible refine stop_ig kC ?_ ?_); rfl))
         refine Stop.go (blk_load (.int .i64 y.src) oneInt hob1 rfl rfl ?_)
         go_wp2_with (first | ((with_reducible apply ugZ); rfl) | ((with_reducible (first | apply len_B | apply len_V | apply len_C | apply len_L | apply len_RL)); assumption) | ((with_reducible refine stop_ig kC ?_ ?_); rfl))
         refine hput.mono ?_
         clear hput
         rintro e0 wc2 ⟨Zc, rfl, hWc⟩
         have hWc' := hW1.trans hWc (Y2 := fun k => w8.heap.size ≤ k ∧ k < wb.heap.size) (fun k hk => hk)
         go_upto_region 23 with (fail)
         have hd := (Below.refl wc2.heap.size wc2).drew
         have hWd : Went wb wc2.drew w.heap.size u7 u10 (o.map fun c => c.hearN y.src m) o (fun k => wr.heap.size ≤ k ∧ k < wb.heap.size) Zc (fun k => w8.heap.size ≤ k ∧ k < wb.heap.size) := ⟨hWc'.1.below hd, hWc'.2.1, fun k hk => hWc'.2.2.1 k hk, hWc'.2.2.2.drew⟩
         have hod : Blk wc2.drew bo 73 (opCells y vp vo vv vh) := (hWd.2.2.1 bo ⟨hbor, by omega⟩).trans hob
         have hxd : RBox wc2.drew bn m up uo uv uh := (hWd.2.2.1 bn ⟨hbnr, by omega⟩).trans hnb
         have hVd := hVb.keep (w' := wc2.drew) (S' := fun k => wr.heap.size ≤ k ∧ k < w8.heap.size) fun k hk hlt => ⟨hWd.2.2.1 k ⟨hk.1, by omega⟩, hk⟩
         have had := hab.trans hWd.2.2.2
         clear hd hWc hWc' hW1 hob1 ht1 ha1 f0 f1 f2 f3 f4 f10
         refine wp_region_D (fun _ => True) 5 (fun wq => Blk wq bo 73 (opCells y vp vo vv vh) ∧ RBox wq bn m up uo uv uh) 6 rfl (by kernel_rfl) ?_
         generalize wc2.drew = wd at *
         refine tkZ 0 84 (u10) rfl rfl (.inl ⟨by rfl, fun _ _ => by kernel_rfl⟩) (trivial) (.inr ⟨hod, hxd⟩) ?_
         simp only [Act.put, zqA, zqB, zqC]
         refine tkZ 1 85 (.pointer (some ⟨bo, 1, none⟩)) rfl rfl (.inl ⟨by rfl, fun _ _ => by go_simp⟩) (trivial) (.inr ⟨hod, hxd⟩) ?_
         simp only [Act.put, zqA, zqB, zqC]
         refine wpAnyD_take2 (i := 2) (dst := some 86) (v := .int .i64 y.src) rfl rfl (by decide) (by kernel_rfl) (by kernel_rfl) (by kernel_rfl) rfl (by kernel_rfl) (by kernel_rfl) (fun _ _ _ h => h) (blk_yields oneInt (by rfl) rfl rfl fun _ h => h.2.1) (trivial) (⟨hod, hxd⟩) ?_
         simp only [Act.put, zqA, zqB, zqC]
         refine wpAnyD_take2 (i := 3) (dst := some 87) (v := noteV m up uo uv uh) rfl rfl (by decide) (by kernel_rfl) (by kernel_rfl) (by kernel_rfl) rfl (by kernel_rfl) (by kernel_rfl) (fun _ _ _ h => h) (yields_R (by rfl) rfl fun _ h => h.2.2) (trivial) (⟨hod, hxd⟩) ?_
         simp only [Act.put, zqA, zqB, zqC]
         refine wpAnyD_step (i := 4) (by kernel_rfl) rfl fun K hK => ?_
         refine step_call (vs := #[noteV m up uo uv uh]) (by rfl) (by go_simp) (by kernel_rfl) (body_any wd (hN.below had (Nat.le_refl _)) (hB.below had (Nat.le_refl _)) _ m _ hVd) ?_
         rintro e0 w9 ⟨pv2, rfl, hpv2, hb9⟩
         have hod := hod.below hb9 hod.lt
         have hxd := hxd.below hb9 (Blk.lt hxd)
         have htd := hWd.1.below hb9
         have had9 := below_on had hb9 had.size
         have hz9 : Kept Zc wd w9 := fun k hk => hb9.block k (hWd.1.zlt k hk)
         have hB9 := (Only.of_below hb9).below had.size fun k hk => by have := had.size; omega
         clear hVd hb9
         refine ⟨_, rfl, hK _ _ trivial ⟨hod, hxd⟩ ?_⟩
         clear hK K
         simp only [Act.put, zqA, zqB, zqC]
         refine wpAnyD_stepd (i := 5) (by kernel_rfl) rfl (by kernel_rfl) fun K hK => ?_
         refine step_call (vs := #[u10, .int .i64 y.src, pv2]) (by rfl) (by go_simp) (by kernel_rfl) (two_rhear w9 w.heap.size u7 u10 _ o _ _ htd had9.size hok _ y.src m pv2 hpv2.sl') ?_
         rintro e0 wx ⟨Ze, rfl, hWe⟩
         have hW9 : Went wd w9 w.heap.size u7 u10 (o.map fun c => c.hearN y.src m) o Zc Zc (fun k => w8.heap.size ≤ k ∧ k < wb.heap.size) := ⟨htd, fun _ h => h, hz9, hB9⟩
         have hW := (hWd.trans hW9 (fun k hk => hk)).trans hWe (Y2 := fun k => w8.heap.size ≤ k ∧ k < wb.heap.size) (fun k hk => hk)
         refine ⟨_, rfl, hK _ _ trivial ?_⟩
         clear hK K
         simp only [Act.put, zqA, zqB, zqC]
         refine wpAnyD_done (by kernel_rfl) ?_
         go_wp2_with (fail)
         go_meet
         case rel => exact ⟨Ze, [], 0, rfl, rfl, Sl.nil _ _, Sl.nil _ _, Nat.zero_le _, by rw [e]; exact hW⟩
       case rest =>
        obtain ⟨Zf, L, code, rfl, rfl, hSa, hSb, hLl, hW⟩ := hcut
        have hok' : ∀ c, o.map F = some c → c.Ok := fun c e => by
         obtain ⟨c0, h0, rfl⟩ := Option.map_eq_some_iff.1 e
         rw [HF.out]
         exact (hok c0 h0).stepP y
        generalize o.map F = o' at *
        have hqY := fun k hk => hWb.ge k hk
        have hmbc : Box wc bm m qp qo qv qh := (hW.2.2.1 bm ⟨hbmr, hbml⟩).trans hmb
        have hnbc : RBox wc bn m up uo uv uh := (hW.2.2.1 bn ⟨hbnr, by omega⟩).trans hnb
        have hQc := hQb.keep (w' := wc) (S' := fun _ => True) fun k hk hlt => ⟨hW.2.2.1 k hk, trivial⟩
        have hVc := hVb.keep (w' := wc) (S' := fun _ => True) fun k hk hlt => ⟨hW.2.2.1 k ⟨hk.1, by omega⟩, trivial⟩
        have hWc := Own.keep (w' := wc) (S' := fun _ => False) hWb (fun _ h => h.elim) fun k hk => hW.2.2.1 k ⟨by have := (hqY k hk).1; omega, (hqY k hk).2⟩
        have htc := hW.1
        have hac := hab.trans hW.2.2.2
        have hsc := hac.size
        clear hmb hnb hQb hVb hWb htb hW hab hbrb hob HST HF HR hok hbs
        go_wp2_with (first | ((with_reducible apply ugZ); rfl) | ((with_reducible (first | apply len_B | apply len_V | apply len_C | apply len_L | apply len_RL)); assumption) | ((with_reducible refine stop_ig kC ?_ ?_); rfl))
        refine (back_any wc Zf L _ hSa (by omega)).mono ?_
        rintro e0 wd ⟨ub, rfl, hub, hbd⟩
        have hSbd := hSb.below hbd (Nat.le_refl _)
        clear hSa hSb
        go_wp2_with (first | ((with_reducible apply ugZ); rfl) | ((with_reducible (first | apply len_B | apply len_V | apply len_C | apply len_L | apply len_RL)); assumption) | ((with_reducible refine stop_ig kC ?_ ?_); rfl))
        refine (rlsame_any wd _ _ L _ _ hub hSbd).mono ?_
        rintro e0 we ⟨rfl, hbe⟩
        have hce := below_on hbd hbe hbd.size
        have hmbe := hmbc.below hce (Blk.lt hmbc)
        have hnbe := hnbc.below hce (Blk.lt hnbc)
        have hQe := hQc.below hce (Nat.le_refl _)
        have hVe := hVc.below hce (Nat.le_refl _)
        have hWe := Own.below hWc hce (Nat.le_refl _)
        have hte := htc.below hce
        have hae := below_on hac hce hsc
        clear hub hSbd hbd hbe hmbc hnbc hQc hVc hWc htc hac hce
        go_wp2_with (first | ((with_reducible apply ugZ); rfl) | ((with_reducible (first | apply len_B | apply len_V | apply len_C | apply len_L | apply len_RL)); assumption) | ((with_reducible refine stop_ig kC ?_ ?_); rfl))
        refine Stop.go (load_N hmbe rfl ?_)
        go_wp2_with (first | ((with_reducible apply ugZ); rfl) | ((with_reducible (first | apply len_B | apply len_V | apply len_C | apply len_L | apply len_RL)); assumption) | ((with_reducible refine stop_ig kC ?_ ?_); rfl))
        refine Stop.go (load_R hnbe rfl ?_)
        go_wp2_with (first | ((with_reducible apply ugZ); rfl) | ((with_reducible (first | apply len_B | apply len_V | apply len_C | apply len_L | apply len_RL)); assumption) | ((with_reducible refine stop_ig kC ?_ ?_); rfl))
        refine (rsame_any we _ _ m m _ _ hQe hVe).mono ?_
        rw [show (m == m) = true by simp]
        rintro e0 wf ⟨rfl, hbf⟩
        have hmbf := hmbe.below hbf (Blk.lt hmbe)
        have hWf := Own.below hWe hbf (Nat.le_refl _)
        have htf := hte.below hbf
        have haf := below_on hae hbf hae.size
        clear hmbe hnbe hQe hVe hWe hte hae hbf
        go_wp2_with (first | ((with_reducible apply ugZ); rfl) | ((with_reducible (first | apply len_B | apply len_V | apply len_C | apply len_L | apply len_RL)); assumption) | ((with_reducible refine stop_ig kC ?_ ?_); rfl))
        refine (two_same wf w.heap.size u7 u10 Zf _ o' htf hok').mono ?_
        rintro e0 wg ⟨rfl, hbg⟩
        have hmbg := hmbf.below hbg (Blk.lt hmbf)
        have hWg := Own.below hWf hbg (Nat.le_refl _)
        have htg := htf.below hbg
        have hag := below_on haf hbg haf.size
        clear hmbf hWf htf haf hbg
        go_wp2_with (first | ((with_reducible apply ugZ); rfl) | ((with_reducible (first | apply len_B | apply len_V | apply len_C | apply len_L | apply len_RL)); assumption) | ((with_reducible refine stop_ig kC ?_ ?_); rfl))
        refine Stop.go (blk_load (cs := (noteV m qp qo qv qh).cells) qv oneV hmbg rfl rfl ?_)
        have hqs : Sl wg (fun _ => True) m.vec qv := hWg.sl (fun _ _ _ => trivial) fun _ _ => trivial
        have hvl : m.vec.length ≤ 9223372036854775807 := hqs.length_le
        go_wp2_with (first | ((with_reducible apply ugZ); rfl) | ((with_reducible (first | apply len_B | apply len_V | apply len_C | apply len_L | apply len_RL)); assumption) | ((with_reducible refine stop_ig kC ?_ ?_); rfl))
        clear hqs
        go_loopg [20, 158] (m.vec.length + 1) (fun k x20 i wq => ∃ (i2 : Nat) (rs : List RawI), k = m.vec.length - i2 + 1 ∧ i2 ≤ m.vec.length ∧ i = .int .i64 i2 ∧ rs.length = m.vec.length ∧ Own wq w8.heap.size 21 (fun _ => False) rs qv ∧ Two wq w.heap.size u7 u10 o' o' Zf (fun k => w8.heap.size ≤ k ∧ k < wb.heap.size) ∧ Box wq bm m qp qo qv qh ∧ Below w.heap.size w wq)
        case atStart => exact ⟨0, _, by omega, by omega, rfl, List.length_map .., Own.raw hWg, htg, hmbg, hag⟩
        case round =>
         clear hWg htg hmbg hag
         obtain ⟨i2, rs, hk2, hi2, rfl, hrs, hO, htq, hbq, haq⟩ := hrel
         have Hk2 := Lib.hid hk2
         clear hk2
         by_cases hlt2 : i2 < m.vec.length
         ·obtain ⟨x, hx⟩ : ∃ x, rs[i2]? = some x := ⟨_, List.getElem?_eq_getElem (by omega)⟩
          obtain ⟨gB, o1, cur, cc, hgB, hbk, hrd, hos, hin, hrun, hset⟩ := Own.elem hO rowV i2 x hx
          obtain rfl : cc = [.int .i32 x.val] := hrd
          have hos : o1 + 1 ≤ cur.size := hos
          have hcell : cur[o1]? = some (.int .i32 x.val) := by have := hin 0 (by decide); simpa using this
          have hgY := hqY gB hgB
          have hbg : ¬ bm = gB := fun e => own_ne hO hbq (by decide) (e ▸ hgB)
          have HSET := Lib.hid hset
          have HX := Lib.hid hx
          clear hset hin hx
          go_wp2_with (first | ((with_reducible apply ugZ); rfl) | ((with_reducible (first | apply len_B | apply len_V | apply len_C | apply len_L | apply len_RL)); assumption) | ((with_reducible refine stop_ig kC ?_ ?_); rfl))
          refine Stop.go (blk_load (cs := (noteV m qp qo qv qh).cells) qv oneV hbq rfl rfl ?_)
          go_wp2_with (first | ((with_reducible apply ugZ); rfl) | ((with_reducible (first | apply len_B | apply len_V | apply len_C | apply len_L | apply len_RL)); assumption) | ((with_reducible refine stop_ig kC ?_ ?_); rfl))
          refine Stop.go (wpList_idx (p := .pointer (some ⟨gB, o1, none⟩)) rfl rfl (hrun .i64 _) ?_)
          go_wp2_with (first | ((with_reducible apply ugZ); rfl) | ((with_reducible (first | apply len_B | apply len_V | apply len_C | apply len_L | apply len_RL)); assumption) | ((with_reducible refine stop_ig kC ?_ ?_); rfl))
          refine Stop.go (blk_load (.int .i32 x.val) oneI32 hbk rfl hcell ?_)
          go_wp2_with (first | ((with_reducible apply ugZ); rfl) | ((with_reducible (first | apply len_B | apply len_V | apply len_C | apply len_L | apply len_RL)); assumption) | ((with_reducible refine stop_ig kC ?_ ?_); rfl))
          refine Stop.go (wpList_idx (p := .pointer (some ⟨gB, o1, none⟩)) rfl rfl (hrun .i64 _) ?_)
          go_wp2_with (first | ((with_reducible apply ugZ); rfl) | ((with_reducible (first | apply len_B | apply len_V | apply len_C | apply len_L | apply len_RL)); assumption) | ((with_reducible refine stop_ig kC ?_ ?_); rfl))
          refine Stop.go (blk_store _ oneI32 hbk rfl rfl rfl rfl (by omega) fun ws hbk2 hos2 hz2 => ?_)
          have hbk3 : ∃ z, Blk ws gB 21 (cur.setIfInBounds o1 (.int .i32 z)) := ⟨_, hbk2⟩
          clear hbk2
          obtain ⟨z, hbk2⟩ := hbk3
          have hO2 := HSET.out ws (fun _ => False) ⟨z⟩ _ [.int .i32 z] (fun _ h _ => h.elim) hbk2 (by simp) (fun k hk => by
           have hk : k < o1 ∨ o1 + 1 ≤ k := hk
           rw [Array.getElem?_setIfInBounds, if_neg (by omega)]) (fun j hj => by
           have hj : j < 1 := hj
           obtain rfl : j = 0 := by omega
           rw [Array.getElem?_setIfInBounds, Nat.add_zero, if_pos rfl, if_pos (by omega)]
           rfl) rfl
          have htq2 := htq.write (hos2.mono fun k _ e => by subst e; exact hgY)
          have hbq2 := hbq.only hos2 hbg
          have haq2 := haq.trans (hos2.below haq.size fun k e => by subst e; omega)
          clear hO htq hbq haq hos2 hbk2
          go_wp2_with (fail)
          go_roundg (m.vec.length - (i2 + 1) + 1)
          case measure => have := Hk2.out; omega
          case rel => exact ⟨i2 + 1, _, by omega, by omega, by go_num, by rw [List.length_set]; exact hrs, hO2, htq2, hbq2, haq2⟩
         ·go_wp2_with (fail)
          go_roundg (l.length - (j + 1) + 1)
          case measure => have := Hk.out; omega
          case rel => exact ⟨j + 1, o', by omega, by omega, by omega, by go_num, hok', htq.mono (fun _ h => h.elim) (fun _ h => h.elim) fun _ h => h, haq⟩
      ·go_wp2_with (fail)
       go_ret
       exact ⟨rfl, har⟩
end Go.Proofs.YtjkffjngamagkaaDoor
