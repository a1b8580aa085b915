/- armillarylaw19: same, of two callers that know alike; of two nil ones. -/
import Derived.Test.YtjkffjngamagkaaDoorRefWake
import Derived.Test.YtjkffjngamagkaaDoorCalNil
import Derived.Test.YtjkffjngamagkaaDoorBack
namespace Go.Proofs.YtjkffjngamagkaaDoor
open Go Go.RowKit Go.Arm
def zeroBat : Array Value := #[.int .u64 0, .bool false, .int .i64 0, .int .u64 0]
def zeroQst : Array Value := #[.int .u64 0, .bool false, .int .i64 0, .int .u64 0, .slice none 0 0]
theorem qst_one (n s c : Int) (o : Bool) {v : Value} (h : SlV v) : (#[.int .u64 n, .bool o, .int .i64 c, .int .u64 s, v] : Array Value).all (·.oneCell') = true := by
 obtain ⟨_, _, _, rfl⟩ := h
 simp [Value.oneCell']
set_option maxHeartbeats 4000000 in
set_option maxRecDepth 100000 in
theorem csame_nil (w : World) : Calls Tryd.prog 40 #[.pointer none, .pointer none] w fun e w' => e = .returned (.bool true) ∧ Below w.heap.size w w' := by
 go_enter Tryd.func40, Tryd.ntmps40
 go_wp2_with (first | ((with_reducible apply ugZ); rfl) | ((with_reducible (first | apply len_B | apply len_W | apply len_RL | apply len_L | apply len_Bat | apply len_Qst | apply len_H)); assumption) | ((with_reducible refine stop_ig kC ?_ ?_); rfl))
 refine (batches_nil _).mono ?_
 rintro e w1 ⟨rfl, rfl⟩
 go_wp2_with (first | ((with_reducible apply ugZ); rfl) | ((with_reducible (first | apply len_B | apply len_W | apply len_RL | apply len_L | apply len_Bat | apply len_Qst | apply len_H)); assumption) | ((with_reducible refine stop_ig kC ?_ ?_); rfl))
 refine (questions_nil _).mono ?_
 rintro e w1 ⟨rfl, rfl⟩
 have h1 := Sl.nil (α := BatR) w1 (fun _ => False)
 have h2 := Sl.nil (α := QstR) w1 (fun _ => False)
 go_wp2_with (first | ((with_reducible apply ugZ); rfl) | ((with_reducible (first | apply len_B | apply len_W | apply len_RL | apply len_L | apply len_Bat | apply len_Qst | apply len_H)); assumption) | ((with_reducible refine stop_ig kC ?_ ?_); rfl))
 refine (idle_nil _).mono ?_
 rintro e w2 ⟨rfl, rfl⟩
 go_wp2_with (fail)
 go_ret
 exact ⟨rfl, Below.refl _ _⟩
set_option maxHeartbeats 16000000 in
set_option maxRecDepth 100000 in
theorem csame_any (w : World) (base : Nat) (M S M' S' : Nat → Prop) (g gx : Nat) (c : CallR) (hC : CalP w base M S g c) (hF : Fr w base M S) (hR : RefP w base M' S' gx c) (hG : Fr w base M' S') (hOk : c.Ok) :
  Calls Tryd.prog 40 #[.pointer (some ⟨g, 0, none⟩), .pointer (some ⟨gx, 0, none⟩)] w fun e w' => e = .returned (.bool true) ∧ Below w.heap.size w w' := by
 obtain ⟨lb, hlb⟩ : ∃ lb, lb = c.B.map WantR.bat := ⟨_, rfl⟩
 obtain ⟨lq, hlq⟩ : ∃ lq, lq = c.Q.map WantR.qst := ⟨_, rfl⟩
 have hbat := batches_any w base M S g c hC hF hOk
 have hqst := fun w1 (h1 : Below w.heap.size w w1) => questions_any w1 base M S g c (hC.below hF h1 (Nat.le_refl _)) (hF.below h1) hOk
 have hidl := fun w1 (h1 : Below w.heap.size w w1) => idle_any w1 base M S g c (hC.below hF h1 (Nat.le_refl _)) (hF.below h1) hOk
 have hwak := fun w1 (h1 : Below w.heap.size w w1) => rwake_any w1 base M' S' gx c (hR.below hG h1 (Nat.le_refl _)) (hG.below h1) hOk
 have hbl : lb.length = c.B.length := by rw [hlb, List.length_map]
 have hql : lq.length = c.Q.length := by rw [hlq, List.length_map]
 have hB6 := hOk.hB
 have hQ6 := hOk.hQ
 have HLB := Lib.hid hlb
 have HLQ := Lib.hid hlq
 rw [← hlb] at hbat
 rw [← hlq] at hqst
 have HI := Lib.hid hidl
 have HWK := Lib.hid hwak
 have HQS := Lib.hid hqst
 have hRs := hR
 obtain ⟨vb, vq, hg, hgb, hMg, hB, hBM, hQ, hQM⟩ := hRs
 have hBs : Sl w (fun k => k < w.heap.size) c.B vb := (hB.sl (S' := fun _ => True) (fun _ _ _ => trivial) fun _ _ => trivial).old
 have hQs : Sl w (fun k => k < w.heap.size) c.Q vq := (hQ.sl (S' := fun _ => True) (fun _ _ _ => trivial) fun _ _ => trivial).old
 clear hgb hMg hB hBM hQ hQM hlb hlq hidl hwak hqst hR hG hC hF hOk
 go_enter Tryd.func40, Tryd.ntmps40
 go_wp2_with (first | ((with_reducible apply ugZ); rfl) | ((with_reducible (first | apply len_B | apply len_W | apply len_RL | apply len_L | apply len_Bat | apply len_Qst | apply len_H)); assumption) | ((with_reducible refine stop_ig kC ?_ ?_); rfl))
 refine hbat.mono ?_
 clear hbat
 rintro e w1 ⟨v5, rfl, h5, hb1⟩
 go_wp2_with (first | ((with_reducible apply ugZ); rfl) | ((with_reducible (first | apply len_B | apply len_W | apply len_RL | apply len_L | apply len_Bat | apply len_Qst | apply len_H)); assumption) | ((with_reducible refine stop_ig kC ?_ ?_); rfl))
 refine (HQS.out _ hb1).mono ?_
 rintro e w2 ⟨v6, rfl, h6, hb2⟩
 have hbw2 := below_on hb1 hb2 hb1.size
 have h5 := h5.below hb2 (Nat.le_refl _)
 have h5o := h5.old
 have h6o := h6.old
 clear h5 h6 hb1 hb2 HQS
 obtain ⟨ba, bn, bc, rfl⟩ := Sl.shape h5o
 obtain ⟨qa, qn, qc, rfl⟩ := Sl.shape h6o
 have e5 := (sl_lenW h5o).trans hbl
 have e6 := (sl_lenW h6o).trans hql
 subst e5
 subst e6
 have hg2 := hg.below hbw2 hg.lt
 have hBs2 := hBs.below hbw2 (Nat.le_refl _)
 have hQs2 := hQs.below hbw2 (Nat.le_refl _)
 obtain ⟨xa, xn, xc, rfl⟩ := Sl.shape hBs2
 obtain ⟨ya, yn, yc, rfl⟩ := Sl.shape hQs2
 have e5 := sl_lenW hBs2
 have e6 := sl_lenW hQs2
 subst e5
 subst e6
 have s2 := hbw2.size
 clear hg hBs hQs
 go_upto_region 4 with (fail)
 have hnq1 : ((lb.length : Int) != (c.B.length : Int)) = false := by rw [hbl]; simp
 have hnq2 : ((lq.length : Int) != (c.Q.length : Int)) = false := by rw [hql]; simp
 go_wp2_with (first | ((with_reducible apply ugZ); rfl) | ((with_reducible (first | apply len_B | apply len_W | apply len_RL | apply len_L | apply len_Bat | apply len_Qst | apply len_H)); assumption) | ((with_reducible refine stop_ig kC ?_ ?_); rfl))
 refine Stop.go (blk_load (cs := #[.int .i64 c.self, .slice xa c.B.length xc, .slice ya c.Q.length yc]) (.slice xa c.B.length xc) oneWs hg2 rfl rfl ?_)
 go_wp2_with (first | ((with_reducible apply ugZ); rfl) | ((with_reducible (first | apply len_B | apply len_W | apply len_RL | apply len_L | apply len_Bat | apply len_Qst | apply len_H)); assumption) | ((with_reducible refine stop_ig kC ?_ ?_); rfl))
 refine Stop.go (blk_load (cs := #[.int .i64 c.self, .slice xa c.B.length xc, .slice ya c.Q.length yc]) (.slice ya c.Q.length yc) oneWs hg2 rfl rfl ?_)
 go_wp2_with (first | ((with_reducible apply ugZ); rfl) | ((with_reducible (first | apply len_B | apply len_W | apply len_RL | apply len_L | apply len_Bat | apply len_Qst | apply len_H)); assumption) | ((with_reducible refine stop_ig kC ?_ ?_); rfl))
 refine (HI.out _ hbw2).mono ?_
 rintro e w3 ⟨rfl, hb3⟩
 have hbw3 := below_on hbw2 hb3 s2
 have s3 := hb3.size
 go_wp2_with (first | ((with_reducible apply ugZ); rfl) | ((with_reducible (first | apply len_B | apply len_W | apply len_RL | apply len_L | apply len_Bat | apply len_Qst | apply len_H)); assumption) | ((with_reducible refine stop_ig kC ?_ ?_); rfl))
 refine (HWK.out _ hbw3).mono ?_
 rintro e w4 ⟨v7, rfl, h7, hb4⟩
 have hbw4 := below_on hbw3 hb4 hbw3.size
 have hb24 := below_on hb3 hb4 s3
 have hg4 := hg2.below hb24 hg2.lt
 have hBs4 := hBs2.below hb24 (Nat.le_refl _)
 have hQs4 := hQs2.below hb24 (Nat.le_refl _)
 have h54 := h5o.below hb24 (Nat.le_refl _)
 have h64 := h6o.below hb24 (Nat.le_refl _)
 have h7o := h7.old
 obtain ⟨b0, hb0⟩ : ∃ b0, b0 = (c.wake.length == 0) := ⟨_, rfl⟩
 have hb0i : ((c.wake.length : Int) == 0) = b0 := by
  rw [hb0]
  rcases Nat.eq_zero_or_pos c.wake.length with h | h
  ·simp [h]
  ·have h1 : ¬ c.wake.length = 0 := by omega
   have h2 : ¬ (c.wake.length : Int) = 0 := by omega
   rw [beq_eq_false_iff_ne.2 h1, beq_eq_false_iff_ne.2 h2]
 rw [← hb0]
 clear hb0 h7 hbw2 hbw3 hb3 hb4 hb24 hg2 hBs2 hQs2 h5o h6o HI HWK
 go_wp2_with (first | ((with_reducible apply ugZ); rfl) | ((with_reducible (first | apply len_B | apply len_W | apply len_RL | apply len_L | apply len_Bat | apply len_Qst | apply len_H)); assumption) | ((with_reducible refine stop_ig kC ?_ ?_); rfl))
 refine Stop.go (blk_load (cs := #[.int .i64 c.self, .slice xa c.B.length xc, .slice ya c.Q.length yc]) (.slice xa c.B.length xc) oneWs hg4 rfl rfl ?_)
 clear h7o hb0i
 go_wp2_with (first | ((with_reducible apply ugZ); rfl) | ((with_reducible (first | apply len_B | apply len_W | apply len_RL | apply len_L | apply len_Bat | apply len_Qst | apply len_H)); assumption) | ((with_reducible refine stop_ig kC ?_ ?_); rfl))
 go_loopg [7, 8, 9, 62] (c.B.length + 1) (fun k x7 x8 x9 i wr => ∃ (j : Nat), k = c.B.length - j + 1 ∧ j ≤ c.B.length ∧ i = .int .i64 j ∧ Below w4.heap.size w4 wr)
 case atStart => exact ⟨0, by omega, by omega, rfl, Below.refl _ _⟩
 case round =>
  obtain ⟨j, hk, hj, rfl, hbr⟩ := hrel
  have Hk := Lib.hid hk
  clear hk
  have hpr := hBs4.below hbr (Nat.le_refl _)
  have hqr := h54.below hbr (Nat.le_refl _)
  have swr := hbr.size
  by_cases hlt : j < c.B.length
  ·go_wp2_with (first | ((with_reducible apply ugZ); rfl) | ((with_reducible (first | apply len_B | apply len_W | apply len_RL | apply len_L | apply len_Bat | apply len_Qst | apply len_H)); assumption) | ((with_reducible refine stop_ig kC ?_ ?_); rfl))
   refine Stop.go (idx_W hpr rfl (by omega) (by omega) fun b o z vp vo vv vh v hz hV hv hc => ?_)
   have hz : c.B[j]? = some z := by simpa using hz
   have HZ := Lib.hid hz
   have hone := wantC_one z (by obtain ⟨_, _, _, _, e, h1, _⟩ := hV; cases e; exact Sl.slv h1) (by obtain ⟨_, _, _, _, e, _, h1, _⟩ := hV; cases e; exact Sl.slv h1) (by obtain ⟨_, _, _, _, e, _, _, h1, _⟩ := hV; cases e; exact Sl.slv h1) (by obtain ⟨_, _, _, _, e, _, _, _, h1, _⟩ := hV; cases e; exact Sl.slv h1) (Sl.slv hv)
   clear hz hpr hV hv
   go_wp2_with (first | ((with_reducible apply ugZ); rfl) | ((with_reducible (first | apply len_B | apply len_W | apply len_RL | apply len_L | apply len_Bat | apply len_Qst | apply len_H)); assumption) | ((with_reducible refine stop_ig kC ?_ ?_); rfl))
   refine Stop.go (cells_loadW (.agg (wantC z vp vo vv vh v)) (wantC z vp vo vv vh v).toList Tryd.underlying166 rfl (by kernel_rfl) rfl hc rfl ?_)
   go_wp2_with (first | ((with_reducible apply ugZ); rfl) | ((with_reducible (first | apply len_B | apply len_W | apply len_RL | apply len_L | apply len_Bat | apply len_Qst | apply len_H)); assumption) | ((with_reducible refine stop_ig kC ?_ ?_); rfl))
   refine Stop.go (blk_alloc (z := .agg zeroWant) (cs := zeroWant) (zero_run (by kernel_rfl)) rfl fun bw w5 hw hwg hb5 => ?_)
   go_wp2_with (first | ((with_reducible apply ugZ); rfl) | ((with_reducible (first | apply len_B | apply len_W | apply len_RL | apply len_L | apply len_Bat | apply len_Qst | apply len_H)); assumption) | ((with_reducible refine stop_ig kC ?_ ?_); rfl))
   refine Stop.go (blk_store_all (cs' := wantC z vp vo vv vh v) hw rfl rfl (by kernel_rfl) rfl hone fun w5 hw5 o5 z5 => ?_)
   have hb5 : Below wr.heap.size wr w5 := hb5.trans (o5.below hb5.size (by rintro k rfl; exact hwg))
   have hbr5 := below_on hbr hb5 swr
   have hqr5 := hqr.below hb5 (Nat.le_refl _)
   clear hw o5 z5 hone hc hb5 hbr hqr hwg
   have s5 := hbr5.size
   go_wp2_with (first | ((with_reducible apply ugZ); rfl) | ((with_reducible (first | apply len_B | apply len_W | apply len_RL | apply len_L | apply len_Bat | apply len_Qst | apply len_H)); assumption) | ((with_reducible refine stop_ig kC ?_ ?_); rfl))
   refine Stop.go (wpList_indexR (n := (j : Int)) rowBat (by decide) hqr5 rfl (by omega) (by rw [hbl]; omega) fun b o y cs hy hr hc => ?_)
   have hy : lb[j]? = some y := by simpa using hy
   have hyz : y = WantR.bat z := by
    rw [HLB.out, List.getElem?_map, HZ.out] at hy
    exact (Option.some.inj hy).symm
   subst hyz
   obtain rfl : cs = _ := hr
   have hone : (#[.int .u64 (z.note.batch.toNat : Int), .bool z.over, .int .i64 z.code, .int .u64 (z.stamp.toNat : Int)] : Array Value).all (·.oneCell') = true := by simp [Value.oneCell']
   clear hy
   go_wp2_with (first | ((with_reducible apply ugZ); rfl) | ((with_reducible (first | apply len_B | apply len_W | apply len_RL | apply len_L | apply len_Bat | apply len_Qst | apply len_H)); assumption) | ((with_reducible refine stop_ig kC ?_ ?_); rfl))
   refine Stop.go (cells_loadW (.agg #[.int .u64 (z.note.batch.toNat : Int), .bool z.over, .int .i64 z.code, .int .u64 (z.stamp.toNat : Int)]) [.int .u64 (z.note.batch.toNat : Int), .bool z.over, .int .i64 z.code, .int .u64 (z.stamp.toNat : Int)] Tryd.underlying90 rfl (by kernel_rfl) rfl hc rfl ?_)
   go_wp2_with (first | ((with_reducible apply ugZ); rfl) | ((with_reducible (first | apply len_B | apply len_W | apply len_RL | apply len_L | apply len_Bat | apply len_Qst | apply len_H)); assumption) | ((with_reducible refine stop_ig kC ?_ ?_); rfl))
   refine Stop.go (blk_alloc (z := .agg zeroBat) (cs := zeroBat) (zero_run (by kernel_rfl)) rfl fun bq w6 hq hqg hb6 => ?_)
   go_wp2_with (first | ((with_reducible apply ugZ); rfl) | ((with_reducible (first | apply len_B | apply len_W | apply len_RL | apply len_L | apply len_Bat | apply len_Qst | apply len_H)); assumption) | ((with_reducible refine stop_ig kC ?_ ?_); rfl))
   refine Stop.go (blk_store_all (cs' := #[.int .u64 (z.note.batch.toNat : Int), .bool z.over, .int .i64 z.code, .int .u64 (z.stamp.toNat : Int)]) hq rfl rfl (by kernel_rfl) rfl hone fun w7 hq7 o7 z7 => ?_)
   have hb7 : Below w5.heap.size w5 w7 := hb6.trans (o7.below hb6.size (by rintro k rfl; exact hqg))
   have hbr7 := below_on hbr5 hb7 hbr5.size
   have hw7 := hw5.below hb7 hw5.lt
   clear hq o7 z7 hone hc hb7 hbr5 hqr5 hqg hw5 hb6
   go_wp2_with (first | ((with_reducible apply ugZ); rfl) | ((with_reducible (first | apply len_B | apply len_W | apply len_RL | apply len_L | apply len_Bat | apply len_Qst | apply len_H)); assumption) | ((with_reducible refine stop_ig kC ?_ ?_); rfl))
   refine Stop.go (blk_load (.int .u64 (z.note.batch.toNat : Int)) oneU64 hq7 rfl rfl ?_)
   go_wp2_with (first | ((with_reducible apply ugZ); rfl) | ((with_reducible (first | apply len_B | apply len_W | apply len_RL | apply len_L | apply len_Bat | apply len_Qst | apply len_H)); assumption) | ((with_reducible refine stop_ig kC ?_ ?_); rfl))
   refine Stop.go (blk_load (.int .u64 (z.note.batch.toNat : Int)) oneU64 hw7 rfl rfl ?_)
   go_wp2_with (first | ((with_reducible apply ugZ); rfl) | ((with_reducible (first | apply len_B | apply len_W | apply len_RL | apply len_L | apply len_Bat | apply len_Qst | apply len_H)); assumption) | ((with_reducible refine stop_ig kC ?_ ?_); rfl))
   refine Stop.go (blk_load (.bool z.over) oneBool hq7 rfl rfl ?_)
   go_wp2_with (first | ((with_reducible apply ugZ); rfl) | ((with_reducible (first | apply len_B | apply len_W | apply len_RL | apply len_L | apply len_Bat | apply len_Qst | apply len_H)); assumption) | ((with_reducible refine stop_ig kC ?_ ?_); rfl))
   refine Stop.go (blk_load (.bool z.over) oneBool hw7 rfl rfl ?_)
   go_wp2_with (first | ((with_reducible apply ugZ); rfl) | ((with_reducible (first | apply len_B | apply len_W | apply len_RL | apply len_L | apply len_Bat | apply len_Qst | apply len_H)); assumption) | ((with_reducible refine stop_ig kC ?_ ?_); rfl))
   refine Stop.go (blk_load (.int .i64 z.code) oneErr hq7 rfl rfl ?_)
   go_wp2_with (first | ((with_reducible apply ugZ); rfl) | ((with_reducible (first | apply len_B | apply len_W | apply len_RL | apply len_L | apply len_Bat | apply len_Qst | apply len_H)); assumption) | ((with_reducible refine stop_ig kC ?_ ?_); rfl))
   refine Stop.go (blk_load (.int .i64 z.code) oneErr hw7 rfl rfl ?_)
   go_wp2_with (first | ((with_reducible apply ugZ); rfl) | ((with_reducible (first | apply len_B | apply len_W | apply len_RL | apply len_L | apply len_Bat | apply len_Qst | apply len_H)); assumption) | ((with_reducible refine stop_ig kC ?_ ?_); rfl))
   refine Stop.go (blk_load (.int .u64 (z.stamp.toNat : Int)) oneU64 hq7 rfl rfl ?_)
   go_wp2_with (first | ((with_reducible apply ugZ); rfl) | ((with_reducible (first | apply len_B | apply len_W | apply len_RL | apply len_L | apply len_Bat | apply len_Qst | apply len_H)); assumption) | ((with_reducible refine stop_ig kC ?_ ?_); rfl))
   refine Stop.go (blk_load (.int .u64 (z.stamp.toNat : Int)) oneU64 hw7 rfl rfl ?_)
   go_wp2_with (fail)
   go_roundg (c.B.length - (j + 1) + 1)
   case measure => have := Hk.out; omega
   case rel => exact ⟨j + 1, by omega, by omega, by go_num, hbr7⟩
  ·have hg5 := hg4.below hbr hg4.lt
   go_wp2_with (first | ((with_reducible apply ugZ); rfl) | ((with_reducible (first | apply len_B | apply len_W | apply len_RL | apply len_L | apply len_Bat | apply len_Qst | apply len_H)); assumption) | ((with_reducible refine stop_ig kC ?_ ?_); rfl))
   refine Stop.go (blk_load (cs := #[.int .i64 c.self, .slice xa c.B.length xc, .slice ya c.Q.length yc]) (.slice ya c.Q.length yc) oneWs hg5 rfl rfl ?_)
   clear hg5
   have hQr := hQs4.below hbr (Nat.le_refl _)
   go_wp2_with (first | ((with_reducible apply ugZ); rfl) | ((with_reducible (first | apply len_B | apply len_W | apply len_RL | apply len_L | apply len_Bat | apply len_Qst | apply len_H)); assumption) | ((with_reducible refine stop_ig kC ?_ ?_); rfl))
   clear hQr
   go_loopg [10, 11, 12, 104] (c.Q.length + 1) (fun k x7 x8 x9 i wr => ∃ (j : Nat), k = c.Q.length - j + 1 ∧ j ≤ c.Q.length ∧ i = .int .i64 j ∧ Below w4.heap.size w4 wr)
   case atStart => exact ⟨0, by omega, by omega, rfl, hbr⟩
   case round =>
    clear hbr
    obtain ⟨j, hk, hj, rfl, hbr⟩ := hrel
    have Hk := Lib.hid hk
    clear hk
    have hpr := hQs4.below hbr (Nat.le_refl _)
    have hqr := h64.below hbr (Nat.le_refl _)
    have swr := hbr.size
    by_cases hlt : j < c.Q.length
    ·go_wp2_with (first | ((with_reducible apply ugZ); rfl) | ((with_reducible (first | apply len_B | apply len_W | apply len_RL | apply len_L | apply len_Bat | apply len_Qst | apply len_H)); assumption) | ((with_reducible refine stop_ig kC ?_ ?_); rfl))
     refine Stop.go (idx_W hpr rfl (by omega) (by omega) fun b o z vp vo vv vh v hz hV hv hc => ?_)
     have hz : c.Q[j]? = some z := by simpa using hz
     have HZ := Lib.hid hz
     have hone := wantC_one z (by obtain ⟨_, _, _, _, e, h1, _⟩ := hV; cases e; exact Sl.slv h1) (by obtain ⟨_, _, _, _, e, _, h1, _⟩ := hV; cases e; exact Sl.slv h1) (by obtain ⟨_, _, _, _, e, _, _, h1, _⟩ := hV; cases e; exact Sl.slv h1) (by obtain ⟨_, _, _, _, e, _, _, _, h1, _⟩ := hV; cases e; exact Sl.slv h1) (Sl.slv hv)
     clear hz hpr hV
     go_wp2_with (first | ((with_reducible apply ugZ); rfl) | ((with_reducible (first | apply len_B | apply len_W | apply len_RL | apply len_L | apply len_Bat | apply len_Qst | apply len_H)); assumption) | ((with_reducible refine stop_ig kC ?_ ?_); rfl))
     refine Stop.go (cells_loadW (.agg (wantC z vp vo vv vh v)) (wantC z vp vo vv vh v).toList Tryd.underlying166 rfl (by kernel_rfl) rfl hc rfl ?_)
     go_wp2_with (first | ((with_reducible apply ugZ); rfl) | ((with_reducible (first | apply len_B | apply len_W | apply len_RL | apply len_L | apply len_Bat | apply len_Qst | apply len_H)); assumption) | ((with_reducible refine stop_ig kC ?_ ?_); rfl))
     refine Stop.go (blk_alloc (z := .agg zeroWant) (cs := zeroWant) (zero_run (by kernel_rfl)) rfl fun bw w5 hw hwg hb5 => ?_)
     go_wp2_with (first | ((with_reducible apply ugZ); rfl) | ((with_reducible (first | apply len_B | apply len_W | apply len_RL | apply len_L | apply len_Bat | apply len_Qst | apply len_H)); assumption) | ((with_reducible refine stop_ig kC ?_ ?_); rfl))
     refine Stop.go (blk_store_all (cs' := wantC z vp vo vv vh v) hw rfl rfl (by kernel_rfl) rfl hone fun w5 hw5 o5 z5 => ?_)
     have hb5 : Below wr.heap.size wr w5 := hb5.trans (o5.below hb5.size (by rintro k rfl; exact hwg))
     have hbr5 := below_on hbr hb5 swr
     have hqr5 := hqr.below hb5 (Nat.le_refl _)
     have hv5 := hv.below hb5 (Nat.le_refl _)
     clear hw o5 z5 hone hc hb5 hbr hqr hwg hv
     have s5 := hbr5.size
     go_wp2_with (first | ((with_reducible apply ugZ); rfl) | ((with_reducible (first | apply len_B | apply len_W | apply len_RL | apply len_L | apply len_Bat | apply len_Qst | apply len_H)); assumption) | ((with_reducible refine stop_ig kC ?_ ?_); rfl))
     refine Stop.go (wpList_indexR (n := (j : Int)) rowQst (by decide) hqr5 rfl (by omega) (by rw [hql]; omega) fun b o y cs hy hr hc => ?_)
     have hy : lq[j]? = some y := by simpa using hy
     have hyz : y = WantR.qst z := by
      rw [HLQ.out, List.getElem?_map, HZ.out] at hy
      exact (Option.some.inj hy).symm
     subst hyz
     obtain ⟨uh, rfl, huh⟩ := hr
     have hone : (#[.int .u64 (z.note.query.toNat : Int), .bool z.over, .int .i64 z.code, .int .u64 (z.stamp.toNat : Int), uh] : Array Value).all (·.oneCell') = true := qst_one _ _ _ _ (Sl.slv huh)
     clear hy
     go_wp2_with (first | ((with_reducible apply ugZ); rfl) | ((with_reducible (first | apply len_B | apply len_W | apply len_RL | apply len_L | apply len_Bat | apply len_Qst | apply len_H)); assumption) | ((with_reducible refine stop_ig kC ?_ ?_); rfl))
     refine Stop.go (cells_loadW (.agg #[.int .u64 (z.note.query.toNat : Int), .bool z.over, .int .i64 z.code, .int .u64 (z.stamp.toNat : Int), uh]) [.int .u64 (z.note.query.toNat : Int), .bool z.over, .int .i64 z.code, .int .u64 (z.stamp.toNat : Int), uh] Tryd.underlying94 rfl (by kernel_rfl) rfl hc rfl ?_)
     go_wp2_with (first | ((with_reducible apply ugZ); rfl) | ((with_reducible (first | apply len_B | apply len_W | apply len_RL | apply len_L | apply len_Bat | apply len_Qst | apply len_H)); assumption) | ((with_reducible refine stop_ig kC ?_ ?_); rfl))
     refine Stop.go (blk_alloc (z := .agg zeroQst) (cs := zeroQst) (zero_run (by kernel_rfl)) rfl fun bq w6 hq hqg hb6 => ?_)
     go_wp2_with (first | ((with_reducible apply ugZ); rfl) | ((with_reducible (first | apply len_B | apply len_W | apply len_RL | apply len_L | apply len_Bat | apply len_Qst | apply len_H)); assumption) | ((with_reducible refine stop_ig kC ?_ ?_); rfl))
     refine Stop.go (blk_store_all (cs' := #[.int .u64 (z.note.query.toNat : Int), .bool z.over, .int .i64 z.code, .int .u64 (z.stamp.toNat : Int), uh]) hq rfl rfl (by kernel_rfl) rfl hone fun w7 hq7 o7 z7 => ?_)
     have hb7 : Below w5.heap.size w5 w7 := hb6.trans (o7.below hb6.size (by rintro k rfl; exact hqg))
     have hbr7 := below_on hbr5 hb7 hbr5.size
     have hw7 := hw5.below hb7 hw5.lt
     have huh7 := huh.below hb7 (Nat.le_refl _)
     have hv7 := hv5.below hb7 (Nat.le_refl _)
     clear hq o7 z7 hone hc hb7 hbr5 hqr5 hqg hw5 hb6 hv5 huh
     go_wp2_with (first | ((with_reducible apply ugZ); rfl) | ((with_reducible (first | apply len_B | apply len_W | apply len_RL | apply len_L | apply len_Bat | apply len_Qst | apply len_H)); assumption) | ((with_reducible refine stop_ig kC ?_ ?_); rfl))
     refine Stop.go (blk_load (.int .u64 (z.note.query.toNat : Int)) oneU64 hq7 rfl rfl ?_)
     go_wp2_with (first | ((with_reducible apply ugZ); rfl) | ((with_reducible (first | apply len_B | apply len_W | apply len_RL | apply len_L | apply len_Bat | apply len_Qst | apply len_H)); assumption) | ((with_reducible refine stop_ig kC ?_ ?_); rfl))
     refine Stop.go (blk_load (.int .u64 (z.note.query.toNat : Int)) oneU64 hw7 rfl rfl ?_)
     go_wp2_with (first | ((with_reducible apply ugZ); rfl) | ((with_reducible (first | apply len_B | apply len_W | apply len_RL | apply len_L | apply len_Bat | apply len_Qst | apply len_H)); assumption) | ((with_reducible refine stop_ig kC ?_ ?_); rfl))
     refine Stop.go (blk_load (.bool z.over) oneBool hq7 rfl rfl ?_)
     go_wp2_with (first | ((with_reducible apply ugZ); rfl) | ((with_reducible (first | apply len_B | apply len_W | apply len_RL | apply len_L | apply len_Bat | apply len_Qst | apply len_H)); assumption) | ((with_reducible refine stop_ig kC ?_ ?_); rfl))
     refine Stop.go (blk_load (.bool z.over) oneBool hw7 rfl rfl ?_)
     go_wp2_with (first | ((with_reducible apply ugZ); rfl) | ((with_reducible (first | apply len_B | apply len_W | apply len_RL | apply len_L | apply len_Bat | apply len_Qst | apply len_H)); assumption) | ((with_reducible refine stop_ig kC ?_ ?_); rfl))
     refine Stop.go (blk_load (.int .i64 z.code) oneErr hq7 rfl rfl ?_)
     go_wp2_with (first | ((with_reducible apply ugZ); rfl) | ((with_reducible (first | apply len_B | apply len_W | apply len_RL | apply len_L | apply len_Bat | apply len_Qst | apply len_H)); assumption) | ((with_reducible refine stop_ig kC ?_ ?_); rfl))
     refine Stop.go (blk_load (.int .i64 z.code) oneErr hw7 rfl rfl ?_)
     go_wp2_with (first | ((with_reducible apply ugZ); rfl) | ((with_reducible (first | apply len_B | apply len_W | apply len_RL | apply len_L | apply len_Bat | apply len_Qst | apply len_H)); assumption) | ((with_reducible refine stop_ig kC ?_ ?_); rfl))
     refine Stop.go (blk_load (.int .u64 (z.stamp.toNat : Int)) oneU64 hq7 rfl rfl ?_)
     go_wp2_with (first | ((with_reducible apply ugZ); rfl) | ((with_reducible (first | apply len_B | apply len_W | apply len_RL | apply len_L | apply len_Bat | apply len_Qst | apply len_H)); assumption) | ((with_reducible refine stop_ig kC ?_ ?_); rfl))
     refine Stop.go (blk_load (.int .u64 (z.stamp.toNat : Int)) oneU64 hw7 rfl rfl ?_)
     go_wp2_with (first | ((with_reducible apply ugZ); rfl) | ((with_reducible (first | apply len_B | apply len_W | apply len_RL | apply len_L | apply len_Bat | apply len_Qst | apply len_H)); assumption) | ((with_reducible refine stop_ig kC ?_ ?_); rfl))
     refine Stop.go (blk_load uh oneH hq7 rfl rfl ?_)
     go_wp2_with (first | ((with_reducible apply ugZ); rfl) | ((with_reducible (first | apply len_B | apply len_W | apply len_RL | apply len_L | apply len_Bat | apply len_Qst | apply len_H)); assumption) | ((with_reducible refine stop_ig kC ?_ ?_); rfl))
     refine Stop.go (blk_load v oneH hw7 rfl rfl ?_)
     go_wp2_with (first | ((with_reducible apply ugZ); rfl) | ((with_reducible (first | apply len_B | apply len_W | apply len_RL | apply len_L | apply len_Bat | apply len_Qst | apply len_H)); assumption) | ((with_reducible refine stop_ig kC ?_ ?_); rfl))
     refine (rsameH_any w7 _ _ z.hits z.hits uh v huh7 hv7).mono ?_
     rintro e w8 ⟨nq, rfl, rfl⟩
     rw [show (z.hits == z.hits) = true by simp]
     have hbr8 := below_on hbr7 (below_draws w7.heap.size w7 nq) hbr7.size
     go_wp2_with (fail)
     go_roundg (c.Q.length - (j + 1) + 1)
     case measure => have := Hk.out; omega
     case rel => exact ⟨j + 1, by omega, by omega, by go_num, hbr8⟩
    ·go_wp2_with (fail)
     go_ret
     exact ⟨rfl, below_on hbw4 hbr hbw4.size⟩
end Go.Proofs.YtjkffjngamagkaaDoor
