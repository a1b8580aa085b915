/- package note: Unpack. -/
import Derived.Test.YtjkffjngamagkaaDoorNoteRead
import Derived.Test.YtjkffjngamagkaaDoorStop
import Derived.Test.YtjkffjngamagkaaDoorPackC
import Derived.Test.YtjkffjngamagkaaDoorNoteRight
import Derived.Laws.ResultCell
namespace Go.Arm
open Go.RowKit
theorem opened_len (l : List UInt8) : (opened l).1.length ≤ 4096 := by
 unfold opened
 split
 ·simp
 ·split
  ·simp
  ·rename_i h1 _
   unfold next at h1 ⊢
   split
   ·simp
   ·split
    ·simp
    ·split
     ·simp
     ·split
      ·simp
      ·simp; omega
theorem rend_abs (l : List UInt8) (e : Int) : rend l e = 0 ↔ absR l e = some [] := by
 unfold rend absR
 by_cases h : e = 0
 ·subst h
  by_cases h2 : 0 < l.length
  ·simp only [ne_eq, not_true_eq_false, if_false, if_pos h2, if_true]
   constructor
   ·intro h; simp at h
   ·intro h
    rw [Option.some.inj h] at h2
    simp at h2
  ·have : l = [] := List.eq_nil_of_length_eq_zero (by omega)
   simp [this]
 ·simp [h]
theorem results_cell_row2 {P : Program} {fn : Func} {p u : Tmp} {ty : TypeId} (h : fn.results = #[.cell p ty, .tmp u]) (tmps : Array Value) (w : World) (g : Nat) (t : TypeId) (cs : Array Value) (fr : Nat × Nat) (d : TypeDesc)
  (hp : tmps.getD p undef = .pointer (some ⟨g, 0, none⟩)) (hg : w.heap[g]? = some (.cells cs t fr))
  (hu : P.underlying ty = some d) (hd : (match d with | .struct _ | .array _ _ => true | _ => false) = true) (hi : (P.info? ty).map (·.size) = some cs.size) :
  (results fn tmps).run P w = .ok (.tuple #[.agg cs, tmps.getD u undef]) w := by
 rw [results_cell_tmp h, hp]
 simp [asAddr, run_loadVar_row w g t ty cs fr d hg hu hd hi, Result.andThen]
end Go.Arm
namespace Go.Proofs.YtjkffjngamagkaaDoor
open Go Go.RowKit Go.Arm
def nunp (L : Lim) (l : List UInt8) : NoteR × Int := if (opened l).2 ≠ 0 then (zeroN, (opened l).2) else unp L (opened l).1
theorem i64_0 : I64 0 := by unfold I64; decide
theorem zero_nt (w : World) (S : Nat → Prop) : Nt w S zeroN (.agg zeroCells) :=
 ⟨.slice none 0 0, .slice none 0 0, .slice none 0 0, .slice none 0 0, rfl, Sl.nil _ _, Sl.nil _ _, Sl.nil _ _, Sl.nil _ _, i64_0, i64_0, i64_0, i64_0⟩
set_option maxHeartbeats 4000000 in
set_option maxRecDepth 100000 in
theorem nunpack_any (w : World) (S : Nat → Prop) (l : List UInt8) (p : Value) (hN : Nib w) (hT : Srt w) (hp : Sl w S l p) (hl : l.length ≤ 140737488355328) :
  Calls Tryd.prog 15 #[p] w fun e w' => ∃ V, e = .returned (.tuple #[V, .int .i64 (nunp plim l).2]) ∧ Nt w' (fun b => w.heap.size ≤ b) (nunp plim l).1 V ∧ Below w.heap.size w w' := by
 obtain ⟨R, hR⟩ : ∃ R, R = nunp plim l := ⟨_, rfl⟩
 rw [← hR]
 unfold nunp at hR
 have hOl := opened_len l
 obtain ⟨O, hO⟩ : ∃ O, O = opened l := ⟨_, rfl⟩
 rw [← hO] at hR hOl
 have HR := Lib.hid hR
 have HO := Lib.hid hO
 clear hR hO
 go_enter Tryd.func15, Tryd.ntmps15
 go_wp2_with (first | ((with_reducible apply ugZ); rfl) | ((with_reducible (first | apply len_B | apply len_BB | apply len_N | apply len_V | apply len_VV | apply len_P | apply len_O | apply len_H)); assumption) | ((with_reducible refine stop_if kB ?_ ?_); rfl))
 refine Stop.go (blk_alloc (z := .agg zeroCells) (cs := zeroCells) (zero_run (by kernel_rfl)) rfl fun b2 w1 c2 hb2 ha1 => ?_)
 have hT1 := hT.below ha1 (Nat.le_refl _)
 have hN1 := hN.below ha1 (Nat.le_refl _)
 have hp1 := hp.below ha1 (Nat.le_refl _)
 clear hT hN hp
 have l2 := c2.lt
 go_wp2_with (first | ((with_reducible apply ugZ); rfl) | ((with_reducible (first | apply len_B | apply len_BB | apply len_N | apply len_V | apply len_VV | apply len_P | apply len_O | apply len_H)); assumption) | ((with_reducible refine stop_if kB ?_ ?_); rfl))
 refine (sopen_any w1 S l p hN1 hp1 hl).mono ?_
 rw [← HO.out]
 rintro e w2 ⟨v, rfl, hv, hb⟩
 have hB2 := below_on ha1 hb ha1.size
 have hT2 := hT1.below hb (Nat.le_refl _)
 have c22 := c2.below hb l2
 have s1 := ha1.size
 have s2 := hb.size
 clear hN1 hp1 hT1 c2 hb HO
 obtain ⟨body, oe⟩ := O
 have hOl : body.length ≤ 4096 := hOl
 have hv : Sl w2 (fun b => w1.heap.size ≤ b) body v := hv
 by_cases hc : oe = 0
 ·subst hc
  have e := HR.out
  simp only [ne_eq, not_true_eq_false, if_false] at e
  have HR := Lib.hid e
  clear e
  go_wp2_with (first | ((with_reducible apply ugZ); rfl) | ((with_reducible (first | apply len_B | apply len_BB | apply len_N | apply len_V | apply len_VV | apply len_P | apply len_O | apply len_H)); assumption) | ((with_reducible refine stop_if kB ?_ ?_); rfl))
  refine (new_any w2 _ body v hv (by omega)).mono ?_
  rintro e w3 ⟨g, rfl, hg, hrd, hb3⟩
  have hT3 := hT2.below hb3 (Nat.le_refl _)
  have c23 := c22.below hb3 (by omega)
  have hB3 := below_on hB2 hb3 hB2.size
  have s3 := hb3.size
  have hrd3 : RdA w3 g (fun b => (w2.heap.size ≤ b ∧ b ≠ g) ∧ b < w3.heap.size) (some body) := ⟨body, 0, hrd.old, rfl, by omega⟩
  clear hT2 c22 hB2 hb3 hrd hv
  go_wp2_with (first | ((with_reducible apply ugZ); rfl) | ((with_reducible (first | apply len_B | apply len_BB | apply len_N | apply len_V | apply len_VV | apply len_P | apply len_O | apply len_H)); assumption) | ((with_reducible refine stop_if kB ?_ ?_); rfl))
  refine (read_any w3 g _ (some body) hT3 hrd3 (fun b h => h.2)).mono ?_
  rintro e w4 ⟨V, rfl, hnt, hrd4, ho4⟩
  have hgne := hT3.ne_rd hrd3
  have hT4 := hT3.only ho4 hgne
  have c24 := c23.only ho4 (by omega)
  have hB4 := below_only hB3 ho4 (fun k hk => by have : k = g := hk; omega)
  have s4 := ho4.size
  have glt := hrd3.lt
  clear hT3 c23 hB3 ho4 hrd3
  obtain ⟨PR, hPR⟩ : ∃ PR, PR = parse plim (some body) := ⟨_, rfl⟩
  have e := HR.out
  unfold unp at e
  rw [← hPR] at e hnt hrd4
  have HR := Lib.hid e
  clear e hPR
  obtain ⟨n, sR⟩ := PR
  have hnt : Nt w4 (fun b => w3.heap.size ≤ b) n V := hnt
  have hrd4 : RdA w4 g (fun b => (w2.heap.size ≤ b ∧ b ≠ g) ∧ b < w3.heap.size) sR := hrd4
  obtain ⟨vp, vo, vv, vh, rfl, h1, h2, h3, h4, h5⟩ := hnt
  have hone := noteV_one n (Sl.slv h1) (Sl.slv h2) (Sl.slv h3) (Sl.slv h4)
  go_wp2_with (first | ((with_reducible apply ugZ); rfl) | ((with_reducible (first | apply len_B | apply len_BB | apply len_N | apply len_V | apply len_VV | apply len_P | apply len_O | apply len_H)); assumption) | ((with_reducible refine stop_if kB ?_ ?_); rfl))
  refine Stop.go (blk_alloc (z := .agg zeroCells) (cs := zeroCells) (zero_run (by kernel_rfl)) rfl fun b7 w5 c7 hb7 ha5 => ?_)
  have l7 := c7.lt
  have c25 := c24.below ha5 (by omega)
  go_wp2_with (first | ((with_reducible apply ugZ); rfl) | ((with_reducible (first | apply len_B | apply len_BB | apply len_N | apply len_V | apply len_VV | apply len_P | apply len_O | apply len_H)); assumption) | ((with_reducible refine stop_if kB ?_ ?_); rfl))
  refine Stop.go (blk_store_all (cs' := (noteV n vp vo vv vh).cells) c7 rfl rfl (by kernel_rfl) rfl hone fun w6 c6 o6 z6 => ?_)
  have o56 : Only (fun b => w4.heap.size ≤ b) w4 w6 := ((Only.of_below ha5).trans o6 fun b hb e => by omega)
  have hT6 := hT4.only o56 (by have := hT4.lt; omega)
  have c26 := c25.only o6 (by omega)
  have hB6 := below_only hB4 o56 (fun k hk => by omega)
  have f : ∀ b, b < w4.heap.size → ¬ w4.heap.size ≤ b := fun b hb => by omega
  have k1 := h1.only o56 (fun b _ hb => f b hb)
  have k2 := h2.only o56 (fun b _ hb => f b hb)
  have k3 := h3.only o56 (fun b _ hb => f b hb)
  have k4 := h4.only o56 (fun b _ hb => f b hb)
  have hnt6 : Nt w6 (fun b => w3.heap.size ≤ b) n (noteV n vp vo vv vh) := ⟨vp, vo, vv, vh, rfl, k1, k2, k3, k4, h5⟩
  have hrd6 := hrd4.only o56 (by omega) (fun b _ hb => f b hb)
  have hbx : Box w6 b7 n vp vo vv vh := c6
  have b72 : b2 ≠ b7 := by omega
  clear h1 h2 h3 h4 h5 hT4 c24 c25 hB4 ha5 c7 c6 o6 z6 o56 f k1 k2 k3 k4 hrd4
  obtain ⟨le, ee, hRd, habs, _⟩ := hrd6
  have hend := end_any w6 g _ le ee hRd
  have hra := rend_abs le ee
  rw [habs] at hra
  clear hRd habs
  generalize rend le ee = RE at *
  have HRA := Lib.hid hra
  clear hra
  go_wp2_with (first | ((with_reducible apply ugZ); rfl) | ((with_reducible (first | apply len_B | apply len_BB | apply len_N | apply len_V | apply len_VV | apply len_P | apply len_O | apply len_H)); assumption) | ((with_reducible refine stop_if kB ?_ ?_); rfl))
  refine hend.mono ?_
  rintro e w7 ⟨rfl, rfl⟩
  have hnr := nright_any w6 _ n _ hT6 hnt6
  clear hend hT6
  obtain ⟨NR, hNR⟩ : ∃ NR, NR = nright n := ⟨_, rfl⟩
  rw [← hNR] at hnr
  have e : R = if sR = some [] ∧ nright n = true then (n, 0) else (zeroN, 4) := HR.out
  have HR := Lib.hid e
  have HNR := Lib.hid hNR
  clear e hNR
  by_cases hz : RE = 0
  ·have hzb : (RE != 0) = false := by simp [hz]
   subst hz
   cases NR
   ·have e : R = (zeroN, 4) := by
     rw [HR.out, if_neg]
     rintro ⟨_, h2⟩
     have := HNR.out
     rw [h2] at this
     cases this
    subst e
    clear HR HRA HNR
    go_wp2_with (first | ((with_reducible apply ugZ); rfl) | ((with_reducible (first | apply len_B | apply len_BB | apply len_N | apply len_V | apply len_VV | apply len_P | apply len_O | apply len_H)); assumption) | ((with_reducible refine stop_if kB ?_ ?_); rfl))
    refine Stop.go (load_N hbx rfl ?_)
    go_wp2_with (first | ((with_reducible apply ugZ); rfl) | ((with_reducible (first | apply len_B | apply len_BB | apply len_N | apply len_V | apply len_VV | apply len_P | apply len_O | apply len_H)); assumption) | ((with_reducible refine stop_if kB ?_ ?_); rfl))
    refine hnr.mono ?_
    rintro e w7 ⟨rfl, hb7'⟩
    have c27 := c26.below hb7' c26.lt
    have hB7 := below_on hB6 hb7' hB6.size
    go_wp2_with (first | ((with_reducible apply ugZ); rfl) | ((with_reducible (first | apply len_B | apply len_BB | apply len_N | apply len_V | apply len_VV | apply len_P | apply len_O | apply len_H)); assumption) | ((with_reducible refine stop_if kB ?_ ?_); rfl))
    refine Stop.go (blk_store_all (cs' := zeroCells) c27 rfl rfl (by kernel_rfl) rfl (by simp [zeroCells, Value.oneCell']) fun w8 c8 o8 z8 => ?_)
    go_wp2_with (first | ((with_reducible apply ugZ); rfl) | ((with_reducible (first | apply len_B | apply len_BB | apply len_N | apply len_V | apply len_VV | apply len_P | apply len_O | apply len_H)); assumption) | ((with_reducible refine stop_if kB ?_ ?_); rfl))
    refine bodyPost_ret (results_cell_row2 rfl _ w8 b2 _ _ _ _ rfl c8 Tryd.underlying33 rfl (by kernel_rfl)) rfl ?_
    exact ⟨_, rfl, zero_nt _ _, below_only hB7 o8 (fun k hk => by omega)⟩
   ·have e : R = (n, 0) := by rw [HR.out, if_pos ⟨HRA.out.1 rfl, HNR.out.symm⟩]
    subst e
    clear HR HRA HNR
    go_wp2_with (first | ((with_reducible apply ugZ); rfl) | ((with_reducible (first | apply len_B | apply len_BB | apply len_N | apply len_V | apply len_VV | apply len_P | apply len_O | apply len_H)); assumption) | ((with_reducible refine stop_if kB ?_ ?_); rfl))
    refine Stop.go (load_N hbx rfl ?_)
    go_wp2_with (first | ((with_reducible apply ugZ); rfl) | ((with_reducible (first | apply len_B | apply len_BB | apply len_N | apply len_V | apply len_VV | apply len_P | apply len_O | apply len_H)); assumption) | ((with_reducible refine stop_if kB ?_ ?_); rfl))
    refine hnr.mono ?_
    rintro e w7 ⟨rfl, hb7'⟩
    have c27 := c26.below hb7' c26.lt
    have hbx7 := hbx.below hb7' (Blk.lt hbx)
    have hB7 := below_on hB6 hb7' hB6.size
    have hnt7 := (hnt6.below hb7' (Nat.le_refl _))
    clear hnt6 hb7'
    go_wp2_with (first | ((with_reducible apply ugZ); rfl) | ((with_reducible (first | apply len_B | apply len_BB | apply len_N | apply len_V | apply len_VV | apply len_P | apply len_O | apply len_H)); assumption) | ((with_reducible refine stop_if kB ?_ ?_); rfl))
    refine Stop.go (load_N hbx7 rfl ?_)
    go_wp2_with (first | ((with_reducible apply ugZ); rfl) | ((with_reducible (first | apply len_B | apply len_BB | apply len_N | apply len_V | apply len_VV | apply len_P | apply len_O | apply len_H)); assumption) | ((with_reducible refine stop_if kB ?_ ?_); rfl))
    refine Stop.go (blk_store_all (cs' := (noteV n vp vo vv vh).cells) c27 rfl rfl (by kernel_rfl) rfl hone fun w8 c8 o8 z8 => ?_)
    go_wp2_with (first | ((with_reducible apply ugZ); rfl) | ((with_reducible (first | apply len_B | apply len_BB | apply len_N | apply len_V | apply len_VV | apply len_P | apply len_O | apply len_H)); assumption) | ((with_reducible refine stop_if kB ?_ ?_); rfl))
    refine bodyPost_ret (results_cell_row2 rfl _ w8 b2 _ _ _ _ rfl c8 Tryd.underlying33 rfl (by kernel_rfl)) rfl ?_
    exact ⟨_, rfl, hnt7.keep fun b hb hlt => ⟨o8.block b hlt (by omega), by omega⟩, below_only hB7 o8 (fun k hk => by omega)⟩
  ·have hzb : (RE != 0) = true := by simp [hz]
   have e : R = (zeroN, 4) := by rw [HR.out, if_neg (fun h => hz (HRA.out.2 h.1))]
   subst e
   clear HR HRA HNR hnr
   go_wp2_with (first | ((with_reducible apply ugZ); rfl) | ((with_reducible refine stop_ig kB ?_ ?_); rfl))
   refine Stop.go (blk_store_all (cs' := zeroCells) c26 rfl rfl (by kernel_rfl) rfl (by simp [zeroCells, Value.oneCell']) fun w8 c8 o8 z8 => ?_)
   go_wp2_with (first | ((with_reducible apply ugZ); rfl) | ((with_reducible (first | apply len_B | apply len_BB | apply len_N | apply len_V | apply len_VV | apply len_P | apply len_O | apply len_H)); assumption) | ((with_reducible refine stop_if kB ?_ ?_); rfl))
   refine bodyPost_ret (results_cell_row2 rfl _ w8 b2 _ _ _ _ rfl c8 Tryd.underlying33 rfl (by kernel_rfl)) rfl ?_
   exact ⟨_, rfl, zero_nt _ _, below_only hB6 o8 (fun k hk => by omega)⟩
 ·have e : R = (zeroN, oe) := by rw [HR.out, if_pos hc]
  subst e
  clear HR
  go_wp2_with (first | ((with_reducible apply ugZ); rfl) | ((with_reducible (first | apply len_B | apply len_BB | apply len_N | apply len_V | apply len_VV | apply len_P | apply len_O | apply len_H)); assumption) | ((with_reducible refine stop_if kB ?_ ?_); rfl))
  refine Stop.go (blk_store_all (cs' := zeroCells) c22 rfl rfl (by kernel_rfl) rfl (by simp [zeroCells, Value.oneCell']) fun w5 c5 o5 z5 => ?_)
  go_wp2_with (first | ((with_reducible apply ugZ); rfl) | ((with_reducible (first | apply len_B | apply len_BB | apply len_N | apply len_V | apply len_VV | apply len_P | apply len_O | apply len_H)); assumption) | ((with_reducible refine stop_if kB ?_ ?_); rfl))
  refine bodyPost_ret (results_cell_row2 rfl _ w5 b2 _ _ _ _ rfl c5 Tryd.underlying33 rfl (by kernel_rfl)) rfl ?_
  exact ⟨_, rfl, zero_nt _ _, below_only hB2 o5 (fun k hk => by omega)⟩
end Go.Proofs.YtjkffjngamagkaaDoor
