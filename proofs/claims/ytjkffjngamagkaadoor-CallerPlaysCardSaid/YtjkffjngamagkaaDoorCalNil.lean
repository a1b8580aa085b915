/- A nil caller, of the program's and of the document's. -/
import Derived.Test.YtjkffjngamagkaaDoorCal7
import Derived.Test.YtjkffjngamagkaaDoorRefCal
import Derived.Test.YtjkffjngamagkaaDoorRefUnp
namespace Go.Proofs.YtjkffjngamagkaaDoor
open Go Go.RowKit Go.Arm
set_option maxHeartbeats 4000000 in
theorem put_nil (w : World) (num : UInt64) (ao : Option Addr) (n c : Nat) :
  Calls Tryd.prog 29 #[.pointer none, .int .u64 (num.toNat : Int), .slice ao n c] w fun e w' => e = .returned (.tuple #[.slice none 0 0, .int .i64 6]) ∧ Below w.heap.size w w' := by
 go_enter Tryd.func29, Tryd.ntmps29
 go_wp2_with (first | ((with_reducible apply ugZ); rfl) | ((with_reducible (first | apply len_B | apply len_PB | apply len_PQ | apply len_L | apply len_Bat | apply len_Qst | apply len_H)); assumption) | ((with_reducible refine stop_ig kC ?_ ?_); rfl))
 refine Stop.go (blk_box (cs := #[.int .u64 (num.toNat : Int)]) rfl fun h w1 hh hhge hb1 => ?_)
 clear hh hhge
 go_wp2_with (fail)
 go_ret2
 exact ⟨rfl, hb1⟩
set_option maxHeartbeats 4000000 in
theorem ask_nil (w : World) (S : Nat → Prop) (n : NoteR) (V : Value) (hV : Nt w S n V) :
  Calls Tryd.prog 30 #[.pointer none, V] w fun e w' => e = .returned (.tuple #[.slice none 0 0, .int .i64 6]) ∧ Below w.heap.size w w' := by
 have hV0 := hV.old
 clear hV
 obtain ⟨up, uo, uv, uh, rfl, z1, z2, z3, z4⟩ := nt_shape hV0
 clear hV0 z1 z2 z3 z4
 go_enter Tryd.func30, Tryd.ntmps30
 go_wp2_with (first | ((with_reducible apply ugZ); rfl) | ((with_reducible (first | apply len_B | apply len_PB | apply len_PQ | apply len_L | apply len_Bat | apply len_Qst | apply len_H)); assumption) | ((with_reducible refine stop_ig kC ?_ ?_); rfl))
 refine Stop.go (blk_box (cs := (noteV n up uo uv uh).cells) rfl fun h w1 hh hhge hb1 => ?_)
 clear hh hhge
 go_wp2_with (fail)
 go_ret2
 exact ⟨rfl, hb1⟩
set_option maxHeartbeats 4000000 in
theorem wake_nil (w : World) : Calls Tryd.prog 31 #[.pointer none] w fun e w' => e = .returned (.slice none 0 0) ∧ w' = w := by
 go_enter Tryd.func31, Tryd.ntmps31
 go_wp2_with (fail)
 go_ret
 exact ⟨rfl, rfl⟩
set_option maxHeartbeats 4000000 in
theorem batches_nil (w : World) : Calls Tryd.prog 41 #[.pointer none] w fun e w' => e = .returned (.slice none 0 0) ∧ w' = w := by
 go_enter Tryd.func41, Tryd.ntmps41
 go_wp2_with (fail)
 go_ret
 exact ⟨rfl, rfl⟩
set_option maxHeartbeats 4000000 in
theorem questions_nil (w : World) : Calls Tryd.prog 42 #[.pointer none] w fun e w' => e = .returned (.slice none 0 0) ∧ w' = w := by
 go_enter Tryd.func42, Tryd.ntmps42
 go_wp2_with (fail)
 go_ret
 exact ⟨rfl, rfl⟩
set_option maxHeartbeats 4000000 in
theorem idle_nil (w : World) : Calls Tryd.prog 80 #[.pointer none] w fun e w' => e = .returned (.bool false) ∧ w' = w := by
 go_enter Tryd.func80, Tryd.ntmps80
 go_wp2_with (fail)
 go_ret
 exact ⟨rfl, rfl⟩
set_option maxHeartbeats 4000000 in
theorem hear_nil (w : World) (hN : Srt w) (hB : Nib w) (S0 : Nat → Prop) (src : Int) (l : List UInt8) (p : Value) (hp : Sl w S0 l p) (hl : l.length ≤ 140737488355328) :
  Calls Tryd.prog 36 #[.pointer none, .int .i64 src, p] w fun e w' => e = .returned (.tuple #[]) ∧ Below w.heap.size w w' := by
 have hun := nunpack_any w S0 l p hB hN hp hl
 generalize nunp plim l = R at *
 obtain ⟨n, er⟩ := R
 clear hp
 go_enter Tryd.func36, Tryd.ntmps36
 go_wp2_with (first | ((with_reducible apply ugZ); rfl) | ((with_reducible (first | apply len_B | apply len_PB | apply len_PQ | apply len_L | apply len_Bat | apply len_Qst | apply len_H)); assumption) | ((with_reducible refine stop_ig kC ?_ ?_); rfl))
 refine hun.mono ?_
 clear hun
 rintro e w1 ⟨V1, rfl, hV1, hb1⟩
 have hV1 : Nt w1 (fun b => w.heap.size ≤ b) n V1 := hV1
 obtain ⟨vp, vo, vv, vh, rfl, h1, h2, h3, hvh, _⟩ := hV1
 have one := noteV_one n (Sl.slv h1) (Sl.slv h2) (Sl.slv h3) (Sl.slv hvh)
 obtain ⟨ha, hn, hcp, rfl⟩ := Sl.shape hvh
 clear h1 h2 h3 hvh
 go_wp2_with (first | ((with_reducible apply ugZ); rfl) | ((with_reducible (first | apply len_B | apply len_PB | apply len_PQ | apply len_L | apply len_Bat | apply len_Qst | apply len_H)); assumption) | ((with_reducible refine stop_ig kC ?_ ?_); rfl))
 refine Stop.go (blk_alloc (z := .agg zeroCells) (cs := zeroCells) (zero_run (by kernel_rfl)) rfl fun bn w2 k2 hbn ha2 => ?_)
 go_wp2_with (first | ((with_reducible apply ugZ); rfl) | ((with_reducible (first | apply len_B | apply len_PB | apply len_PQ | apply len_L | apply len_Bat | apply len_Qst | apply len_H)); assumption) | ((with_reducible refine stop_ig kC ?_ ?_); rfl))
 refine Stop.go (blk_store_all (cs' := (noteV n vp vo vv (.slice ha hn hcp)).cells) k2 rfl rfl (by kernel_rfl) rfl one fun w3 k3 o3 z3 => ?_)
 have hb13 : Below w1.heap.size w1 w3 := ha2.trans (o3.below ha2.size (by rintro k rfl; exact hbn))
 have hb3 := below_on hb1 hb13 hb1.size
 clear one hb1 k2 ha2 k3 o3 z3 hb13
 go_wp2_with (fail)
 refine bodyPost_ret (results_none rfl _ _ _) rfl ?_
 exact ⟨rfl, hb3⟩
set_option maxHeartbeats 4000000 in
theorem rput_nil (w : World) (num : UInt64) (ao : Option Addr) (n c : Nat) :
  Calls Tryd.prog 32 #[.pointer none, .int .u64 (num.toNat : Int), .slice ao n c] w fun e w' => e = .returned (.tuple #[.slice none 0 0, .int .i64 6]) ∧ w' = w := by
 go_enter Tryd.func32, Tryd.ntmps32
 go_wp2_with (fail)
 go_ret2
 exact ⟨rfl, rfl⟩
set_option maxHeartbeats 4000000 in
theorem rask_nil (w : World) (S : Nat → Prop) (n : NoteR) (V : Value) (hV : Nt w S n V) :
  Calls Tryd.prog 33 #[.pointer none, V] w fun e w' => e = .returned (.tuple #[.slice none 0 0, .int .i64 6]) ∧ Below w.heap.size w w' := by
 have hV0 := hV.old
 clear hV
 obtain ⟨up, uo, uv, uh, rfl, z1, z2, z3, z4⟩ := nt_shape hV0
 clear hV0 z1 z2 z3 z4
 go_enter Tryd.func33, Tryd.ntmps33
 go_wp2_with (first | ((with_reducible apply ugZ); rfl) | ((with_reducible (first | apply len_B | apply len_W | apply len_RL | apply len_L | apply len_Bat | apply len_Qst | apply len_H)); assumption) | ((with_reducible refine stop_ig kC ?_ ?_); rfl))
 refine Stop.go (box_R rfl fun bn w2 hx2 hng hb2 => ?_)
 clear hx2 hng
 go_wp2_with (fail)
 go_ret2
 exact ⟨rfl, hb2⟩
set_option maxHeartbeats 4000000 in
theorem rwake_nil (w : World) : Calls Tryd.prog 34 #[.pointer none] w fun e w' => e = .returned (.slice none 0 0) ∧ w' = w := by
 go_enter Tryd.func34, Tryd.ntmps34
 go_wp2_with (fail)
 go_ret
 exact ⟨rfl, rfl⟩
set_option maxHeartbeats 4000000 in
theorem rhear_nil (w : World) (S0 : Nat → Prop) (src : Int) (l : List UInt8) (p : Value) (hp : Sl w S0 l p) (hl : l.length ≤ 140737488355328) :
  Calls Tryd.prog 37 #[.pointer none, .int .i64 src, p] w fun e w' => e = .returned (.tuple #[]) ∧ Below w.heap.size w w' := by
 have hun := runpack_any w S0 l p hp hl
 generalize nunp rlim l = R at *
 obtain ⟨n, er⟩ := R
 clear hp
 go_enter Tryd.func37, Tryd.ntmps37
 go_wp2_with (first | ((with_reducible apply ugZ); rfl) | ((with_reducible (first | apply len_B | apply len_W | apply len_RL | apply len_L | apply len_Bat | apply len_Qst | apply len_H)); assumption) | ((with_reducible refine stop_ig kC ?_ ?_); rfl))
 refine hun.mono ?_
 clear hun
 rintro e w1 ⟨V1, rfl, hV1, hb1⟩
 have hV1 : Nt w1 (fun b => w.heap.size ≤ b) n V1 := hV1
 obtain ⟨vp, vo, vv, vh, rfl, h1, h2, h3, hvh, _⟩ := hV1
 have one := noteV_one n (Sl.slv h1) (Sl.slv h2) (Sl.slv h3) (Sl.slv hvh)
 obtain ⟨ha, hn, hcp, rfl⟩ := Sl.shape hvh
 clear h1 h2 h3 hvh
 go_wp2_with (first | ((with_reducible apply ugZ); rfl) | ((with_reducible (first | apply len_B | apply len_W | apply len_RL | apply len_L | apply len_Bat | apply len_Qst | apply len_H)); assumption) | ((with_reducible refine stop_ig kC ?_ ?_); rfl))
 refine Stop.go (blk_alloc (z := .agg zeroCells) (cs := zeroCells) (zero_run (by kernel_rfl)) rfl fun bn w2 k2 hbn ha2 => ?_)
 go_wp2_with (first | ((with_reducible apply ugZ); rfl) | ((with_reducible (first | apply len_B | apply len_W | apply len_RL | apply len_L | apply len_Bat | apply len_Qst | apply len_H)); assumption) | ((with_reducible refine stop_ig kC ?_ ?_); rfl))
 refine Stop.go (blk_store_all (cs' := (noteV n vp vo vv (.slice ha hn hcp)).cells) k2 rfl rfl (by kernel_rfl) rfl one fun w3 k3 o3 z3 => ?_)
 have hb13 : Below w1.heap.size w1 w3 := ha2.trans (o3.below ha2.size (by rintro k rfl; exact hbn))
 have hb3 := below_on hb1 hb13 hb1.size
 clear one hb1 k2 ha2 k3 o3 z3 hb13
 go_wp2_with (fail)
 refine bodyPost_ret (results_none rfl _ _ _) rfl ?_
 exact ⟨rfl, hb3⟩
end Go.Proofs.YtjkffjngamagkaaDoor
