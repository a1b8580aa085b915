/- package caller: New, letters, who has a number. -/
import Derived.Test.YtjkffjngamagkaaDoorCal
import Derived.Test.YtjkffjngamagkaaDoorPackA
import Derived.Test.YtjkffjngamagkaaDoorPackG
namespace Go.Arm
theorem u64_beq (a b : UInt64) : ((a.toNat : Int) == (b.toNat : Int)) = (a == b) := by
 rw [Bool.eq_iff_iff]
 simp only [beq_iff_eq]
 constructor
 ·intro h; exact UInt64.toNat_inj.1 (by omega)
 ·rintro rfl; rfl
end Go.Arm
namespace Go.Proofs.YtjkffjngamagkaaDoor
open Go Go.RowKit Go.Arm
theorem onePBs : One Tryd.prog 146 := One.mk' Tryd.underlying146 rfl (by kernel_rfl)
theorem onePQs : One Tryd.prog 147 := One.mk' Tryd.underlying147 rfl (by kernel_rfl)
theorem onePB : One Tryd.prog 151 := One.mk' Tryd.underlying151 rfl (by kernel_rfl)
theorem onePQ : One Tryd.prog 161 := One.mk' Tryd.underlying161 rfl (by kernel_rfl)
theorem cnew_any (w : World) (s : Int) : Calls Tryd.prog 28 #[.int .i64 s] w fun e w' =>
  (1 ≤ s ∧ s ≤ 15 → ∃ g, e = .returned (.tuple #[.pointer (some ⟨g, 0, none⟩), .int .i64 0]) ∧ CalP w' w.heap.size (fun k => k = g) (fun _ => False) g ⟨s, [], []⟩ ∧ Fr w' w.heap.size (fun k => k = g) (fun _ => False)) ∧
  (¬ (1 ≤ s ∧ s ≤ 15) → e = .returned (.tuple #[.pointer none, .int .i64 1])) ∧ Below w.heap.size w w' := by
 by_cases h1 : s < 1
 ·go_enter Tryd.func28, Tryd.ntmps28
  go_wp2_with (first | ((with_reducible apply ugZ); rfl) | ((with_reducible (first | apply len_B | apply len_PB | apply len_PQ | apply len_L | apply len_Bat | apply len_Qst | apply len_H)); assumption) | ((with_reducible refine stop_ig kC ?_ ?_); rfl))
  go_ret2
  exact ⟨fun h => by omega, fun _ => rfl, Below.refl _ _⟩
 ·by_cases h2 : 16 ≤ s
  ·go_enter Tryd.func28, Tryd.ntmps28
   go_wp2_with (first | ((with_reducible apply ugZ); rfl) | ((with_reducible (first | apply len_B | apply len_PB | apply len_PQ | apply len_L | apply len_Bat | apply len_Qst | apply len_H)); assumption) | ((with_reducible refine stop_ig kC ?_ ?_); rfl))
   go_ret2
   exact ⟨fun h => by omega, fun _ => rfl, Below.refl _ _⟩
  ·go_enter Tryd.func28, Tryd.ntmps28
   go_wp2_with (first | ((with_reducible apply ugZ); rfl) | ((with_reducible (first | apply len_B | apply len_PB | apply len_PQ | apply len_L | apply len_Bat | apply len_Qst | apply len_H)); assumption) | ((with_reducible refine stop_ig kC ?_ ?_); rfl))
   refine Stop.go (blk_box (cs := #[.int .i64 s, .slice none 0 0, .slice none 0 0]) rfl fun g w1 hg hge hb => ?_)
   have hlt := hg.lt
   go_wp2_with (first | ((with_reducible apply ugZ); rfl) | ((with_reducible (first | apply len_B | apply len_PB | apply len_PQ | apply len_L | apply len_Bat | apply len_Qst | apply len_H)); assumption) | ((with_reducible refine stop_ig kC ?_ ?_); rfl))
   go_ret2
   refine ⟨fun _ => ⟨g, rfl, ⟨.slice none 0 0, .slice none 0 0, [], [], hg, hge, rfl, Own.nil _ _ _ _, (fun k hk => by cases hk), Own.nil _ _ _ _, (fun k hk => by cases hk), Each.nil _ _ _, Each.nil _ _ _⟩, ?_⟩, fun h => by omega, hb⟩
   rintro k rfl
   exact ⟨hge, hlt, fun h => h⟩
theorem letter_any (w : World) (S : Nat → Prop) (l : List UInt8) (v : Value) (s : Int) (hv : Sl w S l v) (hl : l.length ≤ 140737488355328) :
  Calls Tryd.prog 83 #[.agg #[v], .int .i64 s] w fun e w' => ∃ u, e = .returned (.agg #[.int .i64 s, .int .i64 0, u]) ∧ OwnB w' w.heap.size l u ∧ Below w.heap.size w w' := by
 have hv0 := hv.old
 clear hv
 obtain ⟨va, vn, vc, rfl⟩ := Sl.shape hv0
 go_enter Tryd.func83, Tryd.ntmps83
 go_wp2_with (first | ((with_reducible apply ugZ); rfl) | ((with_reducible (first | apply len_B | apply len_PB | apply len_PQ | apply len_L | apply len_Bat | apply len_Qst | apply len_H)); assumption) | ((with_reducible refine stop_ig kC ?_ ?_); rfl))
 refine Stop.go (blk_box (cs := #[.slice va vn vc]) rfl fun g w1 hg hge hb1 => ?_)
 have hv1 := hv0.below hb1 (Nat.le_refl _)
 have s1 := hb1.size
 go_wp2_with (first | ((with_reducible apply ugZ); rfl) | ((with_reducible (first | apply len_B | apply len_PB | apply len_PQ | apply len_L | apply len_Bat | apply len_Qst | apply len_H)); assumption) | ((with_reducible refine stop_ig kC ?_ ?_); rfl))
 refine Stop.go (blk_alloc (z := .agg #[.int .i64 0, .int .i64 0, .slice none 0 0]) (cs := #[.int .i64 0, .int .i64 0, .slice none 0 0]) (zero_run (by kernel_rfl)) rfl fun r w2 hr hre hb2 => ?_)
 have hg2 := hg.below hb2 hg.lt
 have hv2 := hv1.below hb2 (by omega)
 have hb2' := below_on hb1 hb2 hb1.size
 have s2 := hb2'.size
 clear hv0 hv1 hb1 hb2 hg
 go_wp2_with (first | ((with_reducible apply ugZ); rfl) | ((with_reducible (first | apply len_B | apply len_PB | apply len_PQ | apply len_L | apply len_Bat | apply len_Qst | apply len_H)); assumption) | ((with_reducible refine stop_ig kC ?_ ?_); rfl))
 refine Stop.go (blk_load (.slice va vn vc) oneB hg2 rfl rfl ?_)
 go_wp2_with (first | ((with_reducible apply ugZ); rfl) | ((with_reducible (first | apply len_B | apply len_PB | apply len_PQ | apply len_L | apply len_Bat | apply len_Qst | apply len_H)); assumption) | ((with_reducible refine stop_ig kC ?_ ?_); rfl))
 refine (clone_any w2 _ l _ hv2 hl).mono ?_
 rintro e w3 ⟨u, rfl, hu, hb3⟩
 have hr3 := hr.below hb3 hr.lt
 have hb3' := below_on hb2' hb3 hb2'.size
 have hrl := hr.lt
 obtain ⟨ua, un, uc, rfl⟩ := Own.shape hu
 clear hr hg2 hv2 hb2' hb3
 go_wp2_with (first | ((with_reducible apply ugZ); rfl) | ((with_reducible (first | apply len_B | apply len_PB | apply len_PQ | apply len_L | apply len_Bat | apply len_Qst | apply len_H)); assumption) | ((with_reducible refine stop_ig kC ?_ ?_); rfl))
 refine Stop.go (blk_store_all (cs' := #[.int .i64 s, .int .i64 0, .slice ua un uc]) hr3 rfl rfl (by kernel_rfl) rfl (by simp [Value.oneCell']) fun w4 hr4 ho hz => ?_)
 have hb4 := below_only hb3' ho (by rintro k rfl; omega)
 have hu4 := hu.only ho (by rintro b hb rfl; have := (hu.ge _ hb).1; omega)
 go_wp2_with (fail)
 refine bodyPost_ret (results_cell_row rfl _ w4 r _ _ _ _ rfl hr4 Tryd.underlying158 rfl (by kernel_rfl)) rfl ?_
 exact ⟨_, rfl, hu4.rebase fun b hb => by have := (hu4.ge b hb).1; omega, hb4⟩
end Go.Proofs.YtjkffjngamagkaaDoor
