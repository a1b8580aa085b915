/- armillarylaw19: awake. -/
import Derived.Test.YtjkffjngamagkaaDoorCal8
namespace Go.Arm
open Go.RowKit
def op1 : OpR := ⟨1, []⟩
theorem put1_code (s : Int) (num : UInt64) (B Q : List WantR) (h : nright (askN num [op1]) = true) (h1 : (B.any fun x => x.note.batch == num) = false) (h2 : B.length < 64) : (⟨s, B, Q⟩ : CallR).putCode num [op1] = 0 := by
 unfold CallR.putCode
 rw [if_neg (by simp [h]), if_neg (by simp [h1]), if_neg (by show ¬ 64 ≤ B.length; omega)]
theorem put_done (c : CallR) (num : UInt64) (l : List OpR) (h : c.putCode num l = 0) : c.put num l = { c with B := c.B ++ [newW (askN num l)] } := by unfold CallR.put; rw [if_pos h]
theorem putL_done (c : CallR) (num : UInt64) (l : List OpR) (h : c.putCode num l = 0) : c.putL num l = [letOf c.self (askN num l)] := by unfold CallR.putL; rw [if_pos h]
theorem Ok0 (s : Int) : (⟨s, [], []⟩ : CallR).Ok := ⟨by simp, by simp, by simp, by simp⟩
theorem aw_right5 : nright (askN 5 [op1]) = true := by decide +kernel
def rep1 : NoteR := { zeroN with kind := 2, batch := 5, stamp := 1 }
theorem aw_right : nright (fewN rep1) = true := by decide +kernel
theorem aw_code : (⟨5, [], []⟩ : CallR).putCode 5 [op1] = 0 := put1_code 5 5 [] [] aw_right5 rfl (by simp)
theorem aw_one : (⟨5, [], []⟩ : CallR).put 5 [op1] = ⟨5, [newW (askN 5 [op1])], []⟩ := put_done _ _ _ aw_code
theorem aw_two : (⟨5, [newW (askN 5 [op1])], []⟩ : CallR).hearN 0 rep1 = ⟨5, [⟨askN 5 [op1], true, 0, 1, []⟩], []⟩ := by
 unfold CallR.hearN
 rw [if_pos ⟨aw_right, rfl⟩]
 rfl
end Go.Arm
namespace Go.Proofs.YtjkffjngamagkaaDoor
open Go Go.RowKit Go.Arm
set_option maxHeartbeats 4000000 in
set_option maxRecDepth 100000 in
theorem awake19_any (w : World) (hN : Srt w) (hB : Nib w) : Calls Tryd.prog 27 #[] w fun e w' => e = .returned (.bool true) ∧ Below w.heap.size w w' := by
 go_enter Tryd.func27, Tryd.ntmps27
 go_wp2_with (first | ((with_reducible apply ugZ); rfl) | ((with_reducible (first | apply len_B | apply len_PB | apply len_PQ | apply len_L | apply len_Bat | apply len_Qst | apply len_H)); assumption) | ((with_reducible refine stop_ig kC ?_ ?_); rfl))
 refine (new_has w 5 (by decide) (by decide)).mono ?_
 rintro e w1 ⟨g, rfl, hc1, ha1⟩
 have s1 := ha1.size
 go_wp2_with (first | ((with_reducible apply ugZ); rfl) | ((with_reducible (first | apply len_B | apply len_PB | apply len_PQ | apply len_L | apply len_Bat | apply len_Qst | apply len_H)); assumption) | ((with_reducible refine stop_ig kC ?_ ?_); rfl))
 refine Stop.go (wpList_lit1 (α := OpR) (S := fun _ => False) rowO rfl (by decide) (by decide) op1 rfl ⟨.slice none 0 0, rfl, Sl.nil _ _⟩ fun vo w2 m1 m2 m3 m4 => ?_)
 have ha2 := ha1.grown0 m2 s1
 have hc2 := hc1.below (below_of_grown m2 (Nat.le_refl _) (by simp)) (Nat.le_refl _)
 have ho := m1.sl'
 have s2 := ha2.size
 have hput := put_has w2 (hN.below ha2 (Nat.le_refl _)) (hB.below ha2 (Nat.le_refl _)) w.heap.size g _ ⟨5, [], []⟩ 5 [op1] vo hc2 s2 ho (Ok0 5)
 rw [putL_done _ _ _ aw_code, aw_code, aw_one] at hput
 obtain ⟨c1, hc1e⟩ : ∃ c1 : CallR, c1 = ⟨5, [newW (askN 5 [op1])], []⟩ := ⟨_, rfl⟩
 have hok1 : c1.Ok := by rw [hc1e, ← aw_one]; exact (Ok0 5).put _ _
 rw [← hc1e] at hput
 clear hc1 ha1 m1 m2 m3 m4 hc2 ho
 go_wp2_with (first | ((with_reducible apply ugZ); rfl) | ((with_reducible (first | apply len_B | apply len_PB | apply len_PQ | apply len_L | apply len_Bat | apply len_Qst | apply len_H)); assumption) | ((with_reducible refine stop_ig kC ?_ ?_); rfl))
 refine hput.mono ?_
 clear hput
 rintro e w3 ⟨a1, p1, rfl, hc3, hb3⟩
 have ha3 := ha2.trans hb3
 have s3 := ha3.size
 have hwake := wake_has w3 _ g c1 hc3 hok1
 have hl1 : c1.wake.length = 1 := by rw [hc1e]; rfl
 rw [hl1] at hwake
 go_wp2_with (first | ((with_reducible apply ugZ); rfl) | ((with_reducible (first | apply len_B | apply len_PB | apply len_PQ | apply len_L | apply len_Bat | apply len_Qst | apply len_H)); assumption) | ((with_reducible refine stop_ig kC ?_ ?_); rfl))
 refine hwake.mono ?_
 clear hwake
 rintro e w4 ⟨a2, p2, rfl, hb4⟩
 have ha4 := below_on ha3 hb4 s3
 have hc4 := hc3.below hb4 (Nat.le_refl _)
 have hbody := body_any w4 (hN.below ha4 (Nat.le_refl _)) (hB.below ha4 (Nat.le_refl _)) (fun _ => False) rep1 _ (Nt.flat w4 _ rep1 rfl rfl rfl rfl i64_zero i64_zero i64_zero i64_zero)
 clear hb4 hc3
 go_wp2_with (first | ((with_reducible apply ugZ); rfl) | ((with_reducible (first | apply len_B | apply len_PB | apply len_PQ | apply len_L | apply len_Bat | apply len_Qst | apply len_H)); assumption) | ((with_reducible refine stop_ig kC ?_ ?_); rfl))
 refine hbody.mono ?_
 clear hbody
 rintro e w5 ⟨pv, rfl, hpv, hb5⟩
 have ha5 := below_on ha4 hb5 ha4.size
 have hc5 := hc4.below hb5 (Nat.le_refl _)
 have hhear := hear_has w5 (hN.below ha5 (Nat.le_refl _)) (hB.below ha5 (Nat.le_refl _)) _ g _ c1 0 rep1 pv hc5 ha5.size hpv.sl' hok1
 have hok2 := hok1.hearN 0 rep1
 obtain ⟨c2, hc2e⟩ : ∃ c2 : CallR, c2 = c1.hearN 0 rep1 := ⟨_, rfl⟩
 rw [← hc2e] at hhear hok2
 rw [hc1e, aw_two] at hc2e
 go_wp2_with (first | ((with_reducible apply ugZ); rfl) | ((with_reducible (first | apply len_B | apply len_PB | apply len_PQ | apply len_L | apply len_Bat | apply len_Qst | apply len_H)); assumption) | ((with_reducible refine stop_ig kC ?_ ?_); rfl))
 refine hhear.mono ?_
 clear hhear
 rintro e w6 ⟨rfl, hc6, hb6⟩
 have ha6 := ha5.trans hb6
 have hbat := batches_has w6 _ g c2 hc6 hok2
 have hbl : c2.B.map WantR.bat = [⟨5, true, 0, 1⟩] := by rw [hc2e]; rfl
 rw [hbl] at hbat
 have HBL := Lib.hid hbl
 clear hbl
 go_wp2_with (first | ((with_reducible apply ugZ); rfl) | ((with_reducible (first | apply len_B | apply len_PB | apply len_PQ | apply len_L | apply len_Bat | apply len_Qst | apply len_H)); assumption) | ((with_reducible refine stop_ig kC ?_ ?_); rfl))
 refine hbat.mono ?_
 clear hbat
 rintro e w7 ⟨bv, rfl, hbv, hb7⟩
 have ha7 := below_on ha6 hb7 ha6.size
 have hc7 := hc6.below hb7 (Nat.le_refl _)
 have hidle := idle_has w7 _ g c2 hc7 hok2
 have hwl : (c2.wake.length == 0) = true := by rw [hc2e]; rfl
 rw [hwl] at hidle
 have hbv' := hbv
 obtain ⟨ba, bc, bcs, rfl, rst⟩ := hbv'
 clear rst
 clear HBL hwl hc1e hc2e
 go_wp2_with (first | ((with_reducible apply ugZ); rfl) | ((with_reducible (first | apply len_B | apply len_PB | apply len_PQ | apply len_L | apply len_Bat | apply len_Qst | apply len_H)); assumption) | ((with_reducible refine stop_ig kC ?_ ?_); rfl))
 refine Stop.go (idx_Bat (n := 0) (l := [⟨5, true, 0, 1⟩]) hbv rfl (by simp) (by simp) fun b o y hy q0 q1 q2 q3 => ?_)
 have hy : y = ⟨5, true, 0, 1⟩ := by simpa using hy.symm
 subst hy
 go_wp2_with (first | ((with_reducible apply ugZ); rfl) | ((with_reducible (first | apply len_B | apply len_PB | apply len_PQ | apply len_L | apply len_Bat | apply len_Qst | apply len_H)); assumption) | ((with_reducible refine stop_ig kC ?_ ?_); rfl))
 refine Stop.go (cell_load oneBool q1 rfl ?_)
 go_wp2_with (first | ((with_reducible apply ugZ); rfl) | ((with_reducible (first | apply len_B | apply len_PB | apply len_PQ | apply len_L | apply len_Bat | apply len_Qst | apply len_H)); assumption) | ((with_reducible refine stop_ig kC ?_ ?_); rfl))
 refine Stop.go (idx_Bat (n := 0) (l := [⟨5, true, 0, 1⟩]) hbv rfl (by simp) (by simp) fun b2 o2 y hy r0 r1 r2 r3 => ?_)
 have hy : y = ⟨5, true, 0, 1⟩ := by simpa using hy.symm
 subst hy
 go_wp2_with (first | ((with_reducible apply ugZ); rfl) | ((with_reducible (first | apply len_B | apply len_PB | apply len_PQ | apply len_L | apply len_Bat | apply len_Qst | apply len_H)); assumption) | ((with_reducible refine stop_ig kC ?_ ?_); rfl))
 refine Stop.go (cell_load oneU64 r3 rfl ?_)
 go_wp2_with (first | ((with_reducible apply ugZ); rfl) | ((with_reducible (first | apply len_B | apply len_PB | apply len_PQ | apply len_L | apply len_Bat | apply len_Qst | apply len_H)); assumption) | ((with_reducible refine stop_ig kC ?_ ?_); rfl))
 refine hidle.mono ?_
 rintro e w8 ⟨rfl, hb8⟩
 have ha8 := below_on ha7 hb8 ha7.size
 go_wp2_with (fail)
 go_ret
 exact ⟨rfl, ha8⟩
end Go.Proofs.YtjkffjngamagkaaDoor
