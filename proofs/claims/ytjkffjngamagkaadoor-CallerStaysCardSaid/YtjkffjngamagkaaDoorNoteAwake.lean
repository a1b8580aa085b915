/- armillarylaw12: awake. -/
import Derived.Test.YtjkffjngamagkaaDoorNotePack
namespace Go.Arm
open Go.RowKit
def zeroN : NoteR := ⟨0, 0, 0, 0, 0, 0, 0, 0, 0, 0, 0, 0, [], [], [], []⟩
def ackN : NoteR := { zeroN with kind := 6, txn := 5 }
theorem ack_right : nright ackN = true := by decide +kernel
theorem ack_frame : (frame (encNote ackN)).length = 8 ∧ (frame (encNote ackN))[6]? = some 6 ∧ (frame (encNote ackN))[7]? = some 5 := by decide +kernel
theorem gone_name : (⟨(sortName 22).toArray⟩ : ByteArray) = ⟨#[71, 111, 110, 101]⟩ := by decide +kernel
end Go.Arm
namespace Go.Proofs.YtjkffjngamagkaaDoor
open Go Go.RowKit Go.Arm
theorem Nt.flat (w : World) (S : Nat → Prop) (n : NoteR) (hp : n.parts = []) (ho : n.ops = []) (hv : n.vec = []) (hh : n.hits = []) (hk : I64 n.k) (he : I64 n.ef) (hc : I64 n.code) (hw : I64 n.who) : Nt w S n (noteV n (.slice none 0 0) (.slice none 0 0) (.slice none 0 0) (.slice none 0 0)) :=
  ⟨_, _, _, _, rfl, by rw [hp]; exact Sl.nil _ _, by rw [ho]; exact Sl.nil _ _, by rw [hv]; exact Sl.nil _ _, by rw [hh]; exact Sl.nil _ _, hk, he, hc, hw⟩
theorem i64_zero : I64 0 := by unfold I64; omega

set_option maxRecDepth 100000 in
theorem awake12_any (w : World) (hN : Srt w) (hB : Nib w) : Calls Tryd.prog 12 #[] w fun e w' => e = .returned (.bool true) ∧ Below w.heap.size w w' := by
  have hc := npack_any w (fun _ => False) ackN _ hN hB (Nt.flat w _ ackN rfl rfl rfl rfl i64_zero i64_zero i64_zero i64_zero)
  rw [ack_right] at hc
  simp only [if_true] at hc
  obtain ⟨hl, h6, h7⟩ := ack_frame
  generalize frame (encNote ackN) = F at hc hl h6 h7
  have Hl := Lib.hid hl
  have H6 := Lib.hid h6
  have H7 := Lib.hid h7
  have HC := Lib.hid hc
  clear hl h6 h7 hc
  go_enter Tryd.func12, Tryd.ntmps12
  go_wp2_with (first | ((with_reducible apply wpList_unguard); rfl) | ((with_reducible (first | apply len_B | apply len_BB | apply len_N | apply len_V | apply len_VV | apply len_P | apply len_O | apply len_H)); assumption) | ((with_reducible refine stop_if kT ?_ ?_); rfl))
  refine (HC.out).mono ?_
  rintro e w1 ⟨v, rfl, hv, hb1⟩
  clear HC
  have hvs := hv.sl'
  have hlF : F.length = 8 := Hl.out
  have hlI : (F.length : Int) = 8 := by omega
  clear hv
  go_wp2_with (first | ((with_reducible apply wpList_unguard); rfl) | ((with_reducible (first | apply len_B | apply len_BB | apply len_N | apply len_V | apply len_VV | apply len_P | apply len_O | apply len_H)); assumption) | ((with_reducible refine stop_if kT ?_ ?_); rfl))
  refine Stop.go (idx_B hvs rfl (by omega) (by omega) fun b3 o3 y3 hy hcell => ?_)
  obtain rfl : y3 = 6 := Option.some.inj (hy.symm.trans H6.out)
  clear hy
  go_wp2_with (first | ((with_reducible apply wpList_unguard); rfl) | ((with_reducible (first | apply len_B | apply len_BB | apply len_N | apply len_V | apply len_VV | apply len_P | apply len_O | apply len_H)); assumption) | ((with_reducible refine stop_if kT ?_ ?_); rfl))
  refine Stop.go (idx_B hvs rfl (by omega) (by omega) fun b4 o4 y4 hy hcell2 => ?_)
  obtain rfl : y4 = 5 := Option.some.inj (hy.symm.trans H7.out)
  clear hy
  go_wp2_with (first | ((with_reducible apply wpList_unguard); rfl) | ((with_reducible (first | apply len_B | apply len_BB | apply len_N | apply len_V | apply len_VV | apply len_P | apply len_O | apply len_H)); assumption) | ((with_reducible refine stop_if kT ?_ ?_); rfl))
  refine (nname_any w1 22 (hN.below hb1 (Nat.le_refl _)) (by decide)).mono ?_
  rintro e w2 ⟨rfl, hb2⟩
  rw [gone_name]
  go_wp2_with (first | ((with_reducible apply wpList_unguard); rfl) | ((with_reducible (first | apply len_B | apply len_BB | apply len_N | apply len_V | apply len_VV | apply len_P | apply len_O | apply len_H)); assumption) | ((with_reducible refine stop_if kT ?_ ?_); rfl))
  go_ret
  exact ⟨rfl, below_on hb1 hb2 hb1.size⟩
end Go.Proofs.YtjkffjngamagkaaDoor
