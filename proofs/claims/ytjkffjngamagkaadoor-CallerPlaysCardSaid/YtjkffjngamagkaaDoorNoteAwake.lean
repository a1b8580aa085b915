/- armillarylaw12: awake. -/
import Derived.Test.YtjkffjngamagkaaDoorNotePack
namespace Go.Arm
open Go.RowKit
def zeroN : NoteR := ⟨0, 0, 0, 0, 0, 0, 0, 0, 0, 0, 0, 0, [], [], [], []⟩
end Go.Arm
namespace Go.Proofs.YtjkffjngamagkaaDoor
open Go Go.RowKit Go.Arm
theorem Nt.flat (w : World) (S : Nat → Prop) (n : NoteR) (hp : n.parts = []) (ho : n.ops = []) (hv : n.vec = []) (hh : n.hits = []) (hk : I64 n.k) (he : I64 n.ef) (hc : I64 n.code) (hw : I64 n.who) : Nt w S n (noteV n (.slice none 0 0) (.slice none 0 0) (.slice none 0 0) (.slice none 0 0)) :=
 ⟨_, _, _, _, rfl, by rw [hp]; exact Sl.nil _ _, by rw [ho]; exact Sl.nil _ _, by rw [hv]; exact Sl.nil _ _, by rw [hh]; exact Sl.nil _ _, hk, he, hc, hw⟩
theorem i64_zero : I64 0 := by unfold I64; omega
end Go.Proofs.YtjkffjngamagkaaDoor
