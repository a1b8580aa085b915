/- The shape of a note's value; frames and notes. -/
import Derived.Test.YtjkffjngamagkaaDoorNoteUnp
import Derived.Test.YtjkffjngamagkaaDoorNoteAwake
import Derived.Test.YtjkffjngamagkaaDoorPackC
namespace Go.Proofs.YtjkffjngamagkaaDoor
open Go Go.RowKit Go.Arm
theorem nunp_frame (L : Lim) (l : List UInt8) (hl : l.length ≤ 4096) : nunp L (frame l) = unp L l := by
 unfold nunp
 rw [opened_frame l hl]
 simp
theorem nt_shape {w : World} {S : Nat → Prop} {n : NoteR} {V : Value} (h : Nt w S n V) : ∃ vp vo vv vh, V = noteV n vp vo vv vh ∧ SlV vp ∧ SlV vo ∧ SlV vv ∧ SlV vh := by
 obtain ⟨vp, vo, vv, vh, rfl, h1, h2, h3, h4, _⟩ := h
 exact ⟨vp, vo, vv, vh, rfl, Sl.slv h1, Sl.slv h2, Sl.slv h3, Sl.slv h4⟩
end Go.Proofs.YtjkffjngamagkaaDoor
