/- package note: Same. -/
import Derived.Test.YtjkffjngamagkaaDoorPackF
import Derived.Deep.DeepCutAuto
namespace Go.Proofs.YtjkffjngamagkaaDoor
open Go Go.RowKit Go.Arm
theorem note_ext {n m : NoteR} (h0 : n.kind = m.kind) (h1 : n.txn = m.txn) (h2 : n.batch = m.batch) (h3 : n.stamp = m.stamp) (h4 : n.after = m.after) (h5 : n.mark = m.mark) (h6 : n.query = m.query) (h7 : n.id = m.id) (h8 : n.k = m.k) (h9 : n.ef = m.ef) (h10 : n.code = m.code) (h11 : n.who = m.who) (l1 : n.parts = m.parts) (l2 : n.ops = m.ops) (l3 : n.vec = m.vec) (l4 : n.hits = m.hits) : n = m := by
 cases n; cases m; simp_all
end Go.Proofs.YtjkffjngamagkaaDoor
