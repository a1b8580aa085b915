/- A walk stops at an operation that a test names, if it is not guarded. -/
import Derived.Test.YtjkffjngamagkaaDoorPackA
namespace Go.Arm
open Go.RowKit
theorem stop_ig {P : Program} {ops : Array Oper} {Q : Exit → Act → World → Prop} {a : Act} {w : World} {rest : List Oper} (f : Op → Bool) {o : Oper} (_ : (f o.op && o.guard.isNone) = true) (h : Stop (wpList P ops Q (o :: rest) a w) .mk) : wpList P ops Q (o :: rest) a w := h
end Go.Arm
