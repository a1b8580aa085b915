/- A map from numbers to numbers that the call has made. -/
import Derived.Test.YtjkffjngamagkaaDoorGen2
import Derived.Maps.OwnOps
import Derived.Maps.Views
namespace Go.Proofs.YtjkffjngamagkaaDoor
open Go Go.RowKit Go.Arm
theorem u64_keyed : Go.Maps.Keyed Tryd.prog 26 := Go.Maps.int_keyed Tryd.underlying26
theorem u64_zero (w : World) : (zeroValue 26).run Tryd.prog w = .ok (.int .u64 0) w := by kernel_rfl
theorem u64_wf (x : UInt64) : (Lit.int .u64 (x.toNat : Int)).wf = true := by
  have := x.toNat_lt
  simp [Lit.wf, IntKind.min, IntKind.max, IntKind.bits, IntKind.signed]
  omega
def ukey (x : UInt64) : Lit := .int .u64 (x.toNat : Int)
theorem ukey_inj {x y : UInt64} (h : ukey x = ukey y) : x = y := by
  unfold ukey at h
  simp only [Lit.int.injEq, true_and] at h
  exact UInt64.toNat_inj.1 (by omega)
/-- Block b is a map of at most n entries, in which each number has what f says (0: nothing). -/
def DoneM (w : World) (b n : Nat) (f : UInt64 → UInt64) : Prop :=
  ∃ D : DataW Unit, w.ownsMap Tryd.prog 26 (plainElem Tryd.prog 26) b n D ∧ Go.Maps.IsMap D ∧ ∀ x, D.atKey (ukey x) (.lit (.int .u64 0)) = .lit (.int .u64 ((f x).toNat : Int))
theorem DoneM.new (w : World) : DoneM (w.alloc (.map #[] 0)) w.heap.size 0 (fun _ => 0) := ⟨.map [], World.ownsMap_made _ _ _ _, ⟨[], rfl⟩, fun _ => rfl⟩
theorem DoneM.lt {w : World} {b n : Nat} {f : UInt64 → UInt64} (h : DoneM w b n f) : b < w.heap.size := by obtain ⟨D, h1, _⟩ := h; exact h1.lt
theorem DoneM.keep {w w' : World} {b n : Nat} {f : UInt64 → UInt64} (h : DoneM w b n f) (hb : w'.heap[b]? = w.heap[b]?) : DoneM w' b n f := by
  obtain ⟨D, ⟨es, clock, h1, h2⟩, h3⟩ := h
  exact ⟨D, ⟨es, clock, hb.trans h1, h2⟩, h3⟩
theorem DoneM.mono {w : World} {b n n' : Nat} {f : UInt64 → UInt64} (h : DoneM w b n f) (hn : n ≤ n') : DoneM w b n' f := by
  obtain ⟨D, h1, h3⟩ := h
  exact ⟨D, h1.mono hn, h3⟩
section
variable {ops : Array Oper} {Q : Exit → Act → World → Prop} {a : Act} {w : World} {rest : List Oper}
variable {dst : Option Tmp} {ty : TypeId} {pos : String} {after : Array Edge}
theorem done_look {m x : Operand} {b n : Nat} {f : UInt64 → UInt64} (hd : DoneM w b n f) (hm : a.eval m = .map (some b)) (k : UInt64) (hx : a.eval x = .int .u64 (k.toNat : Int))
    (h : wpList Tryd.prog ops Q rest (a.put dst (.int .u64 ((f k).toNat : Int))) w) : wpList Tryd.prog ops Q (⟨dst, .lookup 86 m x false, ty, pos, after, none⟩ :: rest) a w := by
  obtain ⟨D, h1, h2, h3⟩ := hd
  refine wpList_lookup_own_int _ rfl m x 86 rfl 26 26 .u64 u64_keyed Tryd.underlying86 Tryd.underlying26 (u64_zero _) b n D hm h1 _ _ hx (Go.Maps.keyOf_int_mk Tryd.underlying26 (u64_wf k)) fun c hc _ => ?_
  have e := (h3 k).symm.trans hc
  simp only [DataW.lit.injEq, Lit.int.injEq, true_and] at e
  subst e
  exact h
theorem done_put {m x v : Operand} {b n : Nat} {f : UInt64 → UInt64} (hd : DoneM w b n f) (hn : n < 1000000) (hm : a.eval m = .map (some b)) (k y : UInt64) (hx : a.eval x = .int .u64 (k.toNat : Int)) (hv : a.eval v = .int .u64 (y.toNat : Int))
    (h : ∀ w', DoneM w' b (n + 1) (fun z => if z = k then y else f z) → w.grownBy w' (some b) → wpList Tryd.prog ops Q rest (a.put dst undef) w') : wpList Tryd.prog ops Q (⟨dst, .mapUpdate 86 m x v, ty, pos, after, none⟩ :: rest) a w := by
  obtain ⟨D, h1, h2, h3⟩ := hd
  refine wpList_mapUpdate_own _ rfl m x v 86 rfl 26 26 u64_keyed Tryd.underlying86 _ b n D hm h1 (by unfold maxLen; omega) _ _ (ukey k) hx hv (Go.Maps.keyOf_int_mk Tryd.underlying26 (u64_wf k)) (.lit (.int .u64 (y.toNat : Int))) [] (plainElem_int Tryd.underlying26 (u64_wf y)) fun w' h4 h5 => h w' ⟨_, h4, ?_, fun z => ?_⟩ h5
  · obtain ⟨es, rfl⟩ := h2
    exact ⟨_, rfl⟩
  · by_cases hz : z = k
    · subst hz
      show _ = DataW.lit (.int .u64 ((if z = z then y else f z).toNat : Int))
      rw [if_pos rfl]
      exact Go.Maps.atKey_put_same h2 (by trivial) _ _
    · show _ = DataW.lit (.int .u64 ((if z = k then y else f z).toNat : Int))
      rw [if_neg hz, Go.Maps.atKey_put_other (fun e => hz (ukey_inj e))]
      exact h3 z
end
end Go.Proofs.YtjkffjngamagkaaDoor
