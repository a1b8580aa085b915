/- package scroll: the Reader; its small methods. -/
import Derived.Test.YtnkbfelnggompaaDoorTake
import Derived.Test.YtnkbfelnggompaaDoorClone
namespace Go.Proofs.YtnkbfelnggompaaDoor
open Go Go.RowKit Go.Arm

/-- Block g holds a Reader: what it has yet to read is l (its bytes lie in S); e: what went wrong. -/
def Rd (w : World) (g : Nat) (S : Nat → Prop) (l : List UInt8) (e : Int) : Prop :=
  ∃ v, w.heap[g]? = some (.cells #[v, .int .i64 e] 117 (0, 0)) ∧ Sl w S l v ∧ ¬ S g

theorem Rd.lt {w : World} {g : Nat} {S : Nat → Prop} {l : List UInt8} {e : Int} (h : Rd w g S l e) : g < w.heap.size := by
  obtain ⟨v, h1, _⟩ := h
  exact (Array.getElem?_eq_some_iff.1 h1).1

theorem Rd.only {w w' : World} {F : Nat → Prop} {g : Nat} {S : Nat → Prop} {l : List UInt8} {e : Int} (h : Rd w g S l e) (ho : Only F w w') (hg : ¬ F g) (hS : ∀ b, S b → b < w.heap.size → ¬ F b) : Rd w' g S l e := by
  have hlt := h.lt
  obtain ⟨v, h1, h2, h3⟩ := h
  exact ⟨v, by rw [ho.block g hlt hg]; exact h1, h2.only ho hS, h3⟩

theorem Rd.drewN {w : World} {g : Nat} {S : Nat → Prop} {l : List UInt8} {e : Int} (h : Rd w g S l e) (n : Nat) : Rd (w.drewN n) g S l e := by
  obtain ⟨v, h1, h2, h3⟩ := h
  exact ⟨v, h1, h2.drewN n, h3⟩

theorem Only.drewN (F : Nat → Prop) (w : World) (n : Nat) : Only F w (w.drewN n) := ⟨rfl, rfl, rfl, Nat.le_refl _, fun _ _ _ => rfl⟩

theorem Rd.set_p {w : World} {g : Nat} {S : Nat → Prop} {l : List UInt8} {e : Int} {v u : Value} (h1 : w.heap[g]? = some (.cells #[v, .int .i64 e] 117 (0, 0))) (hu : Sl w S l u) (hS : ¬ S g) :
    Rd (w.setCell ⟨g, 0, none⟩ u) g S l e :=
  ⟨u, by simp [World.setCell, Array.getElem?_modify, h1], hu.only (Only.of_set w ⟨g, 0, none⟩ u) (fun b hb _ (e : b = g) => hS (e ▸ hb)), hS⟩

theorem Rd.set_bad {w : World} {g : Nat} {S : Nat → Prop} {l : List UInt8} {e e' : Int} (h : Rd w g S l e) :
    Rd (w.setCell ⟨g, 1, none⟩ (.int .i64 e')) g S l e' := by
  obtain ⟨v, h1, h2, h3⟩ := h
  exact ⟨v, by simp [World.setCell, Array.getElem?_modify, h1], h2.only (Only.of_set w ⟨g, 1, none⟩ _) (fun b hb _ (e : b = g) => h3 (e ▸ hb)), h3⟩

theorem fail_any (w : World) (g : Nat) (S : Nat → Prop) (l : List UInt8) (e0 e1 : Int) (hr : Rd w g S l e0) :
    Calls Tryd.prog 92 #[.pointer (some ⟨g, 0, none⟩), .int .i64 e1] w fun e w' => (∃ r, e = .returned r) ∧ Rd w' g S l (if e0 = 0 then e1 else e0) ∧ Only (· = g) w w' := by
  have h' := hr
  obtain ⟨v, a1, a2, a3⟩ := h'
  have c1 : w.cell? ⟨g, 1, none⟩ = some (.int .i64 e0) := by simp [World.cell?, a1]
  have f1 : w.frozen? ⟨g, 1, none⟩ = false := by simp [World.frozen?, a1]
  clear a1 a2 a3
  by_cases h0 : e0 = 0
  · subst h0
    go_enter Tryd.func92, Tryd.ntmps92
    go_wp2_with (first | ((with_reducible apply wpList_unguard); rfl) | (with_reducible refine stop_make ?_) | ((with_reducible apply len_B); assumption) | ((with_reducible apply len_BB); assumption)  | ((with_reducible apply len_N); assumption) | ((with_reducible apply len_V); assumption) | ((with_reducible apply len_VV); assumption)  | (with_reducible refine stop_builtin ?_) | (with_reducible refine stop_slice ?_) | (with_reducible refine stop_index_B ?_) | (with_reducible refine stop_index_BB ?_)  | (with_reducible refine stop_index_N ?_) | (with_reducible refine stop_index_V ?_) | (with_reducible refine stop_index_VV ?_)  | (with_reducible refine stop_str_B ?_) | (with_reducible refine stop_mark_B ?_) | (with_reducible refine stop_buildSlice ?_))
    refine bodyPost_end (results_none rfl _ _ _) rfl ?_
    exact ⟨⟨_, rfl⟩, hr.set_bad, Only.of_set w ⟨g, 1, none⟩ _⟩
  · have hb : (e0 == 0) = false := beq_eq_false_iff_ne.2 h0
    go_enter Tryd.func92, Tryd.ntmps92
    go_wp2_with (first | ((with_reducible apply wpList_unguard); rfl) | (with_reducible refine stop_make ?_) | ((with_reducible apply len_B); assumption) | ((with_reducible apply len_BB); assumption)  | ((with_reducible apply len_N); assumption) | ((with_reducible apply len_V); assumption) | ((with_reducible apply len_VV); assumption)  | (with_reducible refine stop_builtin ?_) | (with_reducible refine stop_slice ?_) | (with_reducible refine stop_index_B ?_) | (with_reducible refine stop_index_BB ?_)  | (with_reducible refine stop_index_N ?_) | (with_reducible refine stop_index_V ?_) | (with_reducible refine stop_index_VV ?_)  | (with_reducible refine stop_str_B ?_) | (with_reducible refine stop_mark_B ?_) | (with_reducible refine stop_buildSlice ?_))
    refine bodyPost_end (results_none rfl _ _ _) rfl ?_
    exact ⟨⟨_, rfl⟩, hr, Only.refl _ _⟩
end Go.Proofs.YtnkbfelnggompaaDoor
