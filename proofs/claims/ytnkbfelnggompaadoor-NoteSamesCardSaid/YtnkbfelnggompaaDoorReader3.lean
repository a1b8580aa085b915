/- package scroll: NewReader, Reader.Text. -/
import Derived.Test.YtnkbfelnggompaaDoorReader2
import Derived.Test.YtnkbfelnggompaaDoorCopy
namespace Go.Arm
def rtext (l : List UInt8) (e : Int) (most : Nat) : List UInt8 × List UInt8 × Int :=
  if e ≠ 0 then ([], l, e) else if (taken l most).2.2 ≠ 0 then ([], l, (taken l most).2.2)
  else if (taken l most).2.1.length < (taken l most).1 then ([], l, 2)
  else ((taken l most).2.1.take (taken l most).1, (taken l most).2.1.drop (taken l most).1, 0)
end Go.Arm
namespace Go.Proofs.YtnkbfelnggompaaDoor
open Go Go.RowKit Go.Arm

theorem new_any (w : World) (S : Nat → Prop) (l : List UInt8) (p : Value) (hp : Sl w S l p) (hl : l.length ≤ 16777216) :
    Calls Tryd.prog 43 #[p] w fun e w' => ∃ g, e = .returned (.pointer (some ⟨g, 0, none⟩)) ∧ w.heap.size ≤ g ∧ Rd w' g (fun k => w.heap.size ≤ k ∧ k ≠ g) l 0 ∧ Below w.heap.size w w' := by
  go_enter Tryd.func43, Tryd.ntmps43
  go_wp2_with (first | ((with_reducible apply wpList_unguard); rfl) | (with_reducible refine stop_make ?_) | ((with_reducible apply len_B); assumption) | ((with_reducible apply len_BB); assumption)  | ((with_reducible apply len_N); assumption) | ((with_reducible apply len_V); assumption) | ((with_reducible apply len_VV); assumption)  | (with_reducible refine stop_builtin ?_) | (with_reducible refine stop_slice ?_) | (with_reducible refine stop_index_B ?_) | (with_reducible refine stop_index_BB ?_)  | (with_reducible refine stop_index_N ?_) | (with_reducible refine stop_index_V ?_) | (with_reducible refine stop_index_VV ?_)  | (with_reducible refine stop_str_B ?_) | (with_reducible refine stop_mark_B ?_) | (with_reducible refine stop_buildSlice ?_))
  refine Stop.go (make_B rfl rfl (by omega) fun v w1 h1 h2 => ?_)
  have hb1 := below_of_grown h2 (Nat.le_refl _) (by simp)
  have hp1 := hp.grown0 h2
  obtain ⟨ao, nn, cap, rfl⟩ := Own.shape h1
  go_wp2_with (first | ((with_reducible apply wpList_unguard); rfl) | (with_reducible refine stop_make ?_) | ((with_reducible apply len_B); assumption) | ((with_reducible apply len_BB); assumption)  | ((with_reducible apply len_N); assumption) | ((with_reducible apply len_V); assumption) | ((with_reducible apply len_VV); assumption)  | (with_reducible refine stop_builtin ?_) | (with_reducible refine stop_slice ?_) | (with_reducible refine stop_index_B ?_) | (with_reducible refine stop_index_BB ?_)  | (with_reducible refine stop_index_N ?_) | (with_reducible refine stop_index_V ?_) | (with_reducible refine stop_index_VV ?_)  | (with_reducible refine stop_str_B ?_) | (with_reducible refine stop_mark_B ?_) | (with_reducible refine stop_buildSlice ?_))
  refine Stop.go (copy_B h1 hp1 (by simp) fun w2 h3 h4 => ?_)
  have h3' : OwnB w2 w.heap.size l (.slice ao nn cap) := h3
  have hb2 := hb1.grown h4 hb1.size (fun k hk => (h1.ge k hk).1)
  clear h3 h4 h1 h2
  go_wp2_with (first | ((with_reducible apply wpList_unguard); rfl) | (with_reducible refine stop_make ?_) | ((with_reducible apply len_B); assumption) | ((with_reducible apply len_BB); assumption)  | ((with_reducible apply len_N); assumption) | ((with_reducible apply len_V); assumption) | ((with_reducible apply len_VV); assumption)  | (with_reducible refine stop_builtin ?_) | (with_reducible refine stop_slice ?_) | (with_reducible refine stop_index_B ?_) | (with_reducible refine stop_index_BB ?_)  | (with_reducible refine stop_index_N ?_) | (with_reducible refine stop_index_V ?_) | (with_reducible refine stop_index_VV ?_)  | (with_reducible refine stop_str_B ?_) | (with_reducible refine stop_mark_B ?_) | (with_reducible refine stop_buildSlice ?_))
  go_ret
  have hal : Only (fun _ => False) w2 (w2.alloc (.cells #[.slice ao nn cap, .int .i64 0] 117)) :=
    (Only.of_below ((Below.refl w2.heap.size w2).alloc (Nat.le_refl _) _)).mono fun k hk h => by omega
  refine ⟨w2.heap.size, rfl, hb2.size, ⟨_, heap_alloc_new w2 _, ?_, fun h => h.2 rfl⟩, hb2.alloc hb2.size _⟩
  have h4 := h3'.only hal (fun _ _ h => h)
  refine h4.sl (fun _ h _ => h.elim) fun b hb => ?_
  have := h3'.ge b hb
  exact ⟨this.1, by omega⟩

theorem taken_len (l : List UInt8) (m : Nat) : (taken l m).2.1.length ≤ l.length := by
  unfold taken
  split
  · simp
  · split
    · simp
    · simp
end Go.Proofs.YtnkbfelnggompaaDoor
