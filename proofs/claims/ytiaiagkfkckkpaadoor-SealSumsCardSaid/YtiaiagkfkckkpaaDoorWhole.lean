/- whole: the first six parts, each cut; and all of them. -/
import Derived.Test.YtiaiagkfkckkpaaDoorRefSeal
import Derived.Test.YtiaiagkfkckkpaaDoorTwo
namespace Go.Proofs.YtiaiagkfkckkpaaDoor
open Go Go.RowKit Go.Arm

def parts6 (L : List (List UInt8)) : List (List UInt8) := (L.take 6).map (·.take 1000)

theorem parts6_len (L : List (List UInt8)) : (parts6 L).length ≤ 6 := by simp [parts6]; omega

theorem flatten_le (k : Nat) : ∀ L : List (List UInt8), (∀ x ∈ L, x.length ≤ k) → L.flatten.length ≤ L.length * k
  | [], _ => by simp
  | x :: L, h => by
    have h1 := h x (by simp)
    have h2 := flatten_le k L fun y hy => h y (by simp [hy])
    rw [List.flatten_cons, List.length_append, List.length_cons, Nat.add_mul]
    omega

theorem parts6_flat (L : List (List UInt8)) : (parts6 L).flatten.length ≤ 6000 := by
  have h := flatten_le 1000 (parts6 L) (by
    intro x hx
    obtain ⟨y, _, rfl⟩ := List.mem_map.1 hx
    simp; omega)
  have := parts6_len L
  omega

theorem parts6_snoc (L : List (List UInt8)) (n : Nat) (y : List UInt8) (hy : L[n]? = some y) : parts6 (L.take (n + 1)) = if n < 6 then parts6 (L.take n) ++ [y.take 1000] else parts6 (L.take n) := by
  by_cases h : n < 6
  · rw [if_pos h, take_snoc L n y hy]
    have hl : n < L.length := (List.getElem?_eq_some_iff.1 hy).1
    unfold parts6
    rw [List.take_take, List.take_of_length_le (l := L.take n ++ [y]) (by simp; omega), show min 6 n = n by omega]
    simp
  · rw [if_neg h]
    unfold parts6
    rw [List.take_take, List.take_take]
    congr 2
    omega

theorem whole_any (w : World) (S : Nat → Prop) (L : List (List UInt8)) (p : Value) (hp : Sl w S L p) :
    Calls Tryd.prog 11 #[p] w fun e w' => ∃ v x T, e = .returned (.tuple #[v, x]) ∧ Two w' w.heap.size T (parts6 L) (parts6 L).flatten v x ∧ Below w.heap.size w w' := by
  have hm : L.length ≤ 9223372036854775807 := hp.length_le
  go_enter Tryd.func11, Tryd.ntmps11
  go_wp2_with (first | ((with_reducible apply wpList_unguard); rfl) | ((with_reducible apply len_B); assumption) | ((with_reducible apply len_BB); assumption)  | (with_reducible refine stop_builtin ?_) | (with_reducible refine stop_slice ?_) | (with_reducible refine stop_index_B ?_) | (with_reducible refine stop_index_BB ?_)  | (with_reducible refine stop_str_B ?_) | (with_reducible refine stop_mark_B ?_) | (with_reducible refine stop_buildSlice ?_))
  go_loopg [4, 5, 10] (L.length + 1) (fun k v x i wr => ∃ (n : Nat) (T : Nat → Prop), k = L.length - n + 1 ∧ n ≤ L.length ∧ i = .int .i64 n ∧ Two wr w.heap.size T (parts6 (L.take n)) (parts6 (L.take n)).flatten v x ∧ Below w.heap.size w wr)
  case atStart => exact ⟨0, _, by omega, by omega, rfl, by simpa [parts6] using Two.nil _ _, Below.refl _ _⟩
  case round =>
    obtain ⟨n, T, hk, hn, rfl, h2, hb⟩ := hrel
    have Hk := Lib.hid hk
    clear hk
    have hs := hb.size
    have hp1 := hp.below hb (Nat.le_refl _)
    by_cases hlt : n < L.length
    · obtain ⟨y, hy⟩ : ∃ y, L[n]? = some y := ⟨_, List.getElem?_eq_getElem hlt⟩
      have hsn := parts6_snoc L n y hy
      obtain ⟨P0, hP0⟩ : ∃ P0, P0 = parts6 (L.take n) := ⟨_, rfl⟩
      have hpl : P0.length ≤ 6 := by rw [hP0]; exact parts6_len _
      have hpf : P0.flatten.length ≤ 6000 := by rw [hP0]; exact parts6_flat _
      rw [← hP0] at h2 hsn
      clear hP0
      have Hsn := Lib.hid hsn
      have Hy := Lib.hid hy
      clear hsn hy
      by_cases h6 : n < 6
      · go_wp2_with (first | ((with_reducible apply wpList_unguard); rfl) | ((with_reducible apply len_B); assumption) | ((with_reducible apply len_BB); assumption)  | (with_reducible refine stop_builtin ?_) | (with_reducible refine stop_slice ?_) | (with_reducible refine stop_index_B ?_) | (with_reducible refine stop_index_BB ?_)  | (with_reducible refine stop_str_B ?_) | (with_reducible refine stop_mark_B ?_) | (with_reducible refine stop_buildSlice ?_))
        refine Stop.go (idx_BB hp1 rfl (by omega) (by omega) fun b o y' u hy' hu hcell => ?_)
        obtain rfl : y' = y := Option.some.inj (hy'.symm.trans (by rw [show Int.toNat (n : Int) = n by omega]; exact Hy.out))
        clear hy'
        go_wp2_with (first | ((with_reducible apply wpList_unguard); rfl) | ((with_reducible apply len_B); assumption) | ((with_reducible apply len_BB); assumption)  | (with_reducible refine stop_builtin ?_) | (with_reducible refine stop_slice ?_) | (with_reducible refine stop_index_B ?_) | (with_reducible refine stop_index_BB ?_)  | (with_reducible refine stop_str_B ?_) | (with_reducible refine stop_mark_B ?_) | (with_reducible refine stop_buildSlice ?_))
        refine (cut_any wr S y' u 1000 hu (by omega) (by omega)).mono ?_
        rintro e w1 ⟨c, rfl, hc, hb1⟩
        obtain ⟨z, hz⟩ : ∃ z, z = y'.take (Int.toNat 1000) := ⟨_, rfl⟩
        have hzl : z.length ≤ 1000 := by rw [hz]; simp; omega
        have hz' : y'.take 1000 = z := hz.symm
        have Hz := Lib.hid hz'
        rw [← hz] at hc
        clear hz hz' hcell hu
        have h21 := h2.below hb1 (Nat.le_refl _)
        have hb1' := hb.trans (hb1.mono hs)
        have hs1 := hb1'.size
        have hcs := hc.sl'
        go_wp2_with (first | ((with_reducible apply wpList_unguard); rfl) | ((with_reducible apply len_B); assumption) | ((with_reducible apply len_BB); assumption)  | (with_reducible refine stop_builtin ?_) | (with_reducible refine stop_slice ?_) | (with_reducible refine stop_index_B ?_) | (with_reducible refine stop_index_BB ?_)  | (with_reducible refine stop_str_B ?_) | (with_reducible refine stop_mark_B ?_) | (with_reducible refine stop_buildSlice ?_))
        have hold4 : ∀ b, wr.heap.size ≤ b → u4.ownBlock ≠ some b := fun b hb' e => by have := (h2.one.ge b e).2; omega
        have hold5 : ∀ b, wr.heap.size ≤ b → u5.ownBlock ≠ some b := fun b hb' e => by have := (h2.two.ge b e).2; omega
        refine Stop.go (two_push (h21 : Two w1 _ _ _ _ u4 u5) (fun _ => rfl) (fun _ => rfl) hcs (fun b hb' _ => ⟨hold4 b hb', hold5 b hb'⟩) (by omega) (by omega) fun q v' w2 T' g1 g2 g3 => ?_)
        have hcs2 := hcs.grown g2 (fun b hb' => hold4 b hb')
        have hb2 := hb1'.trans g3
        have hs2 := hb2.size
        clear h21 hcs hb1 hb1' hc h2
        go_wp2_with (first | ((with_reducible apply wpList_unguard); rfl) | ((with_reducible apply len_B); assumption) | ((with_reducible apply len_BB); assumption)  | (with_reducible refine stop_builtin ?_) | (with_reducible refine stop_slice ?_) | (with_reducible refine stop_index_B ?_) | (with_reducible refine stop_index_BB ?_)  | (with_reducible refine stop_str_B ?_) | (with_reducible refine stop_mark_B ?_) | (with_reducible refine stop_buildSlice ?_))
        refine Stop.go (two_app (g1 : Two w2 _ _ _ _ v' u5) hcs2 (by omega) (by omega) fun v2 w3 g4 g5 g6 => ?_)
        have hb3 := hb2.trans g6
        go_wp2_with (first | ((with_reducible apply wpList_unguard); rfl) | ((with_reducible apply len_B); assumption) | ((with_reducible apply len_BB); assumption)  | (with_reducible refine stop_builtin ?_) | (with_reducible refine stop_slice ?_) | (with_reducible refine stop_index_B ?_) | (with_reducible refine stop_index_BB ?_)  | (with_reducible refine stop_str_B ?_) | (with_reducible refine stop_mark_B ?_) | (with_reducible refine stop_buildSlice ?_))
        go_roundg (L.length - (n + 1) + 1)
        case measure => have := Hk.out; omega
        case rel =>
          have e := Hsn.out
          rw [if_pos h6, Hz.out] at e
          refine ⟨n + 1, T', by omega, by omega, rfl, by rw [e]; simpa using g4, hb3⟩
      · go_wp2_with (first | ((with_reducible apply wpList_unguard); rfl) | ((with_reducible apply len_B); assumption) | ((with_reducible apply len_BB); assumption)  | (with_reducible refine stop_builtin ?_) | (with_reducible refine stop_slice ?_) | (with_reducible refine stop_index_B ?_) | (with_reducible refine stop_index_BB ?_)  | (with_reducible refine stop_str_B ?_) | (with_reducible refine stop_mark_B ?_) | (with_reducible refine stop_buildSlice ?_))
        refine Stop.go (idx_BB hp1 rfl (by omega) (by omega) fun b o y' u hy' hu hcell => ?_)
        go_wp2_with (first | ((with_reducible apply wpList_unguard); rfl) | ((with_reducible apply len_B); assumption) | ((with_reducible apply len_BB); assumption)  | (with_reducible refine stop_builtin ?_) | (with_reducible refine stop_slice ?_) | (with_reducible refine stop_index_B ?_) | (with_reducible refine stop_index_BB ?_)  | (with_reducible refine stop_str_B ?_) | (with_reducible refine stop_mark_B ?_) | (with_reducible refine stop_buildSlice ?_))
        go_roundg (L.length - (n + 1) + 1)
        case measure => have := Hk.out; omega
        case rel =>
          have e := Hsn.out
          rw [if_neg h6] at e
          exact ⟨n + 1, T, by omega, by omega, rfl, by rw [e]; exact h2, hb⟩
    · go_wp2_with (first | ((with_reducible apply wpList_unguard); rfl) | ((with_reducible apply len_B); assumption) | ((with_reducible apply len_BB); assumption)  | (with_reducible refine stop_builtin ?_) | (with_reducible refine stop_slice ?_) | (with_reducible refine stop_index_B ?_) | (with_reducible refine stop_index_BB ?_)  | (with_reducible refine stop_str_B ?_) | (with_reducible refine stop_mark_B ?_) | (with_reducible refine stop_buildSlice ?_))
      go_ret2
      have e : L.take n = L := List.take_of_length_le (by omega)
      rw [e] at h2
      exact ⟨_, _, T, rfl, h2, hb⟩
end Go.Proofs.YtiaiagkfkckkpaaDoor
