/- package scroll: the Writer. -/
import Derived.Test.YtnkbfelnggompaaDoorScRep
import Derived.Test.YtnkbfelnggompaaDoorMake
import Derived.Test.YtnkbfelnggompaaDoorClone
namespace Go.Proofs.YtnkbfelnggompaaDoor
open Go Go.RowKit Go.Arm

theorem or128_all : ∀ a : Fin 256, a.val ||| 128 = a.val % 128 + 128 := by decide +kernel
theorem or128 (m : Nat) : bits .or .u8 ((m : Int) % 256) 128 = ((UInt8.ofNat (m % 128 + 128)).toNat : Int) := by
  have h := (bits_of_nat .u8 rfl (m % 256) 128 (by show m % 256 < 256; omega) (by decide)).2.1
  have e := or128_all ⟨m % 256, Nat.mod_lt _ (by decide)⟩
  rw [UInt8.toNat_ofNat_of_lt' (by show m % 128 + 128 < 256; omega)]
  simp only at e
  rw [show ((m : Int) % 256) = ((m % 256 : Nat) : Int) by omega, show (128 : Int) = ((128 : Nat) : Int) from rfl, h, e]
  omega

theorem grown_new {w w1 w2 : World} {v : Value} {h : Option Nat} (hv : v.ownBlock = h) (k : w.grownBy w1 none) (g : w1.grownBy w2 v.ownBlock) : w.grownBy w2 h :=
  ⟨g.os.trans k.os, g.tape.trans k.tape, g.output.trans k.output, Nat.le_trans k.size g.size, fun j hj hne => (g.block j (Nat.lt_of_lt_of_le hj k.size) (by rw [hv]; exact hne)).trans (k.block j hj (by simp))⟩
theorem own_new {w w1 : World} {v v' : Value} {h : Option Nat} (hv : v.ownBlock = h) (k : w1.heap.size = w.heap.size + 1) (g : v'.ownBlock = v.ownBlock ∨ ∃ j, v'.ownBlock = some j ∧ w1.heap.size ≤ j) : v'.ownBlock = h ∨ ∃ j, v'.ownBlock = some j ∧ w.heap.size ≤ j := by
  rcases g with g | ⟨j, g, hj⟩
  · exact .inl (g.trans hv)
  · exact .inr ⟨j, g, by omega⟩

theorem Mv.far {w w' : World} {g : Nat} {h h' : Option Nat} (m : Mv w w' g h h') {b : Nat} (hb : b < w.heap.size) (h2 : h ≠ some b) : h' ≠ some b := by
  rcases m.1 with e | ⟨k, e, hk⟩
  · rw [e]; exact h2
  · rw [e]; intro e; cases e; omega

set_option maxRecDepth 100000 in
theorem wnum_any (w : World) (g : Nat) (h : Option Nat) (l : List UInt8) (n : Nat) (hw : Wr w g h l) (hn : n < 18446744073709551616) (hl : l.length ≤ 1099511627776) :
    Calls Tryd.prog 75 #[.pointer (some ⟨g, 0, none⟩), .int .u64 n] w fun e w' => (∃ r, e = .returned r) ∧ ∃ h', Wr w' g h' (l ++ enc n) ∧ Mv w w' g h h' := by
  go_enter Tryd.func75, Tryd.ntmps75
  go_wp2_with (first | ((with_reducible apply wpList_unguard); rfl) | ((with_reducible apply len_B); assumption) | ((with_reducible apply len_BB); assumption)  | (with_reducible refine stop_builtin ?_) | (with_reducible refine stop_slice ?_) | (with_reducible refine stop_index_B ?_) | (with_reducible refine stop_index_BB ?_)  | (with_reducible refine stop_str_B ?_) | (with_reducible refine stop_mark_B ?_) | (with_reducible refine stop_buildSlice ?_))
  go_loopg [1] (n + 1) (fun k x wr => ∃ (m : Nat) (done : List UInt8) (h' : Option Nat), k = m + 1 ∧ m ≤ n ∧ x = .int .u64 m ∧ done ++ enc m = enc n ∧ done.length + (enc m).length ≤ 10 ∧ Wr wr g h' (l ++ done) ∧ Mv w wr g h h')
  case atStart => exact ⟨n, [], h, rfl, Nat.le_refl _, rfl, rfl, by have := enc_len10 n hn; simpa using this, by simpa using hw, Mv.refl _ _ _⟩
  case round =>
    obtain ⟨m, done, h', hk, hm, rfl, hd, hlen, hwr, hmv⟩ := hrel
    have Hk := Lib.hid hk
    have Hd := Lib.hid hd
    have Hlen := Lib.hid hlen
    have hdl : done.length ≤ 10 := by omega
    have Hmv := Lib.hid hmv
    clear hk hd hlen hmv
    have hwr' := hwr
    obtain ⟨v, a1, a2, a3, a4⟩ := hwr'
    have c0 : wr.cell? ⟨g, 0, none⟩ = some v := by simp [World.cell?, a1]
    have A1 := Lib.hid a1
    have A3 := Lib.hid a3
    have A4 := Lib.hid a4
    clear a1 a3 a4
    have f0 : wr.frozen? ⟨g, 0, none⟩ = false := by simp [World.frozen?, A1.out]
    by_cases hb : 128 ≤ m
    · go_wp2_with (first | ((with_reducible apply wpList_unguard); rfl) | ((with_reducible apply len_B); assumption) | ((with_reducible apply len_BB); assumption)  | (with_reducible refine stop_builtin ?_) | (with_reducible refine stop_slice ?_) | (with_reducible refine stop_index_B ?_) | (with_reducible refine stop_index_BB ?_)  | (with_reducible refine stop_str_B ?_) | (with_reducible refine stop_mark_B ?_) | (with_reducible refine stop_buildSlice ?_))
      rw [or128 m]
      obtain ⟨c, hc⟩ : ∃ c, c = UInt8.ofNat (m % 128 + 128) := ⟨_, rfl⟩
      rw [← hc]
      have Hc := Lib.hid hc
      clear hc
      refine Stop.go (build_B ([c] : List UInt8) [_] rfl rfl rfl (by simp) fun u w1 k1 k2 k3 k4 => ?_)
      have a21 := a2.grown0 k2
      go_wp2_with (first | ((with_reducible apply wpList_unguard); rfl) | ((with_reducible apply len_B); assumption) | ((with_reducible apply len_BB); assumption)  | (with_reducible refine stop_builtin ?_) | (with_reducible refine stop_slice ?_) | (with_reducible refine stop_index_B ?_) | (with_reducible refine stop_index_BB ?_)  | (with_reducible refine stop_str_B ?_) | (with_reducible refine stop_mark_B ?_) | (with_reducible refine stop_buildSlice ?_))
      refine Stop.go (app_B (a21 : OwnB w1 0 _ v) k1.sl' (by simp; omega) (by omega) fun v' w2 g1 g2 g3 => ?_)
      have hgr : wr.grownBy w2 h' := grown_new A3.out k2 g2
      have hv' : v'.ownBlock = h' ∨ ∃ k, v'.ownBlock = some k ∧ wr.heap.size ≤ k := own_new A3.out k4 g3
      obtain ⟨b1, b2⟩ := Wr.stored A1.out A4.out hgr g1 hv'
      obtain ⟨ao, nn, cap, rfl⟩ := Own.shape g1
      have c2 : w2.cell? ⟨g, 0, none⟩ = some v := by rw [cell?_same (w := wr) (hgr.block g hwr.lt (fun e => A4.out e.symm))]; exact c0
      have f2 : w2.frozen? ⟨g, 0, none⟩ = false := by rw [World.frozen?_of_block (w := wr) (hgr.block g hwr.lt (fun e => A4.out e.symm))]; exact f0
      clear g1 g2 g3 k1 k2 k3 k4 a2 a21 hgr hv' c0 f0
      go_wp2_with (first | ((with_reducible apply wpList_unguard); rfl) | ((with_reducible apply len_B); assumption) | ((with_reducible apply len_BB); assumption)  | (with_reducible refine stop_builtin ?_) | (with_reducible refine stop_slice ?_) | (with_reducible refine stop_index_B ?_) | (with_reducible refine stop_index_BB ?_)  | (with_reducible refine stop_str_B ?_) | (with_reducible refine stop_mark_B ?_) | (with_reducible refine stop_buildSlice ?_))
      go_roundg (m / 128 + 1)
      case measure => have := Hk.out; omega
      case rel =>
        have he := enc_big m (by omega)
        rw [← Hc.out] at he
        have hl2 := Hlen.out
        rw [he] at hl2
        refine ⟨m / 128, done ++ [c], _, rfl, by omega, by go_num, by rw [← Hd.out, he]; simp, by simp at hl2 ⊢; omega, by simpa using b1, Hmv.out.trans b2⟩
    · go_wp2_with (first | ((with_reducible apply wpList_unguard); rfl) | ((with_reducible apply len_B); assumption) | ((with_reducible apply len_BB); assumption)  | (with_reducible refine stop_builtin ?_) | (with_reducible refine stop_slice ?_) | (with_reducible refine stop_index_B ?_) | (with_reducible refine stop_index_BB ?_)  | (with_reducible refine stop_str_B ?_) | (with_reducible refine stop_mark_B ?_) | (with_reducible refine stop_buildSlice ?_))
      obtain ⟨c, hc⟩ : ∃ c, c = UInt8.ofNat m := ⟨_, rfl⟩
      have hcm : (m : Int) = (c.toNat : Int) := by rw [hc, UInt8.toNat_ofNat_of_lt' (by show m < 256; omega)]
      have Hc := Lib.hid hc
      have Hcm := Lib.hid hcm
      clear hc hcm
      refine Stop.go (build_B ([c] : List UInt8) [.int .u8 (m : Int)] rfl rfl (by rw [Hcm.out]; rfl) (by simp) fun u w1 k1 k2 k3 k4 => ?_)
      have a21 := a2.grown0 k2
      go_wp2_with (first | ((with_reducible apply wpList_unguard); rfl) | ((with_reducible apply len_B); assumption) | ((with_reducible apply len_BB); assumption)  | (with_reducible refine stop_builtin ?_) | (with_reducible refine stop_slice ?_) | (with_reducible refine stop_index_B ?_) | (with_reducible refine stop_index_BB ?_)  | (with_reducible refine stop_str_B ?_) | (with_reducible refine stop_mark_B ?_) | (with_reducible refine stop_buildSlice ?_))
      refine Stop.go (app_B (a21 : OwnB w1 0 _ v) k1.sl' (by simp; omega) (by omega) fun v' w2 g1 g2 g3 => ?_)
      have hgr : wr.grownBy w2 h' := grown_new A3.out k2 g2
      have hv' : v'.ownBlock = h' ∨ ∃ k, v'.ownBlock = some k ∧ wr.heap.size ≤ k := own_new A3.out k4 g3
      obtain ⟨b1, b2⟩ := Wr.stored A1.out A4.out hgr g1 hv'
      obtain ⟨ao, nn, cap, rfl⟩ := Own.shape g1
      have c2 : w2.cell? ⟨g, 0, none⟩ = some v := by rw [cell?_same (w := wr) (hgr.block g hwr.lt (fun e => A4.out e.symm))]; exact c0
      have f2 : w2.frozen? ⟨g, 0, none⟩ = false := by rw [World.frozen?_of_block (w := wr) (hgr.block g hwr.lt (fun e => A4.out e.symm))]; exact f0
      clear g1 g2 g3 k1 k2 k3 k4 a2 a21 hgr hv' c0 f0
      go_wp2_with (first | ((with_reducible apply wpList_unguard); rfl) | ((with_reducible apply len_B); assumption) | ((with_reducible apply len_BB); assumption)  | (with_reducible refine stop_builtin ?_) | (with_reducible refine stop_slice ?_) | (with_reducible refine stop_index_B ?_) | (with_reducible refine stop_index_BB ?_)  | (with_reducible refine stop_str_B ?_) | (with_reducible refine stop_mark_B ?_) | (with_reducible refine stop_buildSlice ?_))
      refine bodyPost_end (results_none rfl _ _ _) rfl ?_
      have he := enc_small m (by omega)
      rw [← Hc.out] at he
      refine ⟨⟨_, rfl⟩, _, ?_, Hmv.out.trans b2⟩
      rw [← Hd.out, he, ← List.append_assoc]
      exact b1

theorem wnums_any (w : World) (g : Nat) (h : Option Nat) (l : List UInt8) (S : Nat → Prop) (ns : List UInt64) (p : Value) (hw : Wr w g h l) (hp : Sl w S ns p) (hS : ∀ b, S b → b < w.heap.size ∧ b ≠ g ∧ h ≠ some b) (hl : l.length ≤ 1000000000) (hn : ns.length ≤ 1000000) :
    Calls Tryd.prog 52 #[.pointer (some ⟨g, 0, none⟩), p] w fun e w' => e = .returned (.pointer (some ⟨g, 0, none⟩)) ∧ ∃ h', Wr w' g h' (l ++ encs ns) ∧ Mv w w' g h h' := by
  go_enter Tryd.func52, Tryd.ntmps52
  go_wp2_with (first | ((with_reducible apply wpList_unguard); rfl) | (with_reducible refine stop_make ?_) | ((with_reducible apply len_B); assumption) | ((with_reducible apply len_BB); assumption)  | ((with_reducible apply len_N); assumption) | ((with_reducible apply len_V); assumption) | ((with_reducible apply len_VV); assumption)  | (with_reducible refine stop_builtin ?_) | (with_reducible refine stop_slice ?_) | (with_reducible refine stop_index_B ?_) | (with_reducible refine stop_index_BB ?_)  | (with_reducible refine stop_index_N ?_) | (with_reducible refine stop_index_V ?_) | (with_reducible refine stop_index_VV ?_)  | (with_reducible refine stop_str_B ?_) | (with_reducible refine stop_mark_B ?_) | (with_reducible refine stop_buildSlice ?_))
  go_loopg [6, 11] (ns.length + 1) (fun k x i wr => ∃ (j : Nat) (h' : Option Nat) (D : List UInt8), k = ns.length - j + 1 ∧ j ≤ ns.length ∧ i = .int .i64 j ∧ D = encs (ns.take j) ∧ D.length ≤ j * 10 ∧ Wr wr g h' (l ++ D) ∧ Mv w wr g h h')
  case atStart => exact ⟨0, h, [], by omega, by omega, rfl, rfl, by simp, by simpa using hw, Mv.refl _ _ _⟩
  case round =>
    obtain ⟨j, h', D, hk, hj, rfl, hD, hlen, hwr, hmv⟩ := hrel
    have Hk := Lib.hid hk
    have HD := Lib.hid hD
    clear hk hD
    have hpr := hp.only hmv.2 (fun b hb _ e => by have := (hS b hb).2; rcases e with e | e; exact this.1 e; exact this.2 e)
    have Hmv := Lib.hid hmv
    clear hmv
    by_cases hlt : j < ns.length
    · go_wp2_with (first | ((with_reducible apply wpList_unguard); rfl) | (with_reducible refine stop_make ?_) | ((with_reducible apply len_B); assumption) | ((with_reducible apply len_BB); assumption)  | ((with_reducible apply len_N); assumption) | ((with_reducible apply len_V); assumption) | ((with_reducible apply len_VV); assumption)  | (with_reducible refine stop_builtin ?_) | (with_reducible refine stop_slice ?_) | (with_reducible refine stop_index_B ?_) | (with_reducible refine stop_index_BB ?_)  | (with_reducible refine stop_index_N ?_) | (with_reducible refine stop_index_V ?_) | (with_reducible refine stop_index_VV ?_)  | (with_reducible refine stop_str_B ?_) | (with_reducible refine stop_mark_B ?_) | (with_reducible refine stop_buildSlice ?_))
      refine Stop.go (idx_N hpr rfl (by omega) (by omega) fun b o y hy hcell => ?_)
      have Hy := Lib.hid hy
      clear hy
      have hyl := y.toNat_lt
      go_wp2_with (first | ((with_reducible apply wpList_unguard); rfl) | (with_reducible refine stop_make ?_) | ((with_reducible apply len_B); assumption) | ((with_reducible apply len_BB); assumption)  | ((with_reducible apply len_N); assumption) | ((with_reducible apply len_V); assumption) | ((with_reducible apply len_VV); assumption)  | (with_reducible refine stop_builtin ?_) | (with_reducible refine stop_slice ?_) | (with_reducible refine stop_index_B ?_) | (with_reducible refine stop_index_BB ?_)  | (with_reducible refine stop_index_N ?_) | (with_reducible refine stop_index_V ?_) | (with_reducible refine stop_index_VV ?_)  | (with_reducible refine stop_str_B ?_) | (with_reducible refine stop_mark_B ?_) | (with_reducible refine stop_buildSlice ?_))
      refine (wnum_any wr g h' _ y.toNat hwr hyl (by rw [List.length_append]; omega)).mono ?_
      rintro e w1 ⟨⟨r, rfl⟩, h1, hw1, hm1⟩
      have hel := enc_len10 y.toNat hyl
      clear hcell
      go_wp2_with (first | ((with_reducible apply wpList_unguard); rfl) | (with_reducible refine stop_make ?_) | ((with_reducible apply len_B); assumption) | ((with_reducible apply len_BB); assumption)  | ((with_reducible apply len_N); assumption) | ((with_reducible apply len_V); assumption) | ((with_reducible apply len_VV); assumption)  | (with_reducible refine stop_builtin ?_) | (with_reducible refine stop_slice ?_) | (with_reducible refine stop_index_B ?_) | (with_reducible refine stop_index_BB ?_)  | (with_reducible refine stop_index_N ?_) | (with_reducible refine stop_index_V ?_) | (with_reducible refine stop_index_VV ?_)  | (with_reducible refine stop_str_B ?_) | (with_reducible refine stop_mark_B ?_) | (with_reducible refine stop_buildSlice ?_))
      go_roundg (ns.length - (j + 1) + 1)
      case measure => have := Hk.out; omega
      case rel =>
        have e := flatMap_snoc (fun n : UInt64 => enc n.toNat) ns j y (by simpa using Hy.out)
        refine ⟨j + 1, h1, D ++ enc y.toNat, by omega, by omega, rfl, by rw [HD.out]; exact e.symm, by rw [List.length_append]; omega, by simpa using hw1, Hmv.out.trans hm1⟩
    · go_wp2_with (first | ((with_reducible apply wpList_unguard); rfl) | (with_reducible refine stop_make ?_) | ((with_reducible apply len_B); assumption) | ((with_reducible apply len_BB); assumption)  | ((with_reducible apply len_N); assumption) | ((with_reducible apply len_V); assumption) | ((with_reducible apply len_VV); assumption)  | (with_reducible refine stop_builtin ?_) | (with_reducible refine stop_slice ?_) | (with_reducible refine stop_index_B ?_) | (with_reducible refine stop_index_BB ?_)  | (with_reducible refine stop_index_N ?_) | (with_reducible refine stop_index_V ?_) | (with_reducible refine stop_index_VV ?_)  | (with_reducible refine stop_str_B ?_) | (with_reducible refine stop_mark_B ?_) | (with_reducible refine stop_buildSlice ?_))
      go_ret
      have e := HD.out
      rw [List.take_of_length_le (by omega)] at e
      rw [← e]
      exact ⟨rfl, h', hwr, Hmv.out⟩

theorem wbytes_any (w : World) (g : Nat) (h : Option Nat) (l : List UInt8) (hw : Wr w g h l) (hl : l.length ≤ 1000000000) :
    Calls Tryd.prog 56 #[.pointer (some ⟨g, 0, none⟩)] w fun e w' => ∃ v, e = .returned v ∧ OwnB w' w.heap.size l v ∧ Below w.heap.size w w' := by
  obtain ⟨v, a1, a2, a3, a4⟩ := hw
  have c0 : w.cell? ⟨g, 0, none⟩ = some v := by simp [World.cell?, a1]
  clear a1 a3 a4
  go_enter Tryd.func56, Tryd.ntmps56
  go_wp2_with (first | ((with_reducible apply wpList_unguard); rfl) | (with_reducible refine stop_make ?_) | ((with_reducible apply len_B); assumption) | ((with_reducible apply len_BB); assumption)  | ((with_reducible apply len_N); assumption) | ((with_reducible apply len_V); assumption) | ((with_reducible apply len_VV); assumption)  | (with_reducible refine stop_builtin ?_) | (with_reducible refine stop_slice ?_) | (with_reducible refine stop_index_B ?_) | (with_reducible refine stop_index_BB ?_)  | (with_reducible refine stop_index_N ?_) | (with_reducible refine stop_index_V ?_) | (with_reducible refine stop_index_VV ?_)  | (with_reducible refine stop_str_B ?_) | (with_reducible refine stop_mark_B ?_) | (with_reducible refine stop_buildSlice ?_))
  refine (clone_any w _ l v a2.sl' (by omega)).mono ?_
  rintro e w1 ⟨u, rfl, hu, hb⟩
  go_wp2_with (first | ((with_reducible apply wpList_unguard); rfl) | (with_reducible refine stop_make ?_) | ((with_reducible apply len_B); assumption) | ((with_reducible apply len_BB); assumption)  | ((with_reducible apply len_N); assumption) | ((with_reducible apply len_V); assumption) | ((with_reducible apply len_VV); assumption)  | (with_reducible refine stop_builtin ?_) | (with_reducible refine stop_slice ?_) | (with_reducible refine stop_index_B ?_) | (with_reducible refine stop_index_BB ?_)  | (with_reducible refine stop_index_N ?_) | (with_reducible refine stop_index_V ?_) | (with_reducible refine stop_index_VV ?_)  | (with_reducible refine stop_str_B ?_) | (with_reducible refine stop_mark_B ?_) | (with_reducible refine stop_buildSlice ?_))
  go_ret
  exact ⟨u, rfl, hu, hb⟩

theorem encText_len (t : List UInt8) (h : t.length < 18446744073709551616) : (encText t).length ≤ 10 + t.length := by
  have := enc_len10 t.length h
  rw [encText, List.length_append]; omega
end Go.Proofs.YtnkbfelnggompaaDoor
