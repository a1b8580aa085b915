/- package note: read, its walk. -/
import Derived.Test.YtjkffjngamagkaaDoorPackG
namespace Go.Arm
theorem u8_wrap (k : Nat) (h : k ≤ 255) : IntKind.u8.wrap (k : Int) = k := by simp [IntKind.wrap, IntKind.signed, IntKind.bits]; omega
theorem i64_wrap (k : Nat) (h : k ≤ 1000000) : IntKind.i64.wrap (k : Int) = k := IntWalk.i64_in _ (by omega)
end Go.Arm
namespace Go.Proofs.YtjkffjngamagkaaDoor
open Go Go.RowKit Go.Arm
theorem Srt.only {w w' : World} (h : Srt w) {F : Nat → Prop} (ho : Only F w w') (hF : ¬ F 0) : Srt w' := fun k hk => by
 have e := ho.block _ h.lt hF
 exact ⟨(cell?_same (w := w) e).trans (h k hk).1, (cell?_same (w := w) e).trans (h k hk).2⟩
theorem Srt.ne_rd {w : World} (h : Srt w) {g : Nat} {S : Nat → Prop} {s : RS} (hr : RdA w g S s) : (0 : Nat) ≠ g := by
 obtain ⟨l, e, ⟨v, h1, _⟩, _⟩ := hr
 intro he
 have h2 := (h 1 (by decide)).1
 rw [he] at h2
 simp [World.cell?, h1] at h2
set_option maxHeartbeats 8000000 in
set_option maxRecDepth 100000 in
theorem read_any (w : World) (g : Nat) (S : Nat → Prop) (s : RS) (hN : Srt w) (hr : RdA w g S s) (hS : ∀ b, S b → b < w.heap.size) :
  Calls Tryd.prog 46 #[.pointer (some ⟨g, 0, none⟩)] w fun e w' => ∃ V, e = .returned V ∧ Nt w' (fun b => w.heap.size ≤ b) (parse plim s).1 V ∧ RdA w' g S (parse plim s).2 ∧ Only (fun x => x = g) w w' := by
 obtain ⟨R, hR⟩ : ∃ R, R = parse plim s := ⟨_, rfl⟩
 rw [← hR]
 have HR := Lib.hid hR
 clear hR
 have hglt := hr.lt
 go_enter Tryd.func46, Tryd.ntmps46
 go_wp2_with (first | ((with_reducible apply ugZ); rfl) | ((with_reducible (first | apply len_B | apply len_BB | apply len_N | apply len_V | apply len_VV | apply len_P | apply len_O | apply len_H)); assumption) | ((with_reducible refine stop_if kB ?_ ?_); rfl))
 refine Stop.go (blk_box (cs := #[.pointer (some ⟨g, 0, none⟩)]) rfl fun bR w1 cR hbR ha1 => ?_)
 go_wp2_with (first | ((with_reducible apply ugZ); rfl) | ((with_reducible (first | apply len_B | apply len_BB | apply len_N | apply len_V | apply len_VV | apply len_P | apply len_O | apply len_H)); assumption) | ((with_reducible refine stop_if kB ?_ ?_); rfl))
 refine Stop.go (blk_alloc (z := .agg zeroCells) (cs := zeroCells) (zero_run (by kernel_rfl)) rfl fun b2 w2 c2 hb2 ha2 => ?_)
 have hB2 := below_on ha1 ha2 ha1.size
 have l1 := cR.lt
 have cR := cR.below ha2 cR.lt
 have hr2 := hr.only (Only.of_below hB2) (by omega) (fun b hb _ => by have := hS b hb; omega)
 have r0 : w2.cell? ⟨bR, 0, none⟩ = some (.pointer (some ⟨g, 0, none⟩)) := cR.cell 0
 have n2R : b2 ≠ bR := by omega
 have l2 := c2.lt
 clear ha1 ha2
 go_wp2_with (first | ((with_reducible apply ugZ); rfl) | ((with_reducible (first | apply len_B | apply len_BB | apply len_N | apply len_V | apply len_VV | apply len_P | apply len_O | apply len_H)); assumption) | ((with_reducible refine stop_if kB ?_ ?_); rfl))
 refine (num_A w2 g S s 255 hr2).mono ?_
 rintro e w3 ⟨rfl, hr3, ho3⟩
 obtain ⟨K, hK⟩ : ∃ K, K = anum 255 s := ⟨_, rfl⟩
 have hk : K.1 ≤ 255 := by rw [hK]; exact anum_lt s
 rw [← hK] at hr3 ⊢
 have HK := Lib.hid hK
 clear hK hr2 r0
 obtain ⟨k, s0⟩ := K
 have hk : k ≤ 255 := hk
 have hr3 : RdA w3 g S s0 := hr3
 have hw := u8_wrap k hk
 have cR3 := cR.only ho3 (fun e => by have : bR = g := e; omega)
 have c23 := c2.only ho3 (fun e => by have : b2 = g := e; omega)
 have ol3 : Only (fun x => x = g) w w3 := ((Only.of_below hB2).mono (G := fun x => x = g) fun b hb h => by omega).trans ho3 fun b _ h => h
 have l3 : w2.heap.size ≤ w3.heap.size := ho3.size
 clear cR c2 ho3
 go_wp2_with (first | ((with_reducible apply ugZ); rfl) | ((with_reducible (first | apply len_B | apply len_BB | apply len_N | apply len_V | apply len_VV | apply len_P | apply len_O | apply len_H)); assumption) | ((with_reducible refine stop_if kB ?_ ?_); rfl))
 refine Stop.go (blk_alloc (z := .agg zeroCells) (cs := zeroCells) (zero_run (by kernel_rfl)) rfl fun bN w4 c4 hbN ha4 => ?_)
 have l4 := c4.lt
 have hr4 := hr3.only (Only.of_below ha4) (by omega) (fun b hb _ => by have := hS b hb; omega)
 have cR4 := cR3.below ha4 (by omega)
 have c24 := c23.below ha4 (by omega)
 have ol4 : Only (fun x => x = g) w w4 := ol3.trans (Only.of_below ha4) fun b hb h => by omega
 clear cR3 c23 ol3 hr3
 go_wp2_with (first | ((with_reducible apply ugZ); rfl) | ((with_reducible (first | apply len_B | apply len_BB | apply len_N | apply len_V | apply len_VV | apply len_P | apply len_O | apply len_H)); assumption) | ((with_reducible refine stop_if kB ?_ ?_); rfl))
 refine Stop.go (blk_store_all (cs' := #[.int .u8 (k : Int), .int .u64 0, .int .u64 0, .int .u64 0, .int .u64 0, .int .u64 0, .int .u64 0, .int .u64 0, .int .i64 0, .int .i64 0, .int .i64 0, .int .i64 0, .slice none 0 0, .slice none 0 0, .slice none 0 0, .slice none 0 0]) c4 rfl rfl (by kernel_rfl) rfl (by simp [Value.oneCell']) fun w5 c5 o5 z5 => ?_)
 have hr5 := hr4.only o5 (by omega) (fun b hb _ => by have := hS b hb; omega)
 have cR5 := cR4.only o5 (by omega)
 have c25 := c24.only o5 (by omega)
 have ol5 : Only (fun x => x = g) w w5 := ol4.trans o5 fun b hb h => by omega
 have k0 : w5.cell? ⟨bN, 0, none⟩ = some (.int .u8 (k : Int)) := c5.cell 0
 have l5 : bN < w5.heap.size := c5.lt
 have hN5 := hN.only ol5 (hN.ne_rd hr)
 clear c4 o5 hr4 cR4 c24 ol4 ha4 z5
 go_wp2_with (first | ((with_reducible apply ugZ); rfl) | ((with_reducible (first | apply len_B | apply len_BB | apply len_N | apply len_V | apply len_VV | apply len_P | apply len_O | apply len_H)); assumption) | ((with_reducible refine stop_if kB ?_ ?_); rfl))
 refine (sorted_any w5 k hN5 (by omega)).mono ?_
 rintro e w6 ⟨rfl, hb6⟩
 obtain ⟨nm, hnm⟩ : ∃ nm : ByteArray, nm = ⟨(sortName k).toArray⟩ := ⟨_, rfl⟩
 unfold sortV
 rw [← hnm]
 clear hnm k0
 have hfd := sort_field1 nm (sortMask k)
 go_wp2_with (first | ((with_reducible apply ugZ); rfl) | ((with_reducible (first | apply len_B | apply len_BB | apply len_N | apply len_V | apply len_VV | apply len_P | apply len_O | apply len_H)); assumption) | ((with_reducible refine stop_if kB ?_ ?_); rfl))
 refine Stop.go (blk_alloc (z := .int .i64 0) (cs := #[.int .i64 0]) (zero_run (by kernel_rfl)) rfl fun bF w7 c7 hbF ha7 => ?_)
 have ha7' := below_on hb6 ha7 hb6.size
 have l7 := c7.lt
 have l6 : w5.heap.size ≤ w6.heap.size := hb6.size
 go_wp2_with (first | ((with_reducible apply ugZ); rfl) | ((with_reducible (first | apply len_B | apply len_BB | apply len_N | apply len_V | apply len_VV | apply len_P | apply len_O | apply len_H)); assumption) | ((with_reducible refine stop_if kB ?_ ?_); rfl))
 refine Stop.go (blk_store (.int .i64 (sortMask k : Int)) oneInt c7 rfl rfl rfl rfl (by decide) fun w8 c8 o8 z8 => ?_)
 simp only [List.setIfInBounds_toArray, List.set_cons_zero] at c8
 have hN : w8.heap.size = w8.heap.size := rfl
 have hB : RdB w g bR bF bN b2 w8.heap.size S (fun _ => True) := by
  refine ⟨fun _ _ _ _ h => h, hglt, hS, ⟨hbR, by omega⟩, ⟨by omega, by omega⟩, ⟨by omega, by omega⟩, ⟨by omega, by omega⟩, by omega, by omega, by omega⟩
 have hs8 : RdS w w8 g bR bF bN b2 w8.heap.size S (fun _ => True) k #[.int .u8 (k : Int), .int .u64 0, .int .u64 0, .int .u64 0, .int .u64 0, .int .u64 0, .int .u64 0, .int .u64 0, .int .i64 0, .int .i64 0, .int .i64 0, .int .i64 0, .slice none 0 0, .slice none 0 0, .slice none 0 0, .slice none 0 0] s0 :=
  ⟨(hr5.only (Only.of_below ha7') (by omega) (fun b hb _ => by have := hS b hb; omega)).only o8 (by omega) (fun b hb _ => by have := hS b hb; omega), trivial, Nat.le_refl _, (cR5.below ha7' (by omega)).only o8 (by omega), c8, (c5.below ha7' (by omega)).only o8 (by omega), (c25.below ha7' (by omega)).only o8 (by omega), (ol5.trans (Only.of_below ha7') fun b hb h => by omega).trans o8 fun b hb h => by omega⟩
 clear hr5 cR5 c25 ol5 c5 c7 c8 o8 z8 ha7 ha7' hb6 hfd hN5 hr hbR hb2 hB2 l1 n2R l2 l3 hbN l4 l5 hbF l7 l6
 obtain ⟨NP, hN⟩ : ∃ N, N = w8.heap.size := ⟨_, rfl⟩
 rw [← hN] at hB hs8
 clear hN
 obtain ⟨KPP, hKP⟩ : ∃ M : World → Prop, M = fun _ => True := ⟨_, rfl⟩
 rw [← hKP] at hB hs8
 clear hKP
 have hle0 := hB.le
 have hb2P := hB.h2.2
 have hs := hs8
 clear hs8
 go_wp2_with (first | ((with_reducible apply ugZ); rfl) | ((with_reducible (first | apply len_B | apply len_BB | apply len_N | apply len_V | apply len_VV | apply len_P | apply len_O | apply len_H)); assumption) | ((with_reducible refine stop_if kB ?_ ?_); rfl))
 refine (hs.num hB 0 18446744073709551615 1 18446744073709551615 (by decide) rfl rfl).mono ?_
 rintro e wr ⟨x0, t0, hC0, hx0, rfl, hs'⟩
 clear hs
 have hs := hs'
 clear hs'
 have HC0 := Lib.hid hC0
 clear hC0
 go_wp2_with (first | ((with_reducible apply ugZ); rfl) | ((with_reducible (first | apply len_B | apply len_BB | apply len_N | apply len_V | apply len_VV | apply len_P | apply len_O | apply len_H)); assumption) | ((with_reducible refine stop_if kB ?_ ?_); rfl))
 refine (hs.num hB 1 18446744073709551615 2 18446744073709551615 (by decide) rfl rfl).mono ?_
 rintro e wr ⟨x1, t1, hC1, hx1, rfl, hs'⟩
 clear hs
 have hs := hs'
 clear hs'
 have HC1 := Lib.hid hC1
 clear hC1
 go_wp2_with (first | ((with_reducible apply ugZ); rfl) | ((with_reducible (first | apply len_B | apply len_BB | apply len_N | apply len_V | apply len_VV | apply len_P | apply len_O | apply len_H)); assumption) | ((with_reducible refine stop_if kB ?_ ?_); rfl))
 refine (hs.num hB 2 1099511627776 4 1099511627776 (by decide) rfl rfl).mono ?_
 rintro e wr ⟨x2, t2, hC2, hx2, rfl, hs'⟩
 clear hs
 have hs := hs'
 clear hs'
 have HC2 := Lib.hid hC2
 clear hC2
 go_wp2_with (first | ((with_reducible apply ugZ); rfl) | ((with_reducible (first | apply len_B | apply len_BB | apply len_N | apply len_V | apply len_VV | apply len_P | apply len_O | apply len_H)); assumption) | ((with_reducible refine stop_if kB ?_ ?_); rfl))
 refine Stop.go (blk_store (.int .u64 (x0 : Int)) oneU64 hs.cN rfl rfl rfl rfl (by simp) fun wr cN oN zN => ?_)
 simp only [List.setIfInBounds_toArray, List.set_cons_zero, List.set_cons_succ] at cN
 have hs' := hs.set hB cN oN
 clear hs cN oN zN
 have hs := hs'
 clear hs'
 go_wp2_with (first | ((with_reducible apply ugZ); rfl) | ((with_reducible (first | apply len_B | apply len_BB | apply len_N | apply len_V | apply len_VV | apply len_P | apply len_O | apply len_H)); assumption) | ((with_reducible refine stop_if kB ?_ ?_); rfl))
 refine Stop.go (blk_store (.int .u64 (x1 : Int)) oneU64 hs.cN rfl rfl rfl rfl (by simp) fun wr cN oN zN => ?_)
 simp only [List.setIfInBounds_toArray, List.set_cons_zero, List.set_cons_succ] at cN
 have hs' := hs.set hB cN oN
 clear hs cN oN zN
 have hs := hs'
 clear hs'
 go_wp2_with (first | ((with_reducible apply ugZ); rfl) | ((with_reducible (first | apply len_B | apply len_BB | apply len_N | apply len_V | apply len_VV | apply len_P | apply len_O | apply len_H)); assumption) | ((with_reducible refine stop_if kB ?_ ?_); rfl))
 refine Stop.go (blk_store (.int .u64 (x2 : Int)) oneU64 hs.cN rfl rfl rfl rfl (by simp) fun wr cN oN zN => ?_)
 simp only [List.setIfInBounds_toArray, List.set_cons_zero, List.set_cons_succ] at cN
 have hs' := hs.set hB cN oN
 clear hs cN oN zN
 have hs := hs'
 clear hs'
 go_wp2_with (first | ((with_reducible apply ugZ); rfl) | ((with_reducible (first | apply len_B | apply len_BB | apply len_N | apply len_V | apply len_VV | apply len_P | apply len_O | apply len_H)); assumption) | ((with_reducible refine stop_if kB ?_ ?_); rfl))
 refine (hs.num hB 3 1099511627776 8 1099511627776 (by decide) rfl rfl).mono ?_
 rintro e wr ⟨x3, t3, hC3, hx3, rfl, hs'⟩
 clear hs
 have hs := hs'
 clear hs'
 have HC3 := Lib.hid hC3
 clear hC3
 go_wp2_with (first | ((with_reducible apply ugZ); rfl) | ((with_reducible (first | apply len_B | apply len_BB | apply len_N | apply len_V | apply len_VV | apply len_P | apply len_O | apply len_H)); assumption) | ((with_reducible refine stop_if kB ?_ ?_); rfl))
 refine (hs.num hB 4 1099511627776 16 1099511627776 (by decide) rfl rfl).mono ?_
 rintro e wr ⟨x4, t4, hC4, hx4, rfl, hs'⟩
 clear hs
 have hs := hs'
 clear hs'
 have HC4 := Lib.hid hC4
 clear hC4
 go_wp2_with (first | ((with_reducible apply ugZ); rfl) | ((with_reducible (first | apply len_B | apply len_BB | apply len_N | apply len_V | apply len_VV | apply len_P | apply len_O | apply len_H)); assumption) | ((with_reducible refine stop_if kB ?_ ?_); rfl))
 refine (hs.num hB 5 18446744073709551615 32 18446744073709551615 (by decide) rfl rfl).mono ?_
 rintro e wr ⟨x5, t5, hC5, hx5, rfl, hs'⟩
 clear hs
 have hs := hs'
 clear hs'
 have HC5 := Lib.hid hC5
 clear hC5
 go_wp2_with (first | ((with_reducible apply ugZ); rfl) | ((with_reducible (first | apply len_B | apply len_BB | apply len_N | apply len_V | apply len_VV | apply len_P | apply len_O | apply len_H)); assumption) | ((with_reducible refine stop_if kB ?_ ?_); rfl))
 refine Stop.go (blk_store (.int .u64 (x3 : Int)) oneU64 hs.cN rfl rfl rfl rfl (by simp) fun wr cN oN zN => ?_)
 simp only [List.setIfInBounds_toArray, List.set_cons_zero, List.set_cons_succ] at cN
 have hs' := hs.set hB cN oN
 clear hs cN oN zN
 have hs := hs'
 clear hs'
 go_wp2_with (first | ((with_reducible apply ugZ); rfl) | ((with_reducible (first | apply len_B | apply len_BB | apply len_N | apply len_V | apply len_VV | apply len_P | apply len_O | apply len_H)); assumption) | ((with_reducible refine stop_if kB ?_ ?_); rfl))
 refine Stop.go (blk_store (.int .u64 (x4 : Int)) oneU64 hs.cN rfl rfl rfl rfl (by simp) fun wr cN oN zN => ?_)
 simp only [List.setIfInBounds_toArray, List.set_cons_zero, List.set_cons_succ] at cN
 have hs' := hs.set hB cN oN
 clear hs cN oN zN
 have hs := hs'
 clear hs'
 go_wp2_with (first | ((with_reducible apply ugZ); rfl) | ((with_reducible (first | apply len_B | apply len_BB | apply len_N | apply len_V | apply len_VV | apply len_P | apply len_O | apply len_H)); assumption) | ((with_reducible refine stop_if kB ?_ ?_); rfl))
 refine Stop.go (blk_store (.int .u64 (x5 : Int)) oneU64 hs.cN rfl rfl rfl rfl (by simp) fun wr cN oN zN => ?_)
 simp only [List.setIfInBounds_toArray, List.set_cons_zero, List.set_cons_succ] at cN
 have hs' := hs.set hB cN oN
 clear hs cN oN zN
 have hs := hs'
 clear hs'
 go_wp2_with (first | ((with_reducible apply ugZ); rfl) | ((with_reducible (first | apply len_B | apply len_BB | apply len_N | apply len_V | apply len_VV | apply len_P | apply len_O | apply len_H)); assumption) | ((with_reducible refine stop_if kB ?_ ?_); rfl))
 refine (hs.num hB 6 1099511627776 64 1099511627776 (by decide) rfl rfl).mono ?_
 rintro e wr ⟨x6, t6, hC6, hx6, rfl, hs'⟩
 clear hs
 have hs := hs'
 clear hs'
 have HC6 := Lib.hid hC6
 clear hC6
 go_wp2_with (first | ((with_reducible apply ugZ); rfl) | ((with_reducible (first | apply len_B | apply len_BB | apply len_N | apply len_V | apply len_VV | apply len_P | apply len_O | apply len_H)); assumption) | ((with_reducible refine stop_if kB ?_ ?_); rfl))
 refine (hs.num hB 7 16 128 16 (by decide) rfl rfl).mono ?_
 rintro e wr ⟨x7, t7, hC7, hx7, rfl, hs'⟩
 clear hs
 have hs := hs'
 clear hs'
 have HC7 := Lib.hid hC7
 clear hC7
 have hw7 := i64_wrap x7 (by omega)
 go_wp2_with (first | ((with_reducible apply ugZ); rfl) | ((with_reducible (first | apply len_B | apply len_BB | apply len_N | apply len_V | apply len_VV | apply len_P | apply len_O | apply len_H)); assumption) | ((with_reducible refine stop_if kB ?_ ?_); rfl))
 refine (hs.num hB 8 256 256 256 (by decide) rfl rfl).mono ?_
 rintro e wr ⟨x8, t8, hC8, hx8, rfl, hs'⟩
 clear hs
 have hs := hs'
 clear hs'
 have HC8 := Lib.hid hC8
 clear hC8
 have hw8 := i64_wrap x8 (by omega)
 go_wp2_with (first | ((with_reducible apply ugZ); rfl) | ((with_reducible (first | apply len_B | apply len_BB | apply len_N | apply len_V | apply len_VV | apply len_P | apply len_O | apply len_H)); assumption) | ((with_reducible refine stop_if kB ?_ ?_); rfl))
 refine Stop.go (blk_store (.int .u64 (x6 : Int)) oneU64 hs.cN rfl rfl rfl rfl (by simp) fun wr cN oN zN => ?_)
 simp only [List.setIfInBounds_toArray, List.set_cons_zero, List.set_cons_succ] at cN
 have hs' := hs.set hB cN oN
 clear hs cN oN zN
 have hs := hs'
 clear hs'
 go_wp2_with (first | ((with_reducible apply ugZ); rfl) | ((with_reducible (first | apply len_B | apply len_BB | apply len_N | apply len_V | apply len_VV | apply len_P | apply len_O | apply len_H)); assumption) | ((with_reducible refine stop_if kB ?_ ?_); rfl))
 refine Stop.go (blk_store (.int .i64 (x7 : Int)) oneInt hs.cN rfl rfl rfl rfl (by simp) fun wr cN oN zN => ?_)
 simp only [List.setIfInBounds_toArray, List.set_cons_zero, List.set_cons_succ] at cN
 have hs' := hs.set hB cN oN
 clear hs cN oN zN
 have hs := hs'
 clear hs'
 go_wp2_with (first | ((with_reducible apply ugZ); rfl) | ((with_reducible (first | apply len_B | apply len_BB | apply len_N | apply len_V | apply len_VV | apply len_P | apply len_O | apply len_H)); assumption) | ((with_reducible refine stop_if kB ?_ ?_); rfl))
 refine Stop.go (blk_store (.int .i64 (x8 : Int)) oneInt hs.cN rfl rfl rfl rfl (by simp) fun wr cN oN zN => ?_)
 simp only [List.setIfInBounds_toArray, List.set_cons_zero, List.set_cons_succ] at cN
 have hs' := hs.set hB cN oN
 clear hs cN oN zN
 have hs := hs'
 clear hs'
 clear hw7 hw8
 go_wp2_with (first | ((with_reducible apply ugZ); rfl) | ((with_reducible (first | apply len_B | apply len_BB | apply len_N | apply len_V | apply len_VV | apply len_P | apply len_O | apply len_H)); assumption) | ((with_reducible refine stop_if kB ?_ ?_); rfl))
 refine (hs.num hB 9 13 512 13 (by decide) rfl rfl).mono ?_
 rintro e wr ⟨x9, t9, hC9, hx9, rfl, hs'⟩
 clear hs
 have hs := hs'
 clear hs'
 have HC9 := Lib.hid hC9
 clear hC9
 have hw9 := i64_wrap x9 (by omega)
 go_wp2_with (first | ((with_reducible apply ugZ); rfl) | ((with_reducible (first | apply len_B | apply len_BB | apply len_N | apply len_V | apply len_VV | apply len_P | apply len_O | apply len_H)); assumption) | ((with_reducible refine stop_if kB ?_ ?_); rfl))
 refine (hs.num hB 10 16 1024 16 (by decide) rfl rfl).mono ?_
 rintro e wr ⟨x10, t10, hC10, hx10, rfl, hs'⟩
 clear hs
 have hs := hs'
 clear hs'
 have HC10 := Lib.hid hC10
 clear hC10
 have hw10 := i64_wrap x10 (by omega)
 go_wp2_with (first | ((with_reducible apply ugZ); rfl) | ((with_reducible (first | apply len_B | apply len_BB | apply len_N | apply len_V | apply len_VV | apply len_P | apply len_O | apply len_H)); assumption) | ((with_reducible refine stop_if kB ?_ ?_); rfl))
 refine Stop.go (blk_store (.int .i64 (x9 : Int)) oneErr hs.cN rfl rfl rfl rfl (by simp) fun wr cN oN zN => ?_)
 simp only [List.setIfInBounds_toArray, List.set_cons_zero, List.set_cons_succ] at cN
 have hs' := hs.set hB cN oN
 clear hs cN oN zN
 have hs := hs'
 clear hs'
 go_wp2_with (first | ((with_reducible apply ugZ); rfl) | ((with_reducible (first | apply len_B | apply len_BB | apply len_N | apply len_V | apply len_VV | apply len_P | apply len_O | apply len_H)); assumption) | ((with_reducible refine stop_if kB ?_ ?_); rfl))
 refine Stop.go (blk_store (.int .i64 (x10 : Int)) oneInt hs.cN rfl rfl rfl rfl (by simp) fun wr cN oN zN => ?_)
 simp only [List.setIfInBounds_toArray, List.set_cons_zero, List.set_cons_succ] at cN
 have hs' := hs.set hB cN oN
 clear hs cN oN zN
 have hs := hs'
 clear hs'
 clear hw9 hw10
 go_wp2_with (first | ((with_reducible apply ugZ); rfl) | ((with_reducible (first | apply len_B | apply len_BB | apply len_N | apply len_V | apply len_VV | apply len_P | apply len_O | apply len_H)); assumption) | ((with_reducible refine stop_if kB ?_ ?_); rfl))
 refine (hs.num hB 11 4 2048 4 (by decide) rfl rfl).mono ?_
 rintro e wr ⟨x11, t11, hC11, hx11, rfl, hs'⟩
 clear hs
 have hs := hs'
 clear hs'
 have HC11 := Lib.hid hC11
 clear hC11
 go_wp2_with (first | ((with_reducible apply ugZ); rfl) | ((with_reducible (first | apply len_B | apply len_BB | apply len_N | apply len_V | apply len_VV | apply len_P | apply len_O | apply len_H)); assumption) | ((with_reducible refine stop_if kB ?_ ?_); rfl))
 go_loopg [54] (x11 + 1) (fun m i wr => ∃ (j : Nat) (vP : Value) (LP : List Int) (sj : RS), m = x11 - j + 1 ∧ j ≤ x11 ∧ i = .int .u64 (j : Int) ∧ (LP, sj) = rep (apart plim) j t11 ∧ RdS w wr g bR bF bN b2 NP S KPP k #[.int .u8 (k : Int), .int .u64 (x0 : Int), .int .u64 (x1 : Int), .int .u64 (x2 : Int), .int .u64 (x3 : Int), .int .u64 (x4 : Int), .int .u64 (x5 : Int), .int .u64 (x6 : Int), .int .i64 (x7 : Int), .int .i64 (x8 : Int), .int .i64 (x9 : Int), .int .i64 (x10 : Int), vP, .slice none 0 0, .slice none 0 0, .slice none 0 0] sj ∧ OwnG wr NP 3 LP vP)
 case atStart => exact ⟨0, _, [], _, by omega, by omega, rfl, rfl, hs, OwnG.nil _ _ _⟩
 case round =>
  clear hs
  obtain ⟨j, vP, LP, sj, hm, hj, rfl, hrep, hs, ho⟩ := hrel
  have Hm := Lib.hid hm
  have Hrep := Lib.hid hrep
  clear hm hrep
  have hLl : LP.length = j := by have := rep_len (apart plim) j t11; rw [← Hrep.out] at this; exact this
  have HLl := Lib.hid hLl
  clear hLl
  by_cases hlt : (j : Int) < (x11 : Int)
  ·as_aux_lemma =>
    go_upto_region 10 with (fail)
    have hd := (Below.refl wr.heap.size wr).drew
    have hs1 := hs.below hB hd hs.nw
    have ho1 := ho.below hd (Nat.le_refl _)
    have hNw1 : NP ≤ wr.drew.heap.size := hs.nw
    clear hs ho hd
    refine wp_region_D (fun wq => Blk wq bR 99 #[.pointer (some ⟨g, 0, none⟩)]) 8 (fun wq => Blk wq bN 33 #[.int .u8 (k : Int), .int .u64 (x0 : Int), .int .u64 (x1 : Int), .int .u64 (x2 : Int), .int .u64 (x3 : Int), .int .u64 (x4 : Int), .int .u64 (x5 : Int), .int .u64 (x6 : Int), .int .i64 (x7 : Int), .int .i64 (x8 : Int), .int .i64 (x9 : Int), .int .i64 (x10 : Int), vP, .slice none 0 0, .slice none 0 0, .slice none 0 0]) 9 rfl (by kernel_rfl) ?_
    generalize wr.drew = wd at *
    refine tkZ 0 56 (.pointer (some ⟨bN, 12, none⟩)) rfl rfl (.inl ⟨by rfl, fun _ _ => by kernel_rfl⟩) (hs1.cR) (.inr hs1.cN) ?_
    simp only [Act.put, zqA, zqB, zqC]
    refine wpAnyD_take2 (i := 1) (dst := some 57) (v := vP) rfl rfl (by decide) (by kernel_rfl) (by kernel_rfl) (by kernel_rfl) rfl (by kernel_rfl) (by kernel_rfl) (fun _ _ _ h => h) (blk_yields oneP (by rfl) rfl rfl fun _ h => h.2) (hs1.cR) (hs1.cN) ?_
    simp only [Act.put, zqA, zqB, zqC]
    refine tkZ 2 58 (.pointer (some ⟨g, 0, none⟩)) rfl rfl (blk_yields onePtr (by rfl) rfl rfl fun _ h => h) (hs1.cR) (.inr hs1.cN) ?_
    simp only [Act.put, zqA, zqB, zqC]
    have hcA := num_A wd g S sj 16 hs1.rd
    have hy := anum_lt (most := 16) sj
    have HR0 : rep (apart plim) (j + 1) t11 = (LP ++ [((((anum 16 sj).1 : Nat) : Int))], (anum 16 sj).2) := by
     rw [rep_snoc, ← Hrep.out]; rfl
    generalize (anum 16 sj).1 = y at *
    generalize (anum 16 sj).2 = s' at *
    have HREP := Lib.hid HR0
    clear HR0
    have hwy := i64_wrap y (by omega)
    refine wpAnyD_step (i := 3) (by kernel_rfl) rfl fun K hK => ?_
    refine step_call (vs := #[.pointer (some ⟨g, 0, none⟩), .int .u64 16]) (by rfl) (by go_simp) (by kernel_rfl) (hcA) ?_
    rintro e w2 ⟨rfl, hr2, o2⟩
    have hs2 := hs1.call hB hr2 o2
    have ho2 := ho1.only o2 (fun b hb _ e => (hB.ne b hb).1 e)
    clear hcA hr2
    refine ⟨_, rfl, hK _ _ hs2.cR hs2.cN ?_⟩
    clear hK K
    simp only [Act.put, zqA, zqB, zqC]
    refine tkZ 4 60 (.int .i64 (y : Int)) rfl rfl (.inl ⟨by rfl, fun _ _ => by go_simp⟩) (hs2.cR) (.inr hs2.cN) ?_
    simp only [Act.put, zqA, zqB, zqC]
    refine wpAnyD_step (i := 5) (by kernel_rfl) rfl fun K hK => ?_
    refine step_lit_P rfl (by unfold I64; omega) fun q w3 hq hb3 hl3 => ?_
    have hs3 := hs2.below hB hb3 hs2.nw
    have ho3 := ho2.below hb3 (Nat.le_refl _)
    refine hK _ _ hs3.cR hs3.cN ?_
    clear hK K
    simp only [Act.put, zqA, zqB, zqC]
    refine wpAnyD_step (i := 6) (by kernel_rfl) rfl fun K hK => ?_
    refine step_app_P (B := NP) (l := LP) (m := [(y : Int)]) ho3 hq (fun b hb _ => ⟨by have := hs2.nw; omega, fun e => by have := ho2.ge b e; omega⟩) (by have := HLl.out; simp; omega) hs3.nw fun v9 w4 ho9 g4 => ?_
    have g4 : w3.grownBy w4 vP.ownBlock := g4
    have hs4 := hs3.only hB (Only.of_grown g4) (fun b hb => (ho3.ge b hb).1)
    obtain ⟨va, vn, vc, rfl⟩ := Own.shape ho9
    refine hK _ _ hs4.cR hs4.cN ?_
    clear hK K
    simp only [Act.put, zqA, zqB, zqC]
    refine tkZ 7 63 (.pointer (some ⟨bN, 12, none⟩)) rfl rfl (.inl ⟨by rfl, fun _ _ => by kernel_rfl⟩) (hs4.cR) (.inr hs4.cN) ?_
    simp only [Act.put, zqA, zqB, zqC]
    refine wpAnyD_stepd (i := 8) (by kernel_rfl) rfl (by kernel_rfl) fun K hK => ?_
    refine step_blk_store (.slice va vn vc) oneP hs4.cN rfl rfl rfl rfl (by simp) fun w5 c5 o5 z5 => ?_
    simp only [List.setIfInBounds_toArray, List.set_cons_zero, List.set_cons_succ] at c5
    have hs9 := hs4.set hB c5 o5
    have ho9 := ho9.only o5 (fun b hb _ e => (hB.ne b hb).2 e)
    refine hK _ _ hs9.cR ?_
    clear hK K
    simp only [Act.put]
    refine wpAnyD_done (by kernel_rfl) ?_
    clear hs1 hs2 hs3 hs4
    go_wp2_with (fail)
    go_roundg (x11 - (j + 1) + 1)
    case measure => have := Hm.out; omega
    case rel => exact ⟨j + 1, _, _, _, by omega, by omega, by go_num, HREP.out.symm, hs9, ho9⟩
  ·obtain rfl : j = x11 := by omega
   have HP := Hrep
   clear Hrep Hm hlt hj
   have hleO := hs.nw
   have hB' := hB.next (l := LP) (v := vP) hs.nw
   have hs' := hs.next ho.sl
   have hslvP : SlV vP := Own.shape ho
   clear hB hs ho HLl
   have hB := hB'
   have hs := hs'
   clear hB' hs'
   obtain ⟨NO, hN⟩ : ∃ N, N = wr.heap.size := ⟨_, rfl⟩
   rw [← hN] at hB hs hleO
   clear hN
   obtain ⟨KPO, hKP⟩ : ∃ M, M = (fun w : World => KPP w ∧ Sl w (fun b => NP ≤ b ∧ b < NO) LP vP) := ⟨_, rfl⟩
   rw [← hKP] at hB hs
   have HKPO := Lib.hid hKP
   clear hKP
   go_wp2_with (first | ((with_reducible apply ugZ); rfl) | ((with_reducible (first | apply len_B | apply len_BB | apply len_N | apply len_V | apply len_VV | apply len_P | apply len_O | apply len_H)); assumption) | ((with_reducible refine stop_if kB ?_ ?_); rfl))
   refine (hs.num hB 12 16 4096 16 (by decide) rfl rfl).mono ?_
   rintro e wr ⟨x12, t12, hC12, hx12, rfl, hs'⟩
   clear hs
   have hs := hs'
   clear hs'
   have HC12 := Lib.hid hC12
   clear hC12
   go_wp2_with (first | ((with_reducible apply ugZ); rfl) | ((with_reducible (first | apply len_B | apply len_BB | apply len_N | apply len_V | apply len_VV | apply len_P | apply len_O | apply len_H)); assumption) | ((with_reducible refine stop_if kB ?_ ?_); rfl))
   go_loopg [67] (x12 + 1) (fun m i wr => ∃ (j : Nat) (vO : Value) (LO : List OpR) (sj : RS), m = x12 - j + 1 ∧ j ≤ x12 ∧ i = .int .u64 (j : Int) ∧ (LO, sj) = rep (aop plim) j t12 ∧ RdS w wr g bR bF bN b2 NO S KPO k #[.int .u8 (k : Int), .int .u64 (x0 : Int), .int .u64 (x1 : Int), .int .u64 (x2 : Int), .int .u64 (x3 : Int), .int .u64 (x4 : Int), .int .u64 (x5 : Int), .int .u64 (x6 : Int), .int .i64 (x7 : Int), .int .i64 (x8 : Int), .int .i64 (x9 : Int), .int .i64 (x10 : Int), vP, vO, .slice none 0 0, .slice none 0 0] sj ∧ OwnG wr NO 63 LO vO)
   case atStart => exact ⟨0, _, [], _, by omega, by omega, rfl, rfl, hs, OwnG.nil _ _ _⟩
   case round =>
    clear hs
    obtain ⟨j, vO, LO, sj, hm, hj, rfl, hrep, hs, ho⟩ := hrel
    have Hm := Lib.hid hm
    have Hrep := Lib.hid hrep
    clear hm hrep
    have hLl : LO.length = j := by have := rep_len (aop plim) j t12; rw [← Hrep.out] at this; exact this
    have HLl := Lib.hid hLl
    clear hLl
    by_cases hlt : (j : Int) < (x12 : Int)
    ·as_aux_lemma =>
      go_upto_region 14 with (fail)
      have hd := (Below.refl wr.heap.size wr).drew
      have hs1 := hs.below hB hd hs.nw
      have ho1 := ho.below hd (Nat.le_refl _)
      have hNw1 : NO ≤ wr.drew.heap.size := hs.nw
      clear hs ho hd
      refine wp_region_D (fun wq => Blk wq bR 99 #[.pointer (some ⟨g, 0, none⟩)]) 10 (fun wq => Blk wq bN 33 #[.int .u8 (k : Int), .int .u64 (x0 : Int), .int .u64 (x1 : Int), .int .u64 (x2 : Int), .int .u64 (x3 : Int), .int .u64 (x4 : Int), .int .u64 (x5 : Int), .int .u64 (x6 : Int), .int .i64 (x7 : Int), .int .i64 (x8 : Int), .int .i64 (x9 : Int), .int .i64 (x10 : Int), vP, vO, .slice none 0 0, .slice none 0 0]) 11 rfl (by kernel_rfl) ?_
      generalize wr.drew = wd at *
      refine tkZ 0 69 (.pointer (some ⟨bN, 13, none⟩)) rfl rfl (.inl ⟨by rfl, fun _ _ => by kernel_rfl⟩) (hs1.cR) (.inr hs1.cN) ?_
      simp only [Act.put, zqA, zqB, zqC]
      refine wpAnyD_take2 (i := 1) (dst := some 70) (v := vO) rfl rfl (by decide) (by kernel_rfl) (by kernel_rfl) (by kernel_rfl) rfl (by kernel_rfl) (by kernel_rfl) (fun _ _ _ h => h) (blk_yields oneO (by rfl) rfl rfl fun _ h => h.2) (hs1.cR) (hs1.cN) ?_
      simp only [Act.put, zqA, zqB, zqC]
      refine tkZ 2 71 (.pointer (some ⟨g, 0, none⟩)) rfl rfl (blk_yields onePtr (by rfl) rfl rfl fun _ h => h) (hs1.cR) (.inr hs1.cN) ?_
      simp only [Act.put, zqA, zqB, zqC]
      refine tkZ 4 73 (.pointer (some ⟨g, 0, none⟩)) rfl rfl (blk_yields onePtr (by rfl) rfl rfl fun _ h => h) (hs1.cR) (.inr hs1.cN) ?_
      simp only [Act.put, zqA, zqB, zqC]
      have hcA := num_A wd g S sj 1099511627776 hs1.rd
      have hy := anum_lt (most := 1099511627776) sj
      have HR0 : rep (aop plim) (j + 1) t12 = (LO ++ [⟨UInt64.ofNat (anum 1099511627776 sj).1, (avec (anum 1099511627776 sj).2).1⟩], (avec (anum 1099511627776 sj).2).2) := by
       rw [rep_snoc, ← Hrep.out]; rfl
      generalize (anum 1099511627776 sj).1 = y at *
      generalize (anum 1099511627776 sj).2 = s' at *
      have ey : (UInt64.ofNat y).toNat = y := UInt64.toNat_ofNat_of_lt' (by show y < 18446744073709551616; omega)
      obtain ⟨vv, sn, hav⟩ : ∃ v t, avec s' = (v, t) := ⟨_, _, rfl⟩
      rw [hav] at HR0
      simp only at HR0
      have HREP := Lib.hid HR0
      clear HR0
      refine wpAnyD_step (i := 3) (by kernel_rfl) rfl fun K hK => ?_
      refine step_call (vs := #[.pointer (some ⟨g, 0, none⟩), .int .u64 1099511627776]) (by rfl) (by go_simp) (by kernel_rfl) (hcA) ?_
      rintro e w2 ⟨rfl, hr2, o2⟩
      have hs2 := hs1.call hB hr2 o2
      have ho2 := ho1.only o2 (fun b hb _ e => (hB.ne b hb).1 e)
      have hge2 : wd.heap.size ≤ w2.heap.size := o2.size
      clear hcA hr2 o2
      refine ⟨_, rfl, hK _ _ hs2.cR hs2.cN ?_⟩
      clear hK K
      simp only [Act.put, zqA, zqB, zqC]
      have hcV := vec_A w2 g S s' hs2.rd
      rw [hav] at hcV
      clear hav
      refine wpAnyD_step (i := 5) (by kernel_rfl) rfl fun K hK => ?_
      refine step_call (vs := #[.pointer (some ⟨g, 0, none⟩), .int .i64 8]) (by rfl) (by go_simp) (by kernel_rfl) (hcV) ?_
      rintro e w3 ⟨uv, rfl, hv3, hr3, o3⟩
      have hs3 := hs2.call hB hr3 o3
      have ho3 := ho2.only o3 (fun b hb _ e => (hB.ne b hb).1 e)
      have hge3 : w2.heap.size ≤ w3.heap.size := o3.size
      obtain ⟨ua, un, uc, rfl⟩ := Own.shape hv3
      have hu3 := hv3.sl (S' := fun b => w2.heap.size ≤ b ∧ b < w3.heap.size) (fun _ h _ => h.elim) (fun b hb => hv3.ge b hb)
      clear hcV hr3 o3 hv3 hs2 ho2
      refine ⟨_, rfl, hK _ _ hs3.cR hs3.cN ?_⟩
      clear hK K
      simp only [Act.put, zqA, zqB, zqC]
      refine tkZ 6 75 (.agg #[.int .u64 (y : Int), .slice ua un uc]) rfl rfl (.inl ⟨by rfl, fun _ _ => by go_simp⟩) (hs3.cR) (.inr hs3.cN) ?_
      simp only [Act.put, zqA, zqB, zqC]
      refine wpAnyD_step (i := 7) (by kernel_rfl) rfl fun K hK => ?_
      refine step_lit_O (i := UInt64.ofNat y) (v := vv) (u := .slice ua un uc) (S := fun b => w2.heap.size ≤ b ∧ b < w3.heap.size) (by rw [ey]; rfl) hu3 fun q w4 hq hb4 hl4 => ?_
      have hs4 := hs3.below hB hb4 hs3.nw
      have ho4 := ho3.below hb4 (Nat.le_refl _)
      refine hK _ _ hs4.cR hs4.cN ?_
      clear hK K
      simp only [Act.put, zqA, zqB, zqC]
      refine wpAnyD_step (i := 8) (by kernel_rfl) rfl fun K hK => ?_
      refine step_app_OpR (B := NO) (l := LO) (m := [(⟨UInt64.ofNat y, vv⟩ : OpR)]) ho4 hq (fun b hb _ => ⟨by have := hs3.nw; omega, fun e => by have := ho1.ge b e; omega⟩) (by have := HLl.out; simp; omega) hs4.nw fun v9 w6 ho9 g6 => ?_
      have g6 : w4.grownBy w6 vO.ownBlock := g6
      have hs4 := hs4.only hB (Only.of_grown g6) (fun b hb => (ho4.ge b hb).1)
      obtain ⟨va, vn, vc, rfl⟩ := Own.shape ho9
      refine hK _ _ hs4.cR hs4.cN ?_
      clear hK K
      simp only [Act.put, zqA, zqB, zqC]
      refine tkZ 9 78 (.pointer (some ⟨bN, 13, none⟩)) rfl rfl (.inl ⟨by rfl, fun _ _ => by kernel_rfl⟩) (hs4.cR) (.inr hs4.cN) ?_
      simp only [Act.put, zqA, zqB, zqC]
      refine wpAnyD_stepd (i := 10) (by kernel_rfl) rfl (by kernel_rfl) fun K hK => ?_
      refine step_blk_store (.slice va vn vc) oneO hs4.cN rfl rfl rfl rfl (by simp) fun w5 c5 o5 z5 => ?_
      simp only [List.setIfInBounds_toArray, List.set_cons_zero, List.set_cons_succ] at c5
      have hs9 := hs4.set hB c5 o5
      have ho9 := ho9.only o5 (fun b hb _ e => (hB.ne b hb).2 e)
      refine hK _ _ hs9.cR ?_
      clear hK K
      simp only [Act.put]
      refine wpAnyD_done (by kernel_rfl) ?_
      clear hs1 hs3
      go_wp2_with (fail)
      go_roundg (x12 - (j + 1) + 1)
      case measure => have := Hm.out; omega
      case rel => exact ⟨j + 1, _, _, _, by omega, by omega, by go_num, HREP.out.symm, hs9, ho9⟩
    ·obtain rfl : j = x12 := by omega
     have HO := Hrep
     clear Hrep Hm hlt hj
     have hleV := hs.nw
     have hB' := hB.next (l := LO) (v := vO) hs.nw
     have hs' := hs.next ho.sl
     have hslvO : SlV vO := Own.shape ho
     clear hB hs ho HLl
     have hB := hB'
     have hs := hs'
     clear hB' hs'
     obtain ⟨NV, hN⟩ : ∃ N, N = wr.heap.size := ⟨_, rfl⟩
     rw [← hN] at hB hs hleV
     clear hN
     obtain ⟨KPV, hKP⟩ : ∃ M, M = (fun w : World => KPO w ∧ Sl w (fun b => NO ≤ b ∧ b < NV) LO vO) := ⟨_, rfl⟩
     rw [← hKP] at hB hs
     have HKPV := Lib.hid hKP
     clear hKP
     have c4 := hs.cF.cell 0
     simp only [List.getElem?_toArray, List.getElem?_cons_zero] at c4
     have hb := and_bit' k 13 (by decide)
     rw [show ((2 ^ 13 : Nat) : Int) = 8192 from rfl] at hb
     go_upto_if 82 with (fail)
     go_cut [] (fun wx => ∃ (vV : Value) (LV : List Int32) (tV : RS), (LV, tV) = (if hasF k 13 then avec sj else ([], sj)) ∧ RdS w wx g bR bF bN b2 NV S KPV k #[.int .u8 (k : Int), .int .u64 (x0 : Int), .int .u64 (x1 : Int), .int .u64 (x2 : Int), .int .u64 (x3 : Int), .int .u64 (x4 : Int), .int .u64 (x5 : Int), .int .u64 (x6 : Int), .int .i64 (x7 : Int), .int .i64 (x8 : Int), .int .i64 (x9 : Int), .int .i64 (x10 : Int), vP, vO, vV, .slice none 0 0] tV ∧ Sl wx (fun b => NV ≤ b ∧ b < wx.heap.size) LV vV ∧ SlV vV)
     case first =>
      cases hf : hasF k 13
      ·rw [hf, Bool.not_false] at hb
       have Hf := Lib.hid hf
       clear hf
       go_wp2_with (fail)
       go_meet
       case rel => exact ⟨.slice none 0 0, [], sj, by rw [Hf.out]; rfl, hs, Sl.nil _ _, ⟨_, _, _, rfl⟩⟩
      ·rw [hf, Bool.not_true] at hb
       have Hf := Lib.hid hf
       clear hf
       obtain ⟨LV, tV, hav⟩ : ∃ v t, avec sj = (v, t) := ⟨_, _, rfl⟩
       have hcV := vec_A wr g S sj hs.rd
       rw [hav] at hcV
       have c1 := hs.cR.cell 0
       simp only [List.getElem?_toArray, List.getElem?_cons_zero] at c1
       go_wp2_with (first | ((with_reducible apply ugZ); rfl) | ((with_reducible (first | apply len_B | apply len_BB | apply len_N | apply len_V | apply len_VV | apply len_P | apply len_O | apply len_H)); assumption) | ((with_reducible refine stop_if kB ?_ ?_); rfl))
       refine hcV.mono ?_
       rintro e w3 ⟨vV, rfl, hv3, hr3, o3⟩
       have hs3 := hs.call hB hr3 o3
       have hnw := hs.nw
       obtain ⟨ua, un, uc, rfl⟩ := Own.shape hv3
       have hu3 := hv3.sl (S' := fun b => wr.heap.size ≤ b ∧ b < w3.heap.size) (fun _ h _ => h.elim) (fun b hb => hv3.ge b hb)
       clear hcV hr3 hv3 hs c1 c4 hb
       go_wp2_with (first | ((with_reducible apply ugZ); rfl) | ((with_reducible (first | apply len_B | apply len_BB | apply len_N | apply len_V | apply len_VV | apply len_P | apply len_O | apply len_H)); assumption) | ((with_reducible refine stop_if kB ?_ ?_); rfl))
       refine Stop.go (blk_store (.slice ua un uc) oneV hs3.cN rfl rfl rfl rfl (by simp) fun w5 cN oN zN => ?_)
       simp only [List.setIfInBounds_toArray, List.set_cons_zero, List.set_cons_succ] at cN
       have hs5 := hs3.set hB cN oN
       have hu5 := hu3.only oN (fun b hb _ e => (hB.ne b (by omega)).2 e)
       go_wp2_with (first | ((with_reducible apply ugZ); rfl) | ((with_reducible (first | apply len_B | apply len_BB | apply len_N | apply len_V | apply len_VV | apply len_P | apply len_O | apply len_H)); assumption) | ((with_reducible refine stop_if kB ?_ ?_); rfl))
       go_meet
       case rel => exact ⟨.slice ua un uc, LV, tV, by rw [Hf.out]; exact hav.symm, hs5, hu5.wide fun b hb _ => ⟨by omega, by omega⟩, ⟨_, _, _, rfl⟩⟩
     case rest =>
      obtain ⟨vV, LV, tV, hV, hs', hslV, hslvV⟩ := hcut
      have HV := Lib.hid hV
      clear hV hs c4 hb
      have hs := hs'
      clear hs'
      have hleH := hs.nw
      have hB' := hB.next (l := LV) (v := vV) hs.nw
      have hs' := hs.next hslV
      clear hB hs hslV
      have hB := hB'
      have hs := hs'
      clear hB' hs'
      obtain ⟨NH, hN⟩ : ∃ N, N = wc.heap.size := ⟨_, rfl⟩
      rw [← hN] at hB hs hleH
      clear hN
      obtain ⟨KPH, hKP⟩ : ∃ M, M = (fun w : World => KPV w ∧ Sl w (fun b => NV ≤ b ∧ b < NH) LV vV) := ⟨_, rfl⟩
      rw [← hKP] at hB hs
      have HKPH := Lib.hid hKP
      clear hKP
      go_wp2_with (first | ((with_reducible apply ugZ); rfl) | ((with_reducible (first | apply len_B | apply len_BB | apply len_N | apply len_V | apply len_VV | apply len_P | apply len_O | apply len_H)); assumption) | ((with_reducible refine stop_if kB ?_ ?_); rfl))
      refine (hs.num hB 14 16 16384 16 (by decide) rfl rfl).mono ?_
      rintro e wr ⟨x14, t14, hC14, hx14, rfl, hs'⟩
      clear hs
      have hs := hs'
      clear hs'
      have HC14 := Lib.hid hC14
      clear hC14
      go_wp2_with (first | ((with_reducible apply ugZ); rfl) | ((with_reducible (first | apply len_B | apply len_BB | apply len_N | apply len_V | apply len_VV | apply len_P | apply len_O | apply len_H)); assumption) | ((with_reducible refine stop_if kB ?_ ?_); rfl))
      go_loopg [88] (x14 + 1) (fun m i wr => ∃ (j : Nat) (vH : Value) (LH : List HitR) (sj : RS), m = x14 - j + 1 ∧ j ≤ x14 ∧ i = .int .u64 (j : Int) ∧ (LH, sj) = rep (ahit plim) j t14 ∧ RdS w wr g bR bF bN b2 NH S KPH k #[.int .u8 (k : Int), .int .u64 (x0 : Int), .int .u64 (x1 : Int), .int .u64 (x2 : Int), .int .u64 (x3 : Int), .int .u64 (x4 : Int), .int .u64 (x5 : Int), .int .u64 (x6 : Int), .int .i64 (x7 : Int), .int .i64 (x8 : Int), .int .i64 (x9 : Int), .int .i64 (x10 : Int), vP, vO, vV, vH] sj ∧ OwnG wr NH 114 LH vH)
      case atStart => exact ⟨0, _, [], _, by omega, by omega, rfl, rfl, hs, OwnG.nil _ _ _⟩
      case round =>
       clear hs
       obtain ⟨j, vH, LH, sj, hm, hj, rfl, hrep, hs, ho⟩ := hrel
       have Hm := Lib.hid hm
       have Hrep := Lib.hid hrep
       clear hm hrep
       have hLl : LH.length = j := by have := rep_len (ahit plim) j t14; rw [← Hrep.out] at this; exact this
       have HLl := Lib.hid hLl
       clear hLl
       by_cases hlt : (j : Int) < (x14 : Int)
       ·as_aux_lemma =>
         go_upto_region 20 with (fail)
         have hd := (Below.refl wr.heap.size wr).drew
         have hs1 := hs.below hB hd hs.nw
         have ho1 := ho.below hd (Nat.le_refl _)
         have hNw1 : NH ≤ wr.drew.heap.size := hs.nw
         clear hs ho hd
         refine wp_region_D (fun wq => Blk wq bR 99 #[.pointer (some ⟨g, 0, none⟩)]) 12 (fun wq => Blk wq bN 33 #[.int .u8 (k : Int), .int .u64 (x0 : Int), .int .u64 (x1 : Int), .int .u64 (x2 : Int), .int .u64 (x3 : Int), .int .u64 (x4 : Int), .int .u64 (x5 : Int), .int .u64 (x6 : Int), .int .i64 (x7 : Int), .int .i64 (x8 : Int), .int .i64 (x9 : Int), .int .i64 (x10 : Int), vP, vO, vV, vH]) 13 rfl (by kernel_rfl) ?_
         generalize wr.drew = wd at *
         refine tkZ 0 90 (.pointer (some ⟨bN, 15, none⟩)) rfl rfl (.inl ⟨by rfl, fun _ _ => by kernel_rfl⟩) (hs1.cR) (.inr hs1.cN) ?_
         simp only [Act.put, zqA, zqB, zqC]
         refine wpAnyD_take2 (i := 1) (dst := some 91) (v := vH) rfl rfl (by decide) (by kernel_rfl) (by kernel_rfl) (by kernel_rfl) rfl (by kernel_rfl) (by kernel_rfl) (fun _ _ _ h => h) (blk_yields oneH (by rfl) rfl rfl fun _ h => h.2) (hs1.cR) (hs1.cN) ?_
         simp only [Act.put, zqA, zqB, zqC]
         refine tkZ 2 92 (.pointer (some ⟨g, 0, none⟩)) rfl rfl (blk_yields onePtr (by rfl) rfl rfl fun _ h => h) (hs1.cR) (.inr hs1.cN) ?_
         simp only [Act.put, zqA, zqB, zqC]
         refine tkZ 4 94 (.pointer (some ⟨g, 0, none⟩)) rfl rfl (blk_yields onePtr (by rfl) rfl rfl fun _ h => h) (hs1.cR) (.inr hs1.cN) ?_
         simp only [Act.put, zqA, zqB, zqC]
         refine tkZ 6 96 (.pointer (some ⟨g, 0, none⟩)) rfl rfl (blk_yields onePtr (by rfl) rfl rfl fun _ h => h) (hs1.cR) (.inr hs1.cN) ?_
         simp only [Act.put, zqA, zqB, zqC]
         have hcA := num_A wd g S sj 1099511627776 hs1.rd
         have hy := anum_lt (most := 1099511627776) sj
         have HR0 : rep (ahit plim) (j + 1) t14 = (LH ++ [⟨UInt64.ofNat (anum 1099511627776 sj).1, UInt64.ofNat (anum 18446744073709551615 (anum 1099511627776 sj).2).1, (avec (anum 18446744073709551615 (anum 1099511627776 sj).2).2).1⟩], (avec (anum 18446744073709551615 (anum 1099511627776 sj).2).2).2) := by
          rw [rep_snoc, ← Hrep.out]; rfl
         generalize (anum 1099511627776 sj).1 = y at *
         generalize (anum 1099511627776 sj).2 = s' at *
         have ey : (UInt64.ofNat y).toNat = y := UInt64.toNat_ofNat_of_lt' (by show y < 18446744073709551616; omega)
         have hz := anum_lt (most := 18446744073709551615) s'
         obtain ⟨z, s'', hzs⟩ : ∃ z t, anum 18446744073709551615 s' = (z, t) := ⟨_, _, rfl⟩
         rw [hzs] at HR0 hz
         have hz : z ≤ 18446744073709551615 := hz
         have ez : (UInt64.ofNat z).toNat = z := UInt64.toNat_ofNat_of_lt' (by show z < 18446744073709551616; omega)
         simp only at HR0
         obtain ⟨vv, sn, hav⟩ : ∃ v t, avec s'' = (v, t) := ⟨_, _, rfl⟩
         rw [hav] at HR0
         simp only at HR0
         have HREP := Lib.hid HR0
         clear HR0
         refine wpAnyD_step (i := 3) (by kernel_rfl) rfl fun K hK => ?_
         refine step_call (vs := #[.pointer (some ⟨g, 0, none⟩), .int .u64 1099511627776]) (by rfl) (by go_simp) (by kernel_rfl) (hcA) ?_
         rintro e w2 ⟨rfl, hr2, o2⟩
         have hs2 := hs1.call hB hr2 o2
         have ho2 := ho1.only o2 (fun b hb _ e => (hB.ne b hb).1 e)
         have hge2 : wd.heap.size ≤ w2.heap.size := o2.size
         clear hcA hr2 o2
         refine ⟨_, rfl, hK _ _ hs2.cR hs2.cN ?_⟩
         clear hK K
         simp only [Act.put, zqA, zqB, zqC]
         have hcB := num_A w2 g S s' 18446744073709551615 hs2.rd
         rw [hzs] at hcB
         refine wpAnyD_step (i := 5) (by kernel_rfl) rfl fun K hK => ?_
         refine step_call (vs := #[.pointer (some ⟨g, 0, none⟩), .int .u64 18446744073709551615]) (by rfl) (by go_simp) (by kernel_rfl) (hcB) ?_
         rintro e wm ⟨rfl, hrm, om⟩
         have hsm := hs2.call hB hrm om
         have hom := ho2.only om (fun b hb _ e => (hB.ne b hb).1 e)
         have hgem : wd.heap.size ≤ wm.heap.size := Nat.le_trans hge2 om.size
         clear hcB hrm om hs2 ho2 hge2 hzs
         refine ⟨_, rfl, hK _ _ hsm.cR hsm.cN ?_⟩
         clear hK K
         simp only [Act.put, zqA, zqB, zqC]
         have hcV := vec_A wm g S s'' hsm.rd
         rw [hav] at hcV
         clear hav
         refine wpAnyD_step (i := 7) (by kernel_rfl) rfl fun K hK => ?_
         refine step_call (vs := #[.pointer (some ⟨g, 0, none⟩), .int .i64 8]) (by rfl) (by go_simp) (by kernel_rfl) (hcV) ?_
         rintro e w3 ⟨uv, rfl, hv3, hr3, o3⟩
         have hs3 := hsm.call hB hr3 o3
         have ho3 := hom.only o3 (fun b hb _ e => (hB.ne b hb).1 e)
         have hge3 : wm.heap.size ≤ w3.heap.size := o3.size
         obtain ⟨ua, un, uc, rfl⟩ := Own.shape hv3
         have hu3 := hv3.sl (S' := fun b => wm.heap.size ≤ b ∧ b < w3.heap.size) (fun _ h _ => h.elim) (fun b hb => hv3.ge b hb)
         clear hcV hr3 o3 hv3 hsm hom
         refine ⟨_, rfl, hK _ _ hs3.cR hs3.cN ?_⟩
         clear hK K
         simp only [Act.put, zqA, zqB, zqC]
         refine tkZ 8 98 (.agg #[.int .u64 (y : Int), .int .u64 (z : Int), .slice ua un uc]) rfl rfl (.inl ⟨by rfl, fun _ _ => by go_simp⟩) (hs3.cR) (.inr hs3.cN) ?_
         simp only [Act.put, zqA, zqB, zqC]
         refine wpAnyD_step (i := 9) (by kernel_rfl) rfl fun K hK => ?_
         refine step_lit_H (i := UInt64.ofNat y) (d := UInt64.ofNat z) (v := vv) (u := .slice ua un uc) (S := fun b => wm.heap.size ≤ b ∧ b < w3.heap.size) (by rw [ey, ez]; rfl) hu3 fun q w4 hq hb4 hl4 => ?_
         have hs4 := hs3.below hB hb4 hs3.nw
         have ho4 := ho3.below hb4 (Nat.le_refl _)
         refine hK _ _ hs4.cR hs4.cN ?_
         clear hK K
         simp only [Act.put, zqA, zqB, zqC]
         refine wpAnyD_step (i := 10) (by kernel_rfl) rfl fun K hK => ?_
         refine step_app_HitR (B := NH) (l := LH) (m := [(⟨UInt64.ofNat y, UInt64.ofNat z, vv⟩ : HitR)]) ho4 hq (fun b hb _ => ⟨by have := hs3.nw; omega, fun e => by have := ho1.ge b e; omega⟩) (by have := HLl.out; simp; omega) hs4.nw fun v9 w6 ho9 g6 => ?_
         have g6 : w4.grownBy w6 vH.ownBlock := g6
         have hs4 := hs4.only hB (Only.of_grown g6) (fun b hb => (ho4.ge b hb).1)
         obtain ⟨va, vn, vc, rfl⟩ := Own.shape ho9
         refine hK _ _ hs4.cR hs4.cN ?_
         clear hK K
         simp only [Act.put, zqA, zqB, zqC]
         refine tkZ 11 101 (.pointer (some ⟨bN, 15, none⟩)) rfl rfl (.inl ⟨by rfl, fun _ _ => by kernel_rfl⟩) (hs4.cR) (.inr hs4.cN) ?_
         simp only [Act.put, zqA, zqB, zqC]
         refine wpAnyD_stepd (i := 12) (by kernel_rfl) rfl (by kernel_rfl) fun K hK => ?_
         refine step_blk_store (.slice va vn vc) oneH hs4.cN rfl rfl rfl rfl (by simp) fun w5 c5 o5 z5 => ?_
         simp only [List.setIfInBounds_toArray, List.set_cons_zero, List.set_cons_succ] at c5
         have hs9 := hs4.set hB c5 o5
         have ho9 := ho9.only o5 (fun b hb _ e => (hB.ne b hb).2 e)
         refine hK _ _ hs9.cR ?_
         clear hK K
         simp only [Act.put]
         refine wpAnyD_done (by kernel_rfl) ?_
         clear hs1 hs3
         go_wp2_with (fail)
         go_roundg (x14 - (j + 1) + 1)
         case measure => have := Hm.out; omega
         case rel => exact ⟨j + 1, _, _, _, by omega, by omega, by go_num, HREP.out.symm, hs9, ho9⟩
       ·obtain rfl : j = x14 := by omega
        have HH := Hrep
        clear Hrep Hm hlt hj
        have hleZ := hs.nw
        have hB' := hB.next (l := LH) (v := vH) hs.nw
        have hs' := hs.next ho.sl
        have hslvH : SlV vH := Own.shape ho
        clear hB hs ho HLl
        have hB := hB'
        have hs := hs'
        clear hB' hs'
        obtain ⟨NZ, hN⟩ : ∃ N, N = wr.heap.size := ⟨_, rfl⟩
        rw [← hN] at hB hs hleZ
        clear hN
        obtain ⟨KPZ, hKP⟩ : ∃ M, M = (fun w : World => KPH w ∧ Sl w (fun b => NH ≤ b ∧ b < NZ) LH vH) := ⟨_, rfl⟩
        rw [← hKP] at hB hs
        have HKPZ := Lib.hid hKP
        clear hKP
        have hkp := hs.kp
        rw [HKPZ.out] at hkp
        obtain ⟨hkp, kH⟩ := hkp
        rw [HKPH.out] at hkp
        obtain ⟨hkp, kV⟩ := hkp
        rw [HKPV.out] at hkp
        obtain ⟨hkp, kO⟩ := hkp
        rw [HKPO.out] at hkp
        obtain ⟨_, kP⟩ := hkp
        have hle : w.heap.size ≤ NP := hle0
        have b2P : b2 < NP := hb2P
        have hc2 := hs.c2
        have hcN := hs.cN
        have hrd := hs.rd
        have hol := hs.ol
        have b2g := hB.h2
        have b2N := hB.n2
        have hgg := hB.hg
        have hSS := hB.hS
        clear hs HKPZ HKPH HKPV HKPO
        have hvals := mkN_val (k := k) (x0 := x0) (x1 := x1) (x2 := x2) (x3 := x3) (x4 := x4) (x5 := x5) (x6 := x6) (x7 := x7) (x8 := x8) (x9 := x9) (x10 := x10) (by omega) hx0 hx1 hx2 hx3 hx4 hx5 hx6 LP LO LV LH vP vO vV vH
        have hone : (#[.int .u8 (k : Int), .int .u64 (x0 : Int), .int .u64 (x1 : Int), .int .u64 (x2 : Int), .int .u64 (x3 : Int), .int .u64 (x4 : Int), .int .u64 (x5 : Int), .int .u64 (x6 : Int), .int .i64 (x7 : Int), .int .i64 (x8 : Int), .int .i64 (x9 : Int), .int .i64 (x10 : Int), vP, vO, vV, vH] : Array Value).all (·.oneCell') = true := by
         obtain ⟨_, _, _, rfl⟩ := hslvP
         obtain ⟨_, _, _, rfl⟩ := hslvO
         obtain ⟨_, _, _, rfl⟩ := hslvV
         obtain ⟨_, _, _, rfl⟩ := hslvH
         simp [Value.oneCell']
        obtain ⟨CS, hCS⟩ : ∃ CS : Array Value, CS = #[.int .u8 (k : Int), .int .u64 (x0 : Int), .int .u64 (x1 : Int), .int .u64 (x2 : Int), .int .u64 (x3 : Int), .int .u64 (x4 : Int), .int .u64 (x5 : Int), .int .u64 (x6 : Int), .int .i64 (x7 : Int), .int .i64 (x8 : Int), .int .i64 (x9 : Int), .int .i64 (x10 : Int), vP, vO, vV, vH] := ⟨_, rfl⟩
        rw [← hCS] at hcN hone hvals
        have hsz : CS.size = 16 := by rw [hCS]; rfl
        clear hCS
        go_wp2_with (first | ((with_reducible apply ugZ); rfl) | ((with_reducible (first | apply len_B | apply len_BB | apply len_N | apply len_V | apply len_VV | apply len_P | apply len_O | apply len_H)); assumption) | ((with_reducible refine stop_if kB ?_ ?_); rfl))
        refine Stop.go (blk_load_all Tryd.underlying33 rfl (by rw [hsz]; kernel_rfl) hcN rfl ?_)
        go_wp2_with (first | ((with_reducible apply ugZ); rfl) | ((with_reducible (first | apply len_B | apply len_BB | apply len_N | apply len_V | apply len_VV | apply len_P | apply len_O | apply len_H)); assumption) | ((with_reducible refine stop_if kB ?_ ?_); rfl))
        refine Stop.go (blk_store_all hc2 rfl rfl (by rw [hsz]; kernel_rfl) (by rw [hsz]; rfl) hone fun w9 c9 o9 z9 => ?_)
        go_wp2_with (first | ((with_reducible apply ugZ); rfl) | ((with_reducible (first | apply len_B | apply len_BB | apply len_N | apply len_V | apply len_VV | apply len_P | apply len_O | apply len_H)); assumption) | ((with_reducible refine stop_if kB ?_ ?_); rfl))
        refine bodyPost_ret (results_cell_row rfl _ w9 b2 _ _ _ _ rfl c9 Tryd.underlying33 rfl (by rw [hsz]; kernel_rfl)) rfl ?_
        have hpe := HR.out.trans (parse_steps HK.out HC0.out HC1.out HC2.out HC3.out HC4.out HC5.out HC6.out HC7.out HC8.out HC9.out HC10.out HC11.out HP.out HC12.out HO.out HV.out HC14.out HH.out)
        rw [hpe]
        refine ⟨_, rfl, ⟨vP, vO, vV, vH, hvals.symm, ?_, ?_, ?_, ?_, ?_, ?_, ?_, ?_⟩, hrd.only o9 (by omega) (fun b hb _ e => by have := hSS b hb; omega), hol.trans o9 fun b hb e => by omega⟩
        ·exact (kP.only o9 (fun b hb _ e => by omega)).wide fun b hb _ => by omega
        ·exact (kO.only o9 (fun b hb _ e => by omega)).wide fun b hb _ => by omega
        ·exact (kV.only o9 (fun b hb _ e => by omega)).wide fun b hb _ => by omega
        ·exact (kH.only o9 (fun b hb _ e => by omega)).wide fun b hb _ => by omega
        ·show I64 (x7 : Int); unfold I64; omega
        ·show I64 (x8 : Int); unfold I64; omega
        ·show I64 (x9 : Int); unfold I64; omega
        ·show I64 (x10 : Int); unfold I64; omega
end Go.Proofs.YtjkffjngamagkaaDoor
