/- package caller: what a caller is, in plain Lean and in memory. -/
import Derived.Test.YtjkffjngamagkaaDoorGen
import Derived.Test.YtjkffjngamagkaaDoorPackD
import Derived.Test.YtjkffjngamagkaaDoorPackF
namespace Go.Arm
open Go.RowKit
structure WantR where
 note : NoteR
 over : Bool
 code : Int
 stamp : UInt64
 hits : List HitR
structure CallR where
 self : Int
 B : List WantR
 Q : List WantR
structure LetR where
 src : Int
 dst : Int
 body : List UInt8
structure BatR where
 num : UInt64
 over : Bool
 code : Int
 stamp : UInt64
structure QstR where
 num : UInt64
 over : Bool
 code : Int
 stamp : UInt64
 hits : List HitR
def WantR.bat (x : WantR) : BatR := ⟨x.note.batch, x.over, x.code, x.stamp⟩
def WantR.qst (x : WantR) : QstR := ⟨x.note.query, x.over, x.code, x.stamp, x.hits⟩
def newW (n : NoteR) : WantR := ⟨n, false, 0, 0, []⟩
def askN (num : UInt64) (ops : List OpR) : NoteR := { zeroN with kind := 1, batch := num, ops := ops }
def letOf (self : Int) (n : NoteR) : LetR := ⟨self, 0, frame (encNote n)⟩
def CallR.putCode (c : CallR) (num : UInt64) (ops : List OpR) : Int :=
 if nright (askN num ops) = false then 4 else if (c.B.any fun x => x.note.batch == num) = true then 7 else if 64 ≤ c.B.length then 8 else 0
def CallR.put (c : CallR) (num : UInt64) (ops : List OpR) : CallR := if c.putCode num ops = 0 then { c with B := c.B ++ [newW (askN num ops)] } else c
def CallR.putL (c : CallR) (num : UInt64) (ops : List OpR) : List LetR := if c.putCode num ops = 0 then [letOf c.self (askN num ops)] else []
def CallR.askCode (c : CallR) (n : NoteR) : Int :=
 if nright n = false ∨ n.kind ≠ 8 then 4 else if (c.Q.any fun x => x.note.query == n.query) = true then 7 else if 64 ≤ c.Q.length then 8 else 0
def CallR.ask (c : CallR) (n : NoteR) : CallR := if c.askCode n = 0 then { c with Q := c.Q ++ [newW n] } else c
def CallR.askL (c : CallR) (n : NoteR) : List LetR := if c.askCode n = 0 then [letOf c.self n] else []
def hearB (n : NoteR) (x : WantR) : WantR := if x.note.batch = n.batch ∧ (x.over = false ∨ x.code ≠ 0) then { x with over := true, code := n.code, stamp := n.stamp } else x
def hearQ (n : NoteR) (x : WantR) : WantR := if x.note.query = n.query ∧ x.over = false then { x with over := true, code := n.code, stamp := n.stamp, hits := n.hits } else x
def CallR.heard (c : CallR) (n : NoteR) : CallR := if n.kind = 2 then { c with B := c.B.map (hearB n) } else if n.kind = 11 then { c with Q := c.Q.map (hearQ n) } else c
def CallR.hear (c : CallR) (src : Int) (n : NoteR) (e : Int) : CallR := if e ≠ 0 ∨ src ≠ 0 then c else c.heard n
def letsOf (self : Int) (l : List WantR) : List LetR := (l.filter fun x => !x.over).map fun x => letOf self x.note
def CallR.wake (c : CallR) : List LetR := letsOf c.self c.B ++ letsOf c.self c.Q
instance : Rep Nat where
 sz := 1
 rd _ _ x cs := cs = [.pointer (some ⟨x, 0, none⟩)]
 len h := by subst h; rfl
 one h := by subst h; intro u hu; simp at hu; subst hu; rfl
 keep h _ := h
instance : Rep LetR where
 sz := 3
 rd w S x cs := ∃ v, cs = [.int .i64 x.src, .int .i64 x.dst, v] ∧ Sl w S x.body v
 len h := by obtain ⟨_, rfl, _⟩ := h; rfl
 one h := by
  obtain ⟨_, rfl, h1⟩ := h
  obtain ⟨_, _, _, rfl⟩ := Sl.shape h1
  intro u hu
  simp at hu
  rcases hu with rfl | rfl | rfl <;> rfl
 keep h hk := by
  obtain ⟨v, rfl, h1⟩ := h
  exact ⟨v, rfl, h1.keep hk⟩
instance : Rep BatR where
 sz := 4
 rd _ _ x cs := cs = [.int .u64 (x.num.toNat : Int), .bool x.over, .int .i64 x.code, .int .u64 (x.stamp.toNat : Int)]
 len h := by subst h; rfl
 one h := by subst h; intro u hu; simp at hu; rcases hu with rfl | rfl | rfl | rfl <;> rfl
 keep h _ := h
instance : Rep QstR where
 sz := 5
 rd w S x cs := ∃ v, cs = [.int .u64 (x.num.toNat : Int), .bool x.over, .int .i64 x.code, .int .u64 (x.stamp.toNat : Int), v] ∧ Sl w S x.hits v
 len h := by obtain ⟨_, rfl, _⟩ := h; rfl
 one h := by
  obtain ⟨_, rfl, h1⟩ := h
  obtain ⟨_, _, _, rfl⟩ := Sl.shape h1
  intro u hu
  simp at hu
  rcases hu with rfl | rfl | rfl | rfl | rfl <;> rfl
 keep h hk := by
  obtain ⟨v, rfl, h1⟩ := h
  exact ⟨v, rfl, h1.keep hk⟩
end Go.Arm
namespace Go.Proofs.YtjkffjngamagkaaDoor
open Go Go.RowKit Go.Arm
theorem rowPB : Row Tryd.prog 146 151 (.pointer none) 1 8 := ⟨Tryd.underlying146, by kernel_rfl⟩
theorem rowPQ : Row Tryd.prog 147 161 (.pointer none) 1 8 := ⟨Tryd.underlying147, by kernel_rfl⟩
theorem rowL : Row Tryd.prog 59 158 (.agg #[.int .i64 0, .int .i64 0, .slice none 0 0]) 3 40 := ⟨Tryd.underlying59, by kernel_rfl⟩
theorem rowBat : Row Tryd.prog 87 90 (.agg #[.int .u64 0, .bool false, .int .i64 0, .int .u64 0]) 4 32 := ⟨Tryd.underlying87, by kernel_rfl⟩
theorem rowQst : Row Tryd.prog 91 94 (.agg #[.int .u64 0, .bool false, .int .i64 0, .int .u64 0, .slice none 0 0]) 5 56 := ⟨Tryd.underlying91, by kernel_rfl⟩
def BatB (w : World) (S : Nat → Prop) (b : Nat) (x : WantR) : Prop :=
 ∃ v, Blk w b 155 #[.int .u64 (x.note.batch.toNat : Int), .bool x.over, .int .i64 x.code, .int .u64 (x.stamp.toNat : Int), v] ∧ Sl w S (frame (encNote x.note)) v
def QstB (w : World) (S : Nat → Prop) (b : Nat) (x : WantR) : Prop :=
 ∃ vh v, Blk w b 163 #[.int .u64 (x.note.query.toNat : Int), .bool x.over, .int .i64 x.code, .int .u64 (x.stamp.toNat : Int), vh, v] ∧ Sl w S x.hits vh ∧ Sl w S (frame (encNote x.note)) v
def Each (T : Nat → WantR → Prop) (base : Nat) (M : Nat → Prop) (bs : List Nat) (xs : List WantR) : Prop :=
 bs.length = xs.length ∧ bs.Nodup ∧ (∀ b ∈ bs, base ≤ b ∧ M b) ∧ ∀ (i b : Nat) (x : WantR), bs[i]? = some b → xs[i]? = some x → T b x
theorem Each.mono {T T' : Nat → WantR → Prop} {base : Nat} {M M' : Nat → Prop} {bs : List Nat} {xs : List WantR} (h : Each T base M bs xs) (hM : ∀ b, b ∈ bs → M b → M' b) (hT : ∀ b x, b ∈ bs → M b → T b x → T' b x) : Each T' base M' bs xs :=
 ⟨h.1, h.2.1, fun b hb => ⟨(h.2.2.1 b hb).1, hM b hb (h.2.2.1 b hb).2⟩, fun i b x h1 h2 => hT b x (List.mem_of_getElem? h1) (h.2.2.1 b (List.mem_of_getElem? h1)).2 (h.2.2.2 i b x h1 h2)⟩
theorem Each.nil (T : Nat → WantR → Prop) (base : Nat) (M : Nat → Prop) : Each T base M [] [] := ⟨rfl, List.nodup_nil, (fun b hb => by simp at hb), fun i b x h => by simp at h⟩
theorem Each.snoc {T : Nat → WantR → Prop} {base : Nat} {M : Nat → Prop} {bs : List Nat} {xs : List WantR} (h : Each T base M bs xs) {b : Nat} {x : WantR} (hb : b ∉ bs) (h0 : base ≤ b) (hM : M b) (hT : T b x) : Each T base M (bs ++ [b]) (xs ++ [x]) := by
 obtain ⟨h1, h2, h3, h4⟩ := h
 refine ⟨by simp [h1], ?_, ?_, ?_⟩
 ·rw [List.nodup_append]
  exact ⟨h2, by simp, fun a ha c hc e => by simp at hc; subst hc; subst e; exact hb ha⟩
 ·intro c hc
  rcases List.mem_append.1 hc with hc | hc
  ·exact h3 c hc
  ·simp at hc; subst hc; exact ⟨h0, hM⟩
 ·intro i c y e1 e2
  rcases Nat.lt_or_ge i bs.length with hi | hi
  ·rw [List.getElem?_append_left hi] at e1
   rw [List.getElem?_append_left (by omega)] at e2
   exact h4 i c y e1 e2
  ·rw [List.getElem?_append_right hi] at e1
   rw [List.getElem?_append_right (by omega), ← h1] at e2
   obtain ⟨hl, e3⟩ := List.getElem?_eq_some_iff.1 e1
   have hz : i - bs.length = 0 := by simpa using hl
   rw [hz] at e1 e2
   simp at e1 e2
   subst e1; subst e2; exact hT
theorem Each.ex {T : Nat → WantR → Prop} {base : Nat} {M : Nat → Prop} {bs : List Nat} {xs : List WantR} (h : Each T base M bs xs) {b : Nat} (hb : b ∈ bs) : ∃ x, T b x := by
 obtain ⟨i, hi, e⟩ := List.mem_iff_getElem.1 hb
 have hi2 : i < xs.length := h.1 ▸ hi
 exact ⟨xs[i], h.2.2.2 i b xs[i] (by simp [← e, hi]) (by simp [hi2])⟩
theorem Each.set {T T' : Nat → WantR → Prop} {base : Nat} {M : Nat → Prop} {bs : List Nat} {xs : List WantR} (h : Each T base M bs xs) {i b : Nat} {y : WantR} (hb : bs[i]? = some b) (hT : ∀ c x, c ∈ bs → c ≠ b → T c x → T' c x) (hy : T' b y) : Each T' base M bs (xs.set i y) := by
 obtain ⟨h1, h2, h3, h4⟩ := h
 refine ⟨by simp [h1], h2, h3, ?_⟩
 intro j c x e1 e2
 by_cases hij : i = j
 ·subst hij
  rw [hb] at e1
  obtain rfl := Option.some.inj e1
  rw [List.getElem?_set_self (by have := (List.getElem?_eq_some_iff.1 hb).1; omega)] at e2
  obtain rfl := Option.some.inj e2
  exact hy
 ·rw [List.getElem?_set_ne hij] at e2
  refine hT c x (List.mem_of_getElem? e1) ?_ (h4 j c x e1 e2)
  rintro rfl
  obtain ⟨l1, g1⟩ := List.getElem?_eq_some_iff.1 hb
  obtain ⟨l2, g2⟩ := List.getElem?_eq_some_iff.1 e1
  exact hij ((List.getElem_inj (h₀ := l1) (h₁ := l2) h2).1 (g1.trans g2.symm))
def CalP (w : World) (base : Nat) (M S : Nat → Prop) (g : Nat) (c : CallR) : Prop :=
 ∃ vb vq bs qs, Blk w g 149 #[.int .i64 c.self, vb, vq] ∧ base ≤ g ∧ M g ∧
  Own w base 151 (fun _ => False) bs vb ∧ (∀ k, vb.ownBlock = some k → M k) ∧
  Own w base 161 (fun _ => False) qs vq ∧ (∀ k, vq.ownBlock = some k → M k) ∧
  Each (BatB w S) base M bs c.B ∧ Each (QstB w S) base M qs c.Q
def Fr (w : World) (base : Nat) (M S : Nat → Prop) : Prop := ∀ k, M k → base ≤ k ∧ k < w.heap.size ∧ ¬ S k
theorem BatB.keep {w w' : World} {S S' : Nat → Prop} {b : Nat} {x : WantR} (h : BatB w S b x) (hb : w'.heap[b]? = w.heap[b]?) (hk : ∀ k, S k → k < w.heap.size → w'.heap[k]? = w.heap[k]? ∧ S' k) : BatB w' S' b x := by
 obtain ⟨v, h1, h2⟩ := h
 exact ⟨v, hb.trans h1, h2.keep hk⟩
theorem QstB.keep {w w' : World} {S S' : Nat → Prop} {b : Nat} {x : WantR} (h : QstB w S b x) (hb : w'.heap[b]? = w.heap[b]?) (hk : ∀ k, S k → k < w.heap.size → w'.heap[k]? = w.heap[k]? ∧ S' k) : QstB w' S' b x := by
 obtain ⟨vh, v, h1, h2, h3⟩ := h
 exact ⟨vh, v, hb.trans h1, h2.keep hk, h3.keep hk⟩
theorem CalP.keep {w w' : World} {base : Nat} {M M' S S' : Nat → Prop} {g : Nat} {c : CallR} (h : CalP w base M S g c) (hM : ∀ k, M k → w'.heap[k]? = w.heap[k]? ∧ M' k) (hk : ∀ k, S k → k < w.heap.size → w'.heap[k]? = w.heap[k]? ∧ S' k) : CalP w' base M' S' g c := by
 obtain ⟨vb, vq, bs, qs, h1, h2, h3, h4, h5, h6, h7, h8, h9⟩ := h
 exact ⟨vb, vq, bs, qs, (hM g h3).1.trans h1, h2, (hM g h3).2, h4.keep (fun _ h => h.elim) (fun b hb => (hM b (h5 b hb)).1), fun k hk => (hM k (h5 k hk)).2, h6.keep (fun _ h => h.elim) (fun b hb => (hM b (h7 b hb)).1), fun k hk => (hM k (h7 k hk)).2,
  h8.mono (fun b _ h => (hM b h).2) fun b x _ hm h => h.keep (hM b hm).1 hk, h9.mono (fun b _ h => (hM b h).2) fun b x _ hm h => h.keep (hM b hm).1 hk⟩
theorem CalP.below {w w' : World} {base : Nat} {M S : Nat → Prop} {g : Nat} {c : CallR} (h : CalP w base M S g c) (hf : Fr w base M S) {B : Nat} (hb : Below B w w') (hB : w.heap.size ≤ B) : CalP w' base M S g c :=
 h.keep (fun k hk => ⟨hb.block k (by have := (hf k hk).2.1; omega), hk⟩) fun k hk hlt => ⟨hb.block k (by omega), hk⟩
theorem CalP.only {w w' : World} {base : Nat} {M S : Nat → Prop} {g : Nat} {c : CallR} (h : CalP w base M S g c) (hf : Fr w base M S) {F : Nat → Prop} (ho : Only F w w') (h1 : ∀ k, M k → ¬ F k) (h2 : ∀ k, S k → k < w.heap.size → ¬ F k) : CalP w' base M S g c :=
 h.keep (fun k hk => ⟨ho.block k (hf k hk).2.1 (h1 k hk), hk⟩) fun k hk hlt => ⟨ho.block k hlt (h2 k hk hlt), hk⟩
theorem Fr.mono {w w' : World} {base : Nat} {M S S' : Nat → Prop} (h : Fr w base M S) (hs : w.heap.size ≤ w'.heap.size) (hS : ∀ k, M k → k < w.heap.size → S' k → S k) : Fr w' base M S' :=
 fun k hk => ⟨(h k hk).1, by have := (h k hk).2.1; omega, fun e => (h k hk).2.2 (hS k hk (h k hk).2.1 e)⟩
theorem Fr.below {w w' : World} {base : Nat} {M S : Nat → Prop} (h : Fr w base M S) {B : Nat} (hb : Below B w w') : Fr w' base M S := h.mono hb.size fun _ _ _ h => h
section
variable {ops : Array Oper} {Q : Exit → Act → World → Prop} {a : Act} {w : World} {rest : List Oper}
variable {dst : Option Tmp} {ty : TypeId} {pos : String} {after : Array Edge}
theorem len_PB {x : Operand} {S : Nat → Prop} {l : List Nat} (hx : Sl w S l (a.eval x)) (h : wpList Tryd.prog ops Q rest (a.put dst (.int .i64 (l.length : Int))) w) :
  wpList Tryd.prog ops Q (⟨dst, .call ⟨.builtin .len, #[x], #[146]⟩, ty, pos, after, none⟩ :: rest) a w := wpList_len rowPB.1 hx h
theorem len_PQ {x : Operand} {S : Nat → Prop} {l : List Nat} (hx : Sl w S l (a.eval x)) (h : wpList Tryd.prog ops Q rest (a.put dst (.int .i64 (l.length : Int))) w) :
  wpList Tryd.prog ops Q (⟨dst, .call ⟨.builtin .len, #[x], #[147]⟩, ty, pos, after, none⟩ :: rest) a w := wpList_len rowPQ.1 hx h
theorem len_L {x : Operand} {S : Nat → Prop} {l : List LetR} (hx : Sl w S l (a.eval x)) (h : wpList Tryd.prog ops Q rest (a.put dst (.int .i64 (l.length : Int))) w) :
  wpList Tryd.prog ops Q (⟨dst, .call ⟨.builtin .len, #[x], #[59]⟩, ty, pos, after, none⟩ :: rest) a w := wpList_len rowL.1 hx h
theorem len_Bat {x : Operand} {S : Nat → Prop} {l : List BatR} (hx : Sl w S l (a.eval x)) (h : wpList Tryd.prog ops Q rest (a.put dst (.int .i64 (l.length : Int))) w) :
  wpList Tryd.prog ops Q (⟨dst, .call ⟨.builtin .len, #[x], #[87]⟩, ty, pos, after, none⟩ :: rest) a w := wpList_len rowBat.1 hx h
theorem len_Qst {x : Operand} {S : Nat → Prop} {l : List QstR} (hx : Sl w S l (a.eval x)) (h : wpList Tryd.prog ops Q rest (a.put dst (.int .i64 (l.length : Int))) w) :
  wpList Tryd.prog ops Q (⟨dst, .call ⟨.builtin .len, #[x], #[91]⟩, ty, pos, after, none⟩ :: rest) a w := wpList_len rowQst.1 hx h
def kC : Op → Bool
 | .load _ _ => true
 | .store _ _ _ => true
 | .box _ _ => true
 | .alloc _ => true
 | .indexAddr _ _ _ => true
 | .call ⟨.builtin b, _, _⟩ => match b with
  | .len => false
  | _ => true
 | .slice _ _ _ _ _ => true
 | .buildSlice _ _ _ => true
 | _ => false
theorem idx_PB {Q : Exit → Act → World → Prop} {x i : Operand} {S : Nat → Prop} {l : List Nat} (hx : Sl w S l (a.eval x)) {k : IntKind} {n : Int} (hi : a.eval i = .int k n) (h0 : 0 ≤ n) (hn : n < l.length)
  (h : ∀ b o y, l[n.toNat]? = some y → w.cell? ⟨b, o, none⟩ = some (.pointer (some ⟨y, 0, none⟩)) → wpList Tryd.prog ops Q rest (a.put dst (.pointer (some ⟨b, o, none⟩))) w) :
  wpList Tryd.prog ops Q (⟨dst, .indexAddr 146 x i, ty, pos, after, none⟩ :: rest) a w :=
 wpList_index1 rowPB rfl hx hi h0 hn fun b o u y h1 h2 h3 => h b o y h1 (by have h2 : [u] = [Value.pointer (some ⟨y, 0, none⟩)] := h2; simp at h2; rw [← h2]; exact h3)
theorem idx_PQ {Q : Exit → Act → World → Prop} {x i : Operand} {S : Nat → Prop} {l : List Nat} (hx : Sl w S l (a.eval x)) {k : IntKind} {n : Int} (hi : a.eval i = .int k n) (h0 : 0 ≤ n) (hn : n < l.length)
  (h : ∀ b o y, l[n.toNat]? = some y → w.cell? ⟨b, o, none⟩ = some (.pointer (some ⟨y, 0, none⟩)) → wpList Tryd.prog ops Q rest (a.put dst (.pointer (some ⟨b, o, none⟩))) w) :
  wpList Tryd.prog ops Q (⟨dst, .indexAddr 147 x i, ty, pos, after, none⟩ :: rest) a w :=
 wpList_index1 rowPQ rfl hx hi h0 hn fun b o u y h1 h2 h3 => h b o y h1 (by have h2 : [u] = [Value.pointer (some ⟨y, 0, none⟩)] := h2; simp at h2; rw [← h2]; exact h3)
end
end Go.Proofs.YtjkffjngamagkaaDoor
