/- The words of programs: what the lexer and the reference say of one word, as plain functions on bytes. No function of the program is walked here. Trees of nodes as values, and how they lie in memory. No function of the program is walked here. Outside of some blocks a world is as it was. No function of the program is walked here. The parser as plain functions: on the tokens of a text, from one state to the next. No function of the program is walked here. How the parser lies in memory. No function of the program is walked here. -/
import Derived.Test.YthggagophcnkfaaGreatDoorAgg
namespace Go.Proofs.YthggagophcnkfaaGreatDoor.sx
open Go.RowKit
set_option linter.unusedSimpArgs false
set_option linter.unusedVariables false
def letterB (c : UInt8) : Bool := decide (97 ≤ c.toNat) && decide (c.toNat ≤ 122)
def digitB (c : UInt8) : Bool := decide (48 ≤ c.toNat) && decide (c.toNat ≤ 57)
def partB (c : UInt8) : Bool := letterB c || digitB c || c == 95
def whiteB (c : UInt8) : Bool := c == 32 || c == 9 || c == 10 || c == 13
def cntN (p : UInt8 → Bool) : List UInt8 → Nat
 | [] => 0
 | c :: l => if p c then cntN p l + 1 else 0
def skipS : Bool → List UInt8 → Nat
 | _, [] => 0
 | true, c :: l => if c == 10 then skipS false l + 1 else skipS true l + 1
 | false, c :: l => if whiteB c then skipS false l + 1 else if c == 35 then skipS true l + 1 else 0
def two (a b : UInt8) : Bool := (a == 61 && b == 61) || (a == 33 && b == 61) || (a == 60 && b == 61) || (a == 62 && b == 61) || (a == 46 && b == 46)
def ones : List UInt8 := [60, 62, 61, 43, 45, 42, 40, 41, 123, 125, 44, 58, 59]
def symN : List UInt8 → Nat
 | [] => 0
 | [a] => if ones.contains a then 1 else 0
 | a :: b :: _ => if two a b then 2 else if ones.contains a then 1 else 0
def beginsB : List UInt8 → Bool
 | [] => false
 | c :: l => letterB c || digitB c || decide (0 < symN (c :: l))
def wrongN : List UInt8 → Nat
 | [] => 0
 | c :: l => if whiteB c || c == 35 || beginsB (c :: l) then 0 else wrongN l + 1
theorem cntN_le (p : UInt8 → Bool) (l : List UInt8) : cntN p l ≤ l.length := by
 induction l with
 | nil => exact Nat.le_refl _
 | cons c l ih =>
  rw [cntN]
  split
  ·simp only [List.length_cons]; omega
  ·omega
theorem wrongN_le (l : List UInt8) : wrongN l ≤ l.length := by
 induction l with
 | nil => exact Nat.le_refl _
 | cons c l ih =>
  rw [wrongN]
  split
  ·omega
  ·simp only [List.length_cons]; omega
theorem skipS_le (b : Bool) (l : List UInt8) : skipS b l ≤ l.length := by
 induction l generalizing b with
 | nil => cases b <;> simp [skipS]
 | cons c l ih =>
  have h1 := ih true
  have h2 := ih false
  cases b with
  | false =>
   rw [skipS]
   simp only [List.length_cons]
   split
   ·omega
   ·split <;> omega
  | true =>
   rw [skipS]
   simp only [List.length_cons]
   split <;> omega
theorem symN_le (l : List UInt8) : symN l ≤ l.length ∧ symN l ≤ 2 := by
 match l with
 | [] => simp [symN]
 | [a] => simp only [symN]; split <;> simp
 | a :: b :: l =>
  simp only [symN, List.length_cons]
  split
  ·omega
  ·split <;> omega
def words : List String := ["sort", "relation", "counter", "set", "register", "invariant", "operation", "key", "reference", "to", "count", "acyclic", "all", "sum", "in", "addwins", "removewins", "last", "multi", "hide", "ordered", "require", "hold", "insert", "delete", "add", "from", "put", "drop", "assign", "for", "where", "and", "or", "not"]
def keys : List (List UInt8) := words.map fun s => s.toUTF8.data.toList
def tokB (l : List UInt8) : Nat × Nat :=
 match l with
 | [] => (0, 0)
 | c :: r =>
  if letterB c then (if keys.contains (l.take (cntN partB l)) then 2 else 1, cntN partB l)
  else if digitB c then (3, cntN digitB l)
  else if 0 < symN l then (4, symN l)
  else (5, wrongN r + 1)
def kindB (l : List UInt8) : Nat := if l = [] ∨ 4096 < l.length then 0 else if skipS false l = 0 ∧ (tokB l).2 = l.length then (tokB l).1 else 0
def numberB (l : List UInt8) : Bool := decide (l.length ≤ 4) && kindB l == 3
end Go.Proofs.YthggagophcnkfaaGreatDoor.sx
namespace Go.Proofs.YthggagophcnkfaaGreatDoor.sx
open Go.RowKit Go.Proofs.YthggagophcnkfaaGreatDoor.agg
set_option linter.unusedSimpArgs false
set_option linter.unusedVariables false
inductive Nd where
 | mk (kind : Int) (text : ByteArray) (fr to : Int) (kv : Value) (kids : List Nd)
namespace Nd
def kind : Nd → Int | .mk k _ _ _ _ _ => k
def text : Nd → ByteArray | .mk _ t _ _ _ _ => t
def fr : Nd → Int | .mk _ _ a _ _ _ => a
def to : Nd → Int | .mk _ _ _ e _ _ => e
def kv : Nd → Value | .mk _ _ _ _ v _ => v
def kids : Nd → List Nd | .mk _ _ _ _ _ ks => ks
def cells (n : Nd) : Array Value := #[.int .i64 n.kind, .string n.text, .int .i64 n.fr, .int .i64 n.to, n.kv]
theorem ind {P : Nd → Prop} (h : ∀ k t a e v ks, (∀ x ∈ ks, P x) → P (.mk k t a e v ks)) (n : Nd) : P n :=
 Nd.rec (motive_1 := P) (motive_2 := fun l => ∀ x ∈ l, P x) (fun k t a e v ks ih => h k t a e v ks ih) (by simp) (fun hd tl h1 h2 x hx => by
  rcases List.mem_cons.1 hx with rfl | hx
  ·exact h1
  ·exact h2 x hx) n
end Nd
def KidsAt (G : Nat → Prop) (w : World) (kv : Value) (ks : List Nd) : Prop :=
 ∃ ao cap, kv = .slice ao ks.length cap ∧ ks.length ≤ 140737488355328 ∧ (0 < ks.length → ∃ b o, ao = some ⟨b, o, none⟩ ∧ G b ∧ b < w.heap.size ∧ ∀ i (h : i < ks.length) j u, (ks[i].cells).toList[j]? = some u → w.cell? ⟨b, o + i * 5 + j, none⟩ = some u)
inductive NodeIn (G : Nat → Prop) (w : World) : Nd → Prop where
 | mk {k t a e kv ks} : KidsAt G w kv ks → (∀ n ∈ ks, NodeIn G w n) → NodeIn G w (.mk k t a e kv ks)
theorem KidsAt.same {G H : Nat → Prop} {w w' : World} {kv : Value} {ks : List Nd} (h : KidsAt G w kv ks) (hb : ∀ b, b < w.heap.size → G b → w'.heap[b]? = w.heap[b]?) (hs : w.heap.size ≤ w'.heap.size) (hG : ∀ b, b < w.heap.size → G b → H b) : KidsAt H w' kv ks := by
 obtain ⟨ao, cap, rfl, hm, hc⟩ := h
 refine ⟨ao, cap, rfl, hm, fun h0 => ?_⟩
 obtain ⟨b, o, rfl, hB, hlt, hcj⟩ := hc h0
 exact ⟨b, o, rfl, hG b hlt hB, Nat.lt_of_lt_of_le hlt hs, fun i hi j u hu => (World.cell?_of_block (w := w) (w' := w') (a := ⟨b, _, none⟩) (hb b hlt hB)).trans (hcj i hi j u hu)⟩
theorem NodeIn.at_ {G : Nat → Prop} {w : World} {n : Nd} (h : NodeIn G w n) : KidsAt G w n.kv n.kids ∧ (∀ x ∈ n.kids, NodeIn G w x) := by
 cases h with
 | mk h1 h2 => exact ⟨h1, h2⟩
theorem NodeIn.same {G H : Nat → Prop} {w w' : World} (hb : ∀ b, b < w.heap.size → G b → w'.heap[b]? = w.heap[b]?) (hs : w.heap.size ≤ w'.heap.size) (hG : ∀ b, b < w.heap.size → G b → H b) {n : Nd} : NodeIn G w n → NodeIn H w' n := by
 induction n using Nd.ind with
 | h k t a e v ks ih =>
  intro h
  obtain ⟨h1, h2⟩ := h.at_
  exact .mk (h1.same hb hs hG) (fun x hx => ih x hx (h2 x hx))
theorem NodeIn.later {G : Nat → Prop} {w w' : World} {n : Nd} (h : NodeIn G w n) (hb : Below w.heap.size w w') : NodeIn G w' n := h.same (fun b hb' _ => hb.block b hb') hb.size (fun _ _ h => h)
theorem NodeIn.mono {G H : Nat → Prop} {w : World} {n : Nd} (h : NodeIn G w n) (hG : ∀ b, b < w.heap.size → G b → H b) : NodeIn H w n := h.same (fun _ _ _ => rfl) (Nat.le_refl _) hG
def hasS (ws : List ByteArray) (x : ByteArray) : Bool := ws.any fun y => decide (y = x)
theorem hasS_iff {ws : List ByteArray} {x : ByteArray} : hasS ws x = true ↔ x ∈ ws := by
 unfold hasS
 rw [List.any_eq_true]
 constructor
 ·rintro ⟨y, hy, e⟩
  exact of_decide_eq_true e ▸ hy
 ·intro h
  exact ⟨x, h, decide_eq_true rfl⟩
inductive Tr where
 | mk (kind : Int) (text : ByteArray) (fr to : Int) (kids : List Tr)
namespace Tr
def kind : Tr → Int | .mk k _ _ _ _ => k
def text : Tr → ByteArray | .mk _ t _ _ _ => t
def fr : Tr → Int | .mk _ _ a _ _ => a
def to : Tr → Int | .mk _ _ _ e _ => e
def kids : Tr → List Tr | .mk _ _ _ _ ks => ks
theorem ind {P : Tr → Prop} (h : ∀ k t a e ks, (∀ x ∈ ks, P x) → P (.mk k t a e ks)) (n : Tr) : P n :=
 Tr.rec (motive_1 := P) (motive_2 := fun l => ∀ x ∈ l, P x) (fun k t a e ks ih => h k t a e ks ih) (by simp) (fun hd tl h1 h2 x hx => by
  rcases List.mem_cons.1 hx with rfl | hx
  ·exact h1
  ·exact h2 x hx) n
mutual
def count : Tr → Nat
 | .mk _ _ _ _ ks => 1 + counts ks
def counts : List Tr → Nat
 | [] => 0
 | t :: ts => count t + counts ts
end
theorem count_pos (t : Tr) : 1 ≤ t.count := by cases t; simp only [count]; omega
theorem counts_mem {l : List Tr} {t : Tr} (h : t ∈ l) : t.count ≤ counts l := by
 induction l with
 | nil => simp at h
 | cons x l ih =>
  rw [counts]
  rcases List.mem_cons.1 h with rfl | h
  ·omega
  ·have := ih h; omega
theorem count_kid {t x : Tr} (h : x ∈ t.kids) : x.count < t.count := by
 cases t with
 | mk k s a e ks =>
  have := counts_mem (show x ∈ ks from h)
  simp only [count]
  omega
end Tr
mutual
def Nd.tr : Nd → Tr
 | .mk k t a e _ ks => .mk k t a e (trs ks)
def trs : List Nd → List Tr
 | [] => []
 | n :: ns => n.tr :: trs ns
end
theorem trs_map (l : List Nd) : trs l = l.map Nd.tr := by
 induction l with
 | nil => rfl
 | cons x l ih => rw [trs, ih]; rfl
theorem Nd.tr_kids (n : Nd) : n.tr.kids = n.kids.map Nd.tr := by cases n; rw [← trs_map]; rfl
end Go.Proofs.YthggagophcnkfaaGreatDoor.sx
namespace Go.Proofs.YthggagophcnkfaaGreatDoor.sx
open Go.RowKit Go.Proofs.YthggagophcnkfaaGreatDoor.agg
set_option linter.unusedSimpArgs false
set_option linter.unusedVariables false
structure Kept (F : Nat → Prop) (w w' : World) : Prop where
 os : w'.os = w.os
 tape : w'.tape = w.tape
 output : w'.output = w.output
 size : w.heap.size ≤ w'.heap.size
 block : ∀ k, k < w.heap.size → ¬ F k → w'.heap[k]? = w.heap[k]?
theorem Kept.refl (F : Nat → Prop) (w : World) : Kept F w w := ⟨rfl, rfl, rfl, Nat.le_refl _, fun _ _ _ => rfl⟩
theorem Kept.trans {F : Nat → Prop} {a b c : World} (h : Kept F a b) (k : Kept F b c) : Kept F a c :=
 ⟨k.os.trans h.os, k.tape.trans h.tape, k.output.trans h.output, Nat.le_trans h.size k.size, fun i hi hF => (k.block i (Nat.lt_of_lt_of_le hi h.size) hF).trans (h.block i hi hF)⟩
theorem Kept.trans' {F G : Nat → Prop} {a b c : World} (h : Kept F a b) (k : Kept G b c) (hG : ∀ i, i < a.heap.size → G i → F i) : Kept F a c :=
 ⟨k.os.trans h.os, k.tape.trans h.tape, k.output.trans h.output, Nat.le_trans h.size k.size, fun i hi hF => (k.block i (Nat.lt_of_lt_of_le hi h.size) (fun g => hF (hG i hi g))).trans (h.block i hi hF)⟩
theorem Kept.mono {F G : Nat → Prop} {a b : World} (h : Kept F a b) (hG : ∀ i, i < a.heap.size → F i → G i) : Kept G a b :=
 ⟨h.os, h.tape, h.output, h.size, fun i hi hF => h.block i hi (fun f => hF (hG i hi f))⟩
theorem Kept.of_below {F : Nat → Prop} {a b : World} (h : Below a.heap.size a b) : Kept F a b := ⟨h.os, h.tape, h.output, h.size, fun i hi _ => h.block i hi⟩
theorem Kept.below {F : Nat → Prop} {a b : World} (h : Kept F a b) (B : Nat) (hB : B ≤ a.heap.size) (hF : ∀ i, F i → B ≤ i) : Below B a b :=
 ⟨h.os, h.tape, h.output, h.size, fun i hi => h.block i (Nat.lt_of_lt_of_le hi hB) (fun f => by have := hF i f; omega)⟩
theorem Kept.alloc {F : Nat → Prop} (w : World) (o : Obj) : Kept F w (w.alloc o) := .of_below ((Below.refl _ w).alloc (Nat.le_refl _) _)
theorem Kept.drew {F : Nat → Prop} (w : World) : Kept F w w.drew := .of_below (Below.refl _ w).drew
theorem Kept.setCell {F : Nat → Prop} (w : World) {a : Addr} (h : F a.block) (v : Value) : Kept F w (w.setCell a v) :=
 ⟨rfl, rfl, rfl, by simp, fun k _ hk => heap_setCell_other w a k v (fun e => hk (e ▸ h))⟩
theorem Kept.grown {F : Nat → Prop} {w w' : World} {row : Option Nat} (h : w.grownBy w' row) (hr : ∀ k, row = some k → F k) : Kept F w w' :=
 ⟨h.os, h.tape, h.output, h.size, fun k hk hF => h.block k hk (fun e => hF (hr k e.symm))⟩
def Fresh (w : World) (pv pv' : Value) : Prop := ∀ k, pv'.ownBlock = some k → pv.ownBlock = some k ∨ w.heap.size ≤ k
theorem fresh_same (w : World) (pv : Value) : Fresh w pv pv := fun _ h => .inl h
theorem fresh_trans {a b : World} {pv pv' pv'' : Value} (h : Fresh a pv pv') (hs : a.heap.size ≤ b.heap.size) (k : Fresh b pv' pv'') : Fresh a pv pv'' := fun i hi => by
 rcases k i hi with e | e
 ·exact h i e
 ·exact .inr (Nat.le_trans hs e)
theorem ownsRow_same {w w' : World} {base : Nat} {e : TypeId} {size : Nat} {v : Value} {n : Nat} {xs : List Value} (h : w.ownsRow base e size v n xs) (hb : ∀ k, v.ownBlock = some k → w'.heap[k]? = w.heap[k]?) : w'.ownsRow base e size v n xs := by
 refine ⟨h.1, ?_⟩
 rcases h.2 with hn | ⟨g, cap, cur, rfl, hg, hh, r⟩
 ·exact .inl hn
 ·exact .inr ⟨g, cap, cur, rfl, hg, by rw [hb g rfl]; exact hh, r⟩
end Go.Proofs.YthggagophcnkfaaGreatDoor.sx
namespace Go.Proofs.YthggagophcnkfaaGreatDoor.px
open Go.RowKit Go.Proofs.YthggagophcnkfaaGreatDoor.sx
set_option linter.unusedSimpArgs false
set_option linter.unusedVariables false
structure Tok where
 kind : Nat
 fr : Nat
 at_ : Nat
 to : Nat
deriving Inhabited, DecidableEq
structure Dg where
 code : Int
 at_ : Int
 to : Int
 text : ByteArray
deriving DecidableEq
def scan : Nat → List UInt8 → Nat → List Tok
 | 0, _, pos => [⟨0, pos, pos, pos⟩]
 | n + 1, l, pos =>
  match l.drop (skipS false l) with
  | [] => [⟨0, pos, pos + skipS false l, pos + skipS false l⟩]
  | c :: r => ⟨(tokB (c :: r)).1, pos, pos + skipS false l, pos + skipS false l + (tokB (c :: r)).2⟩ :: scan n ((c :: r).drop (tokB (c :: r)).2) (pos + skipS false l + (tokB (c :: r)).2)
def toks (T : ByteArray) : List Tok := scan (T.size + 1) T.data.toList 0
def lexDg (T : ByteArray) (t : Tok) : List Dg :=
 if t.kind = 5 then [⟨1, t.at_, t.to, ⟨#[]⟩⟩]
 else if t.kind = 3 then (if numberB (T.extract t.at_ t.to).data.toList then [] else [⟨2, t.at_, t.to, ⟨#[]⟩⟩])
 else if t.kind = 1 then (if 16 < t.to - t.at_ then [⟨3, t.at_, t.to, ⟨#[]⟩⟩] else [])
 else []
structure Tk where
 kind : Nat
 word : ByteArray
deriving Inhabited, DecidableEq
structure Rp where
 code : Int
 idx : Nat
 text : ByteArray
deriving DecidableEq
inductive PT where
 | mk (kind : Int) (text : ByteArray) (fr to : Nat) (kids : List PT)
namespace PT
def kind : PT → Int | .mk k _ _ _ _ => k
def text : PT → ByteArray | .mk _ t _ _ _ => t
def fr : PT → Nat | .mk _ _ a _ _ => a
def to : PT → Nat | .mk _ _ _ e _ => e
def kids : PT → List PT | .mk _ _ _ _ ks => ks
theorem ind {P : PT → Prop} (h : ∀ k t a e ks, (∀ x ∈ ks, P x) → P (.mk k t a e ks)) (n : PT) : P n :=
 PT.rec (motive_1 := P) (motive_2 := fun l => ∀ x ∈ l, P x) (fun k t a e ks ih => h k t a e ks ih) (by simp) (fun hd tl h1 h2 x hx => by
  rcases List.mem_cons.1 hx with rfl | hx
  ·exact h1
  ·exact h2 x hx) n
end PT
structure Ps where
 at_ : Nat
 reps : List Rp
abbrev M (α : Type) := Ps → α × Ps
section
variable (A : List Tk)
def tok (s : Ps) : Tk := A.getD s.at_ default
def word (s : Ps) : ByteArray := (tok A s).word
def isB (ws : List ByteArray) (s : Ps) : Bool := ((tok A s).kind == 2 || (tok A s).kind == 4) && hasS ws (word A s)
def next : M ByteArray := fun s => (word A s, { s with at_ := s.at_ + 1 })
def told (s : Ps) : Bool := match s.reps.getLast? with | some r => r.idx == s.at_ | none => false
def report (code : Int) (text : ByteArray) (s : Ps) : Ps := { s with reps := if told s then s.reps else s.reps ++ [⟨code, s.at_, text⟩] }
def demand (w : ByteArray) : M Bool := fun s => if isB A [w] s then (true, (next A s).2) else (false, report 4 w s)
def optional (w : ByteArray) : M Bool := fun s => if isB A [w] s then (true, (next A s).2) else (false, s)
def node (kind : Int) (first : Nat) (text : ByteArray) (kids : List PT) (s : Ps) : PT := .mk kind text first s.at_ kids
def missing (kind : Int) (s : Ps) : PT := node kind s.at_ ⟨#[]⟩ [] s
def name : M ByteArray := fun s => if (tok A s).kind = 1 then next A s else (⟨#[]⟩, report 4 ((ByteArray.mk #[110, 97, 109, 101])) s)
def dropZ (b : ByteArray) : ByteArray := ⟨(b.data.toList.dropWhile (· == 48)).toArray⟩
def digits : M ByteArray := fun s => if (tok A s).kind = 3 then (if dropZ (word A s) = ⟨#[]⟩ then (ByteArray.mk #[48]) else dropZ (word A s), (next A s).2) else (⟨#[]⟩, report 4 ((ByteArray.mk #[110, 117, 109, 98, 101, 114])) s)
def named : M PT := fun s => (node 35 s.at_ (name A s).1 [] (name A s).2, (name A s).2)
def number : M PT := fun s => (node 36 s.at_ (digits A s).1 [] (digits A s).2, (digits A s).2)
def integer : M PT := fun s =>
 let m := optional A ((ByteArray.mk #[45])) s
 let d := digits A m.2
 (node 37 s.at_ (if m.1 = true ∧ d.1 ≠ ⟨#[]⟩ ∧ d.1 ≠ (ByteArray.mk #[48]) then (ByteArray.mk #[45]) ++ d.1 else d.1) [] d.2, d.2)
def chosen (ws : List ByteArray) : M PT := fun s =>
 if isB A ws s then (node 38 s.at_ (next A s).1 [] (next A s).2, (next A s).2) else (missing 0 (report 4 (ws.headD ⟨#[]⟩) s), report 4 (ws.headD ⟨#[]⟩) s)
def maybe (w : ByteArray) : M PT := fun s => if isB A [w] s then chosen A [w] s else (missing 1 s, s)
def more (el : M PT) : Nat → List PT → M (List PT)
 | 0, ks, s => (ks, s)
 | n + 1, ks, s => if isB A [(ByteArray.mk #[44])] s then more el n (ks ++ [(el (next A s).2).1]) (el (next A s).2).2 else (ks, s)
def elements (el : M PT) : M (List PT) := fun s =>
 let s1 := (demand A ((ByteArray.mk #[40])) s).2
 if isB A [(ByteArray.mk #[41])] s1 then ([], (demand A ((ByteArray.mk #[41])) s1).2)
 else
  let r := more A el A.length [(el s1).1] (el s1).2
  (r.1, (demand A ((ByteArray.mk #[41])) r.2).2)
def list1 (kind : Int) (el : M PT) : M PT := fun s => (node kind s.at_ ⟨#[]⟩ (elements A el s).1 (elements A el s).2, (elements A el s).2)
def column : M PT := fun s =>
 let n := name A s
 let d := demand A ((ByteArray.mk #[58])) n.2
 let k := named A d.2
 (node 11 s.at_ n.1 [k.1] k.2, k.2)
def columns : M PT := list1 A 10 (column A)
def limits : M PT := fun s =>
 let a := integer A s
 let d := demand A ((ByteArray.mk #[46, 46])) a.2
 let b := integer A d.2
 (node 12 s.at_ ⟨#[]⟩ [a.1, b.1] b.2, b.2)
def bound (kid : M PT) : M PT := fun s =>
 let r : ByteArray × Ps := if isB A [(ByteArray.mk #[60, 61]), (ByteArray.mk #[62, 61])] s then next A s else (⟨#[]⟩, report 4 ((ByteArray.mk #[60, 61])) s)
 let k := kid r.2
 (node 19 s.at_ r.1 [k.1] k.2, k.2)
def argument : M PT := fun s =>
 if (tok A s).kind = 1 then named A s else if (tok A s).kind = 3 then number A s else (missing 0 (report 4 ((ByteArray.mk #[110, 97, 109, 101])) s), report 4 ((ByteArray.mk #[110, 97, 109, 101])) s)
def cell : M PT := fun s =>
 let n := name A s
 let k := elements A (argument A) n.2
 (node 22 s.at_ n.1 k.1 k.2, k.2)
def term (first : Nat) (sign : ByteArray) : M PT := fun s =>
 let f : PT × Ps := if (tok A s).kind = 3 then ((number A s).1, (demand A ((ByteArray.mk #[42])) (number A s).2).2) else (missing 1 s, s)
 let o : PT × Ps := if isB A [(ByteArray.mk #[115, 117, 109])] f.2 then columns A (next A f.2).2 else (missing 1 f.2, f.2)
 let c := cell A o.2
 (node 21 first sign [f.1, o.1, c.1] c.2, c.2)
def terms : Nat → List PT → M (List PT)
 | 0, ks, s => (ks, s)
 | n + 1, ks, s => if isB A [(ByteArray.mk #[43]), (ByteArray.mk #[45])] s then
  let r := next A s
  let t := term A s.at_ r.1 r.2
  terms n (ks ++ [t.1]) t.2
  else (ks, s)
def total : M PT := fun s =>
 let r : ByteArray × Ps := if isB A [(ByteArray.mk #[45])] s then next A s else ((ByteArray.mk #[43]), s)
 let t := term A s.at_ r.1 r.2
 let k := terms A A.length [t.1] t.2
 (node 20 s.at_ ⟨#[]⟩ k.1 k.2, k.2)
def names : M PT := list1 A 18 (named A)
def part : M PT := fun s =>
 if isB A [(ByteArray.mk #[107, 101, 121])] s then
  let n := name A (next A s).2
  let k := names A n.2
  (node 13 s.at_ n.1 [k.1] k.2, k.2)
 else if isB A [(ByteArray.mk #[114, 101, 102, 101, 114, 101, 110, 99, 101])] s then
  let n := name A (next A s).2
  let d := demand A ((ByteArray.mk #[40])) n.2
  let c := named A d.2
  let d2 := demand A ((ByteArray.mk #[41])) c.2
  let d3 := demand A ((ByteArray.mk #[116, 111])) d2.2
  let t := named A d3.2
  let h := maybe A ((ByteArray.mk #[104, 105, 100, 101])) t.2
  (node 14 s.at_ n.1 [c.1, t.1, h.1] h.2, h.2)
 else if isB A [(ByteArray.mk #[99, 111, 117, 110, 116])] s then
  let n := name A (next A s).2
  let k := names A n.2
  let b := bound A (integer A) k.2
  (node 15 s.at_ n.1 [k.1, b.1] b.2, b.2)
 else if isB A [(ByteArray.mk #[97, 99, 121, 99, 108, 105, 99])] s then
  let n := name A (next A s).2
  (node 16 s.at_ n.1 [] n.2, n.2)
 else if isB A [(ByteArray.mk #[97, 108, 108])] s then
  let c := columns A (next A s).2
  let t := total A c.2
  let b := bound A (integer A) t.2
  (node 17 s.at_ ⟨#[]⟩ [c.1, t.1, b.1] b.2, b.2)
 else (missing 0 (report 4 ((ByteArray.mk #[105, 110, 118, 97, 114, 105, 97, 110, 116])) s), report 4 ((ByteArray.mk #[105, 110, 118, 97, 114, 105, 97, 110, 116])) s)
def parameter : M PT := fun s =>
 let n := name A s
 let k : PT × Ps :=
  if isB A [(ByteArray.mk #[58])] n.2 then named A (next A n.2).2
  else if isB A [(ByteArray.mk #[105, 110])] n.2 then limits A (next A n.2).2
  else (missing 0 (report 4 ((ByteArray.mk #[58])) n.2), report 4 ((ByteArray.mk #[58])) n.2)
 (node 24 s.at_ n.1 [k.1] k.2, k.2)
def declWords : List ByteArray := [(ByteArray.mk #[115, 111, 114, 116]), (ByteArray.mk #[114, 101, 108, 97, 116, 105, 111, 110]), (ByteArray.mk #[99, 111, 117, 110, 116, 101, 114]), (ByteArray.mk #[115, 101, 116]), (ByteArray.mk #[114, 101, 103, 105, 115, 116, 101, 114]), (ByteArray.mk #[105, 110, 118, 97, 114, 105, 97, 110, 116]), (ByteArray.mk #[111, 112, 101, 114, 97, 116, 105, 111, 110])]
def stmtWords : List ByteArray := [(ByteArray.mk #[114, 101, 113, 117, 105, 114, 101]), (ByteArray.mk #[104, 111, 108, 100]), (ByteArray.mk #[105, 110, 115, 101, 114, 116]), (ByteArray.mk #[100, 101, 108, 101, 116, 101]), (ByteArray.mk #[97, 100, 100]), (ByteArray.mk #[112, 117, 116]), (ByteArray.mk #[100, 114, 111, 112]), (ByteArray.mk #[97, 115, 115, 105, 103, 110]), (ByteArray.mk #[102, 111, 114])]
def declares (s : Ps) : Bool := isB A declWords s
def states (s : Ps) : Bool := isB A stmtWords s
def atEnd (s : Ps) : Bool := (tok A s).kind == 0
def binMore (operand : M PT) (ops : List ByteArray) (first : Nat) : Nat → PT → M PT
 | 0, n, s => (n, s)
 | k + 1, n, s => if isB A ops s then
  let o := next A s
  let r := operand o.2
  binMore operand ops first k (node 40 first o.1 [n, r.1] r.2) r.2
  else (n, s)
def binary (operand : M PT) (ops : List ByteArray) : M PT := fun s => binMore A operand ops s.at_ A.length (operand s).1 (operand s).2
def primary (ex : M PT) : M PT := fun s =>
 if (tok A s).kind = 3 then number A s
 else if (tok A s).kind = 1 then named A s
 else if isB A [(ByteArray.mk #[40])] s then
  let n := ex (next A s).2
  (n.1, (demand A ((ByteArray.mk #[41])) n.2).2)
 else (missing 0 (report 5 ⟨#[]⟩ s), report 5 ⟨#[]⟩ s)
def pre (w : ByteArray) (base : M PT) : Nat → M PT
 | 0, s => base s
 | n + 1, s => if isB A [w] s then
  let o := next A s
  let k := pre w base n o.2
  (node 39 s.at_ o.1 [k.1] k.2, k.2)
  else base s
def cmpWords : List ByteArray := [(ByteArray.mk #[61, 61]), (ByteArray.mk #[33, 61]), (ByteArray.mk #[60]), (ByteArray.mk #[60, 61]), (ByteArray.mk #[62]), (ByteArray.mk #[62, 61])]
def product (ex : M PT) : M PT := binary A (pre A ((ByteArray.mk #[45])) (primary A ex) A.length) [(ByteArray.mk #[42])]
def difference (ex : M PT) : M PT := binary A (product A ex) [(ByteArray.mk #[43]), (ByteArray.mk #[45])]
def comparison (ex : M PT) : M PT := fun s =>
 let n := difference A ex s
 if isB A cmpWords n.2 then
  let o := next A n.2
  let r := difference A ex o.2
  (node 40 s.at_ o.1 [n.1, r.1] r.2, r.2)
 else n
def negation (ex : M PT) : M PT := pre A ((ByteArray.mk #[110, 111, 116])) (comparison A ex) A.length
def conjunction (ex : M PT) : M PT := binary A (negation A ex) [(ByteArray.mk #[97, 110, 100])]
def expr : Nat → M PT
 | 0 => fun s => (missing 0 s, s)
 | n + 1 => binary A (conjunction A (expr n)) [(ByteArray.mk #[111, 114])]
def expression : M PT := expr A (A.length + 1)
def skipTo (stop : Ps → Bool) : Nat → Ps → Ps
 | 0, s => s
 | n + 1, s => if stop s then s else if (next A s).1 = (ByteArray.mk #[59]) then (next A s).2 else skipTo stop n (next A s).2
def skipped : M PT := fun s =>
 let s1 := report 6 ⟨#[]⟩ s
 let o := next A s1
 let s2 := if o.1 = (ByteArray.mk #[59]) then o.2 else skipTo A (fun s => atEnd A s || isB A [(ByteArray.mk #[125])] s || declares A s || states A s) A.length o.2
 (node 0 s.at_ ⟨#[]⟩ [] s2, s2)
def stmts (st : M PT) : Nat → List PT → M (List PT)
 | 0, ks, s => (ks, s)
 | n + 1, ks, s => if isB A [(ByteArray.mk #[125])] s || declares A s || atEnd A s then (ks, s) else stmts st n (ks ++ [(st s).1]) (st s).2
def block (st : M PT) : M PT := fun s =>
 let d := demand A ((ByteArray.mk #[123])) s
 if d.1 = true then
  let k := stmts A st A.length [] d.2
  let e := demand A ((ByteArray.mk #[125])) k.2
  (node 25 s.at_ ⟨#[]⟩ k.1 e.2, e.2)
 else (missing 25 d.2, d.2)
def stmt : Nat → M PT
 | 0 => fun s => (missing 0 s, s)
 | n + 1 => fun s =>
  if states A s = false then skipped A s
  else
   let w := next A s
   if w.1 = (ByteArray.mk #[102, 111, 114]) then
    let c := column A w.2
    let e : PT × Ps := if isB A [(ByteArray.mk #[119, 104, 101, 114, 101])] c.2 then expression A (next A c.2).2 else (missing 1 c.2, c.2)
    let b := block A (stmt n) e.2
    (node 34 s.at_ ⟨#[]⟩ [c.1, e.1, b.1] b.2, b.2)
   else
    let r : (Int × List PT) × Ps :=
     if w.1 = (ByteArray.mk #[114, 101, 113, 117, 105, 114, 101]) then let e := expression A w.2; ((26, [e.1]), e.2)
     else if w.1 = (ByteArray.mk #[104, 111, 108, 100]) then let t := total A w.2; let b := bound A (expression A) t.2; ((27, [t.1, b.1]), b.2)
     else if w.1 = (ByteArray.mk #[105, 110, 115, 101, 114, 116]) then let c := cell A w.2; ((28, [c.1]), c.2)
     else if w.1 = (ByteArray.mk #[100, 101, 108, 101, 116, 101]) then let c := cell A w.2; ((29, [c.1]), c.2)
     else if w.1 = (ByteArray.mk #[112, 117, 116]) then let c := cell A w.2; ((31, [c.1]), c.2)
     else if w.1 = (ByteArray.mk #[100, 114, 111, 112]) then let c := cell A w.2; ((32, [c.1]), c.2)
     else if w.1 = (ByteArray.mk #[97, 100, 100]) then let e := expression A w.2; let d := demand A ((ByteArray.mk #[116, 111])) e.2; let c := cell A d.2; ((30, [e.1, c.1]), c.2)
     else let c := cell A w.2; let d := demand A ((ByteArray.mk #[61])) c.2; let e := expression A d.2; ((33, [c.1, e.1]), e.2)
    let d := demand A ((ByteArray.mk #[59])) r.2
    (node r.1.1 s.at_ ⟨#[]⟩ r.1.2 d.2, d.2)
def statement : M PT := stmt A (A.length + 1)
def skipDecl : Nat → Ps → Ps
 | 0, s => s
 | n + 1, s => if atEnd A s || declares A s then s else skipDecl n (next A s).2
def declaration : M PT := fun s =>
 if declares A s = false then
  let s2 := skipDecl A A.length (next A (report 7 ⟨#[]⟩ s)).2
  (node 0 s.at_ ⟨#[]⟩ [] s2, s2)
 else
  let w := next A s
  let n := name A w.2
  if w.1 = (ByteArray.mk #[111, 112, 101, 114, 97, 116, 105, 111, 110]) then
   let p := list1 A 23 (parameter A) n.2
   let o := maybe A ((ByteArray.mk #[111, 114, 100, 101, 114, 101, 100])) p.2
   let b := block A (statement A) o.2
   (node 9 s.at_ n.1 [p.1, o.1, b.1] b.2, b.2)
  else
   let r : (Int × List PT) × Ps :=
    if w.1 = (ByteArray.mk #[115, 111, 114, 116]) then let k := number A n.2; ((3, [k.1]), k.2)
    else if w.1 = (ByteArray.mk #[114, 101, 108, 97, 116, 105, 111, 110]) then let c := columns A n.2; ((4, [c.1]), c.2)
    else if w.1 = (ByteArray.mk #[99, 111, 117, 110, 116, 101, 114]) then let c := columns A n.2; let d := demand A ((ByteArray.mk #[105, 110])) c.2; let l := limits A d.2; ((5, [c.1, l.1]), l.2)
    else if w.1 = (ByteArray.mk #[115, 101, 116]) then let c := columns A n.2; let h := chosen A [(ByteArray.mk #[97, 100, 100, 119, 105, 110, 115]), (ByteArray.mk #[114, 101, 109, 111, 118, 101, 119, 105, 110, 115])] c.2; ((6, [c.1, h.1]), h.2)
    else if w.1 = (ByteArray.mk #[114, 101, 103, 105, 115, 116, 101, 114]) then let c := columns A n.2; let d := demand A ((ByteArray.mk #[105, 110])) c.2; let l := limits A d.2; let h := chosen A [(ByteArray.mk #[108, 97, 115, 116]), (ByteArray.mk #[109, 117, 108, 116, 105])] l.2; ((7, [c.1, l.1, h.1]), h.2)
    else let d := demand A ((ByteArray.mk #[58])) n.2; let p := part A d.2; ((8, [p.1]), p.2)
   let d := demand A ((ByteArray.mk #[59])) r.2
   (node r.1.1 s.at_ n.1 r.1.2 d.2, d.2)
def decls : Nat → List PT → M (List PT)
 | 0, ks, s => (ks, s)
 | n + 1, ks, s => if atEnd A s then (ks, s) else decls n (ks ++ [(declaration A s).1]) (declaration A s).2
end
def put (d : Dg) : List Dg → List Dg
 | [] => [d]
 | x :: l => if d.at_ < x.at_ then d :: x :: l else x :: put d l
def sortD (l : List Dg) : List Dg := l.foldl (fun acc d => put d acc) []
structure Src where
 T : ByteArray
 L : List Tok
 D : List Dg
def Src.A (S : Src) : List Tk := S.L.map fun t => ⟨t.kind, S.T.extract t.at_ t.to⟩
def Src.last (S : Src) (n : Nat) : Int := if n = 0 then 0 else ((S.L.getD (n - 1) default).to : Int)
def Src.at_ (S : Src) (first to : Nat) : Int := if first < to then ((S.L.getD first default).at_ : Int) else S.last to
mutual
def Src.tree (S : Src) : PT → Tr
 | .mk k t a e ks => .mk k t (S.at_ a e) (S.last e) (S.trees ks)
def Src.trees (S : Src) : List PT → List Tr
 | [] => []
 | t :: ts => S.tree t :: S.trees ts
end
theorem Src.trees_map (S : Src) (l : List PT) : S.trees l = l.map S.tree := by
 induction l with
 | nil => rfl
 | cons x l ih => rw [Src.trees, ih]; rfl
def Src.dg (S : Src) (r : Rp) : Dg := ⟨r.code, (S.L.getD r.idx default).at_, (S.L.getD r.idx default).to, r.text⟩
def Src.found (S : Src) (s : Ps) : Int := match s.reps.getLast? with | some r => ((S.L.getD r.idx default).at_ : Int) | none => -1
def Src.list (S : Src) (s : Ps) : List Dg := S.D ++ s.reps.map S.dg
def kept (T : ByteArray) : List Tok := (toks T).filter (fun t => t.kind != 5)
def src (T : ByteArray) : Src := ⟨T, kept T, (toks T).flatMap (lexDg T)⟩
def parse (T : ByteArray) : Tr × List Dg :=
 let r := decls (src T).A (src T).A.length [] ⟨0, []⟩
 (.mk 2 ⟨#[]⟩ 0 T.size (r.1.map (src T).tree), sortD ((src T).list r.2))
def parseE (T : ByteArray) : Tr × List Dg :=
 let r := expression (src T).A ⟨0, []⟩
 ((src T).tree r.1, sortD ((src T).list (if atEnd (src T).A r.2 then r.2 else { r.2 with reps := r.2.reps ++ [⟨4, r.2.at_, (ByteArray.mk #[101, 110, 100])⟩] })))
end Go.Proofs.YthggagophcnkfaaGreatDoor.px
namespace Go.Proofs.YthggagophcnkfaaGreatDoor.px
open Go.RowKit Go.Proofs.YthggagophcnkfaaGreatDoor.agg Go.Proofs.YthggagophcnkfaaGreatDoor.sx
set_option linter.unusedSimpArgs false
set_option linter.unusedVariables false
def Tok.cells (t : Tok) : Array Value := #[.int .i64 t.kind, .int .i64 t.fr, .int .i64 t.at_, .int .i64 t.to]
def Dg.cells (d : Dg) : Array Value := #[.int .i64 d.code, .int .i64 d.at_, .int .i64 d.to, .string d.text]
def dgV (l : List Dg) : List Value := l.flatMap fun d => d.cells.toList
theorem dgV_len (l : List Dg) : (dgV l).length = l.length * 4 := by
 induction l with
 | nil => rfl
 | cons d l ih => simp only [dgV, List.flatMap_cons, List.length_append, List.length_cons] at ih ⊢; rw [ih]; simp [Dg.cells]; omega
theorem dgV_app (a b : List Dg) : dgV (a ++ b) = dgV a ++ dgV b := by simp [dgV]
def TokIn (w : World) (tv : Value) (L : List Tok) : Prop :=
 ∃ b o cap, tv = .slice (some ⟨b, o, none⟩) L.length cap ∧ b < w.heap.size ∧ ∀ i (h : i < L.length) j u, (L[i].cells).toList[j]? = some u → w.cell? ⟨b, o + i * 4 + j, none⟩ = some u
def tokBlock : Value → Option Nat
 | .slice (some a) _ _ => some a.block
 | _ => none
theorem TokIn.same {w w' : World} {tv : Value} {L : List Tok} (h : TokIn w tv L) (hb : ∀ b, tokBlock tv = some b → w'.heap[b]? = w.heap[b]?) (hs : w.heap.size ≤ w'.heap.size) : TokIn w' tv L := by
 obtain ⟨b, o, cap, rfl, hlt, hc⟩ := h
 exact ⟨b, o, cap, rfl, Nat.lt_of_lt_of_le hlt hs, fun i hi j u hu => (World.cell?_of_block (w := w) (w' := w') (a := ⟨b, _, none⟩) (hb b rfl)).trans (hc i hi j u hu)⟩
theorem TokIn.lt {w : World} {tv : Value} {L : List Tok} (h : TokIn w tv L) : ∀ b, tokBlock tv = some b → b < w.heap.size := by
 obtain ⟨b, o, cap, rfl, hlt, hc⟩ := h
 rintro b' e
 have : b = b' := by simpa [tokBlock] using e
 exact this ▸ hlt
structure TokOk (S : Src) : Prop where
 size : S.T.size ≤ 4096
 len : S.L.length ≤ 5000
 pos : 0 < S.L.length
 rng : ∀ t ∈ S.L, t.kind ≤ 5 ∧ t.at_ ≤ t.to ∧ t.to ≤ S.T.size
 fin : ∀ i (h : i < S.L.length), S.L[i].kind = 0 ↔ i + 1 = S.L.length
 mono : ∀ i j (hi : i < S.L.length) (hj : j < S.L.length), i < j → S.L[i].at_ < S.L[j].at_
 dlen : S.D.length ≤ 15000
def Src.tk (S : Src) (s : Ps) : Tok := S.L.getD s.at_ default
theorem Src.len (S : Src) : S.A.length = S.L.length := by simp [Src.A]
theorem tok_kind (S : Src) (s : Ps) : (tok S.A s).kind = (S.tk s).kind := by
 unfold tok Src.tk Src.A
 rw [List.getD_eq_getElem?_getD, List.getD_eq_getElem?_getD, List.getElem?_map]
 cases S.L[s.at_]? <;> rfl
theorem tok_word {S : Src} {s : Ps} (h : s.at_ < S.L.length) : word S.A s = S.T.extract (S.tk s).at_ (S.tk s).to := by
 unfold word tok Src.tk Src.A
 rw [List.getD_eq_getElem?_getD, List.getD_eq_getElem?_getD, List.getElem?_map, List.getElem?_eq_getElem h]
 rfl
theorem tok_mem {S : Src} {s : Ps} (h : s.at_ < S.L.length) : S.tk s = S.L[s.at_] := by
 unfold Src.tk
 rw [List.getD_eq_getElem?_getD, List.getElem?_eq_getElem h]
 rfl
def RpOk (code : Int) (text : ByteArray) : Prop := 4 ≤ code ∧ code ≤ 7 ∧ (text ≠ ⟨#[]⟩ ↔ code = 4)
structure PsOk (S : Src) (s : Ps) : Prop where
 lt : s.at_ < S.L.length
 cnt : s.reps.length ≤ s.at_ + (if told s then 1 else 0)
 reps : ∀ r ∈ s.reps, r.idx ≤ s.at_ ∧ RpOk r.code r.text
def pcells (T : ByteArray) (tv lv : Value) (at_ : Nat) (la fo : Int) : Array Value := #[.string T, tv, .int .i64 at_, .int .i64 la, .int .i64 fo, lv]
structure PAt (w : World) (P : Nat) (tv lv : Value) (S : Src) (s : Ps) (la fo : Int) : Prop where
 box : w.heap[P]? = some (.cells (pcells S.T tv lv s.at_ la fo) 79 (0, 0))
 toks : TokIn w tv S.L
 far : ∀ b, tokBlock tv = some b → b ≠ P ∧ lv.ownBlock ≠ some b
 list : w.ownsRow 0 34 4 lv (S.list s).length (dgV (S.list s))
 apart : lv.ownBlock ≠ some P
 ok : TokOk S
 sok : PsOk S s
 lab : 0 ≤ la ∧ la ≤ 4096
 fob : -1 ≤ fo ∧ fo ≤ 4096
abbrev PIn (w : World) (P : Nat) (tv lv : Value) (S : Src) (s : Ps) : Prop := PAt w P tv lv S s (S.last s.at_) (S.found s)
def pfoot (P : Nat) (lv : Value) (k : Nat) : Prop := k = P ∨ lv.ownBlock = some k
section
variable {w w' : World} {P : Nat} {tv lv : Value} {S : Src} {s : Ps} {la fo : Int}
theorem PAt.rng (h : PAt w P tv lv S s la fo) : (S.tk s).kind ≤ 5 ∧ (S.tk s).at_ ≤ (S.tk s).to ∧ (S.tk s).to ≤ S.T.size ∧ S.T.size ≤ 4096 := by
 have h1 := h.ok.rng (S.tk s) (by rw [tok_mem h.sok.lt]; exact List.getElem_mem _)
 exact ⟨h1.1, h1.2.1, h1.2.2, h.ok.size⟩
theorem PAt.more (h : PAt w P tv lv S s la fo) (hk : (tok S.A s).kind ≠ 0) : s.at_ + 1 < S.L.length := by
 have h1 := h.ok.fin s.at_ h.sok.lt
 rw [tok_kind, tok_mem h.sok.lt] at hk
 have h2 := h.sok.lt
 have : s.at_ + 1 ≠ S.L.length := fun e => hk (h1.2 e)
 omega
theorem PAt.cell (h : PAt w P tv lv S s la fo) :
 w.cell? ⟨P, 0, none⟩ = some (.string S.T) ∧ w.cell? ⟨P, 1, none⟩ = some tv ∧ w.cell? ⟨P, 2, none⟩ = some (.int .i64 s.at_) ∧ w.cell? ⟨P, 3, none⟩ = some (.int .i64 la) ∧ w.cell? ⟨P, 4, none⟩ = some (.int .i64 fo) ∧ w.cell? ⟨P, 5, none⟩ = some lv ∧ ∀ i, w.frozen? ⟨P, i, none⟩ = false := by
 refine ⟨?_, ?_, ?_, ?_, ?_, ?_, fun i => ?_⟩ <;> simp [World.cell?, World.frozen?, h.box, pcells]
theorem PAt.lt (h : PAt w P tv lv S s la fo) : ∀ b, pfoot P lv b → b < w.heap.size := by
 rintro b (rfl | e)
 ·exact lt_of_block h.box
 ·exact (h.list.lt b e).2
theorem PAt.same (h : PAt w P tv lv S s la fo) {F : Nat → Prop} (hk : Kept F w w') (hF : ∀ b, F b → ¬ pfoot P lv b ∧ tokBlock tv ≠ some b) : PAt w' P tv lv S s la fo :=
 ⟨(hk.block P (lt_of_block h.box) (fun e => (hF P e).1 (.inl rfl))).trans h.box, h.toks.same (fun b hb => hk.block b (h.toks.lt b hb) (fun e => (hF b e).2 hb)) hk.size, h.far, ownsRow_same h.list (fun k hk' => hk.block k (h.list.lt k hk').2 (fun e => (hF k e).1 (.inr hk'))), h.apart, h.ok, h.sok, h.lab, h.fob⟩
theorem PAt.below (h : PAt w P tv lv S s la fo) (hb : Below w.heap.size w w') : PAt w' P tv lv S s la fo :=
 h.same (F := fun _ => False) (.of_below hb) (fun _ e => e.elim)
theorem PAt.put {s' : Ps} {la' fo' : Int} (h : PAt w P tv lv S s la fo) (hk : Kept (fun b => b = P) w w') (hbox : w'.heap[P]? = some (.cells (pcells S.T tv lv s'.at_ la' fo') 79 (0, 0))) (hl : s'.reps = s.reps) (hs : PsOk S s') (hla : 0 ≤ la' ∧ la' ≤ 4096) (hfo : -1 ≤ fo' ∧ fo' ≤ 4096) : PAt w' P tv lv S s' la' fo' :=
 ⟨hbox, h.toks.same (fun b hb => hk.block b (h.toks.lt b hb) (h.far b hb).1) hk.size, h.far, by
  have e : S.list s' = S.list s := by unfold Src.list; rw [hl]
  rw [e]
  exact ownsRow_same h.list (fun k hk' => hk.block k (h.list.lt k hk').2 (fun e => h.apart (e ▸ hk'))), h.apart, h.ok, hs, hla, hfo⟩
end
def SEnd (w : World) (P : Nat) (tv lv : Value) (S : Src) (s : Ps) (v : Value) (s' : Ps) (e : Ending) (w' : World) : Prop :=
 ∃ lv', e = .returned v ∧ PIn w' P tv lv' S s' ∧ Kept (pfoot P lv) w w' ∧ Fresh w lv lv' ∧ s.at_ ≤ s'.at_
def NEnd (w : World) (P : Nat) (tv lv : Value) (S : Src) (s : Ps) (r : PT × Ps) (e : Ending) (w' : World) : Prop :=
 ∃ lv' nk nt na ne nao ncap nks, e = .returned (.agg #[.int .i64 nk, .string nt, .int .i64 na, .int .i64 ne, .slice nao nks.length ncap]) ∧ (Nd.mk nk nt na ne (.slice nao nks.length ncap) nks).tr = S.tree r.1 ∧ NodeIn (fun b => w.heap.size ≤ b ∧ ¬ pfoot P lv' b) w' (Nd.mk nk nt na ne (.slice nao nks.length ncap) nks) ∧ PIn w' P tv lv' S r.2 ∧ Kept (pfoot P lv) w w' ∧ Fresh w lv lv' ∧ s.at_ ≤ r.2.at_
theorem pfoot_fresh {w : World} {P : Nat} {lv lv' : Value} (hf : Fresh w lv lv') {b : Nat} (hb : b < w.heap.size) (h : ¬ pfoot P lv b) : ¬ pfoot P lv' b := by
 rintro (e | e)
 ·exact h (.inl e)
 ·rcases hf b e with e' | e'
  ·exact h (.inr e')
  ·omega
def NG (Z P : Nat) (lv : Value) (b : Nat) : Prop := Z < b ∧ ¬ pfoot P lv b
theorem node_new {w w' : World} {Z P : Nat} {lv' : Value} {n : Nd} (h : NodeIn (fun b => w.heap.size ≤ b ∧ ¬ pfoot P lv' b) w' n) (hZ : Z < w.heap.size) : NodeIn (NG Z P lv') w' n :=
 h.mono (fun b _ hn => ⟨Nat.lt_of_lt_of_le hZ hn.1, hn.2⟩)
theorem step2 {a b c : World} {P : Nat} {lv lv' lv'' : Value} (h : Kept (pfoot P lv) a b) (hf : Fresh a lv lv') (k : Kept (pfoot P lv') b c) (kf : Fresh b lv' lv'') : Kept (pfoot P lv) a c ∧ Fresh a lv lv'' :=
 ⟨h.trans' k (fun i hi e => by
  rcases e with e | e
  ·exact .inl e
  ·rcases hf i e with e' | e'
   ·exact .inr e'
   ·omega), fresh_trans hf h.size kf⟩
section
variable {w w' : World} {P : Nat} {tv lv : Value} {S : Src} {s : Ps} {la fo : Int}
theorem told_next (h : PsOk S s) : told { s with at_ := s.at_ + 1 } = false := by
 unfold told
 simp only
 cases hl : s.reps.getLast? with
 | none => rfl
 | some r =>
  have h1 := (h.reps r (List.mem_of_getLast? hl)).1
  simp only [beq_eq_false_iff_ne, ne_eq]
  omega
theorem PAt.setLast (h : PAt w P tv lv S s la fo) (x : Int) (hx : 0 ≤ x ∧ x ≤ 4096) : PAt (w.setCell ⟨P, 3, none⟩ (.int .i64 x)) P tv lv S s x fo := by
 refine h.put (Kept.setCell (F := fun b => b = P) w (a := ⟨P, _, none⟩) rfl _) ?_ rfl h.sok hx h.fob
 rw [heap_setCell_same _ _ _ _ _ _ h.box]
 exact rfl
theorem PAt.setAt (h : PAt w P tv lv S s (S.tk s).to (S.found s)) (hk : (tok S.A s).kind ≠ 0) : PIn (w.setCell ⟨P, 2, none⟩ (.int .i64 ((s.at_ : Int) + 1))) P tv lv S (next S.A s).2 := by
 have e : S.last (s.at_ + 1) = ((S.tk s).to : Int) := by unfold Src.last Src.tk; rw [if_neg (by omega), Nat.add_sub_cancel]
 unfold PIn next
 simp only
 rw [e]
 refine h.put (s' := { s with at_ := s.at_ + 1 }) (Kept.setCell (F := fun b => b = P) w (a := ⟨P, _, none⟩) rfl _) ?_ rfl ⟨h.more hk, ?_, fun r hr => ⟨Nat.le_succ_of_le (h.sok.reps r hr).1, (h.sok.reps r hr).2⟩⟩ h.lab h.fob
 ·rw [heap_setCell_same _ _ _ _ _ _ h.box]
  exact rfl
 ·have := h.sok.cnt
  rw [told_next h.sok]
  simp only
  split at this <;> simp <;> omega
theorem kept_set {w : World} {P : Nat} {lv : Value} (o : Nat) (v : Value) : Kept (pfoot P lv) w (w.setCell ⟨P, o, none⟩ v) := .setCell _ (.inl rfl) _
theorem PAt.drew' (h : PAt w P tv lv S s la fo) : PAt w.drew P tv lv S s la fo := h.below (Below.refl _ w).drew
theorem told_iff (hs : PsOk S s) (hT : TokOk S) : ((S.tk s).at_ : Int) = S.found s ↔ told s = true := by
 unfold Src.found told
 cases hl : s.reps.getLast? with
 | none => simp only; constructor <;> intro h <;> first | omega | cases h
 | some r =>
  have h1 := (hs.reps r (List.mem_of_getLast? hl)).1
  have h2 : r.idx < S.L.length := Nat.lt_of_le_of_lt h1 hs.lt
  have e1 : S.L.getD r.idx default = S.L[r.idx] := by rw [List.getD_eq_getElem?_getD, List.getElem?_eq_getElem h2]; rfl
  simp only
  rw [e1, tok_mem hs.lt, beq_iff_eq]
  constructor
  ·intro h
   by_cases he : r.idx = s.at_
   ·exact he
   ·have := hT.mono r.idx s.at_ h2 hs.lt (by omega)
    omega
  ·intro he
   simp only [he]
theorem found_last (code : Int) (text : ByteArray) : S.found { s with reps := s.reps ++ [⟨code, s.at_, text⟩] } = ((S.tk s).at_ : Int) := by
 unfold Src.found
 simp only [List.getLast?_append, List.getLast?_singleton, Option.some_or]
 rfl
theorem list_last (code : Int) (text : ByteArray) : S.list { s with reps := s.reps ++ [⟨code, s.at_, text⟩] } = S.list s ++ [⟨code, (S.tk s).at_, (S.tk s).to, text⟩] := by
 unfold Src.list
 simp only [List.map_append, List.map_cons, List.map_nil, List.append_assoc]
 rfl
theorem told_last (code : Int) (text : ByteArray) : told { s with reps := s.reps ++ [⟨code, s.at_, text⟩] } = true := by
 unfold told
 simp
theorem list_len (hs : PsOk S s) (hT : TokOk S) : (S.list s).length ≤ 20001 := by
 unfold Src.list
 have h1 := hs.cnt
 have h2 := hT.dlen
 have h3 := hs.lt
 have h4 := hT.len
 rw [List.length_append, List.length_map]
 split at h1 <;> omega
end
end Go.Proofs.YthggagophcnkfaaGreatDoor.px
