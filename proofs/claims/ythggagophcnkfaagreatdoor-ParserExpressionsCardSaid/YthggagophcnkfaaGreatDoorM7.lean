/- How a function of the parser that gives a node goes on from call to call, and how it ends. The walks of the parser's elements and list1. The walks of the parser's column, limits and argument. The walks of the parser's list1, columns, names and cell. -/
import Derived.Test.YthggagophcnkfaaGreatDoorM6
import Derived.Shelf.Abstract
namespace Go.Proofs.YthggagophcnkfaaGreatDoor.px
open Go.RowKit Go.Proofs.YthggagophcnkfaaGreatDoor.agg Go.Proofs.YthggagophcnkfaaGreatDoor.sx
set_option linter.unusedSimpArgs false
set_option linter.unusedVariables false
structure FRow (w0 : World) (Z : Nat) (P : Nat) (tv lv0 : Value) (S : Src) (s0 : Ps) (w : World) (lv : Value) (s : Ps) (ks : Kds) (bs : Bxs) (ao : Option Addr) (n cap : Nat) : Prop where
 fin : FIn w0 Z P tv lv0 S s0 w lv s ks bs
 len : n = ks.length
 kv : KidsAt (NGB Z P lv bs) w (.slice ao n cap) (ks.map Prod.fst)
section
variable {w0 : World} {Z : Nat} {P : Nat} {tv lv0 : Value} {S : Src} {s0 : Ps} {w w' : World} {lv lv' : Value} {s s' : Ps} {ks : Kds} {bs : Bxs}
theorem FRow.below {ao : Option Addr} {n cap : Nat} (h : FRow w0 Z P tv lv0 S s0 w lv s ks bs ao n cap) (hb : Below w.heap.size w w') : FRow w0 Z P tv lv0 S s0 w' lv s ks bs ao n cap :=
 ⟨h.fin.below hb, h.len, h.kv.same (fun b hb' _ => hb.block b hb') hb.size (fun _ _ g => g)⟩
theorem FIn.callNode (h : FIn w0 Z P tv lv0 S s0 w lv s ks bs) {W0 : World} (hb : Below w.heap.size w W0) (kind : Int) (first : Nat) (hf : first ≤ s0.at_) (text : ByteArray) {cs : Array Value} (hc : cs = ((ks.map Prod.fst).flatMap fun n => n.cells.toList).toArray) {a n : Nat} (ha : a = W0.heap.size) (hn : n = ks.length) (hl : n ≤ 140737488355328) :
 Calls Tryz.prog 63 #[.pointer (some ⟨P, 0, none⟩), .int .i64 kind, .int .i64 first, .string text, .slice (some ⟨a, 0, none⟩) n n] (W0.alloc (.cells cs 25)) fun e w' => e = .returned (.agg #[.int .i64 kind, .string text, .int .i64 (S.at_ first s.at_), .int .i64 (S.last s.at_), .slice (some ⟨a, 0, none⟩) n n]) ∧ FRow w0 Z P tv lv0 S s0 w' lv s ks bs (some ⟨a, 0, none⟩) n n := by
 have h0 := h.below hb
 have h1 := h0.below ((Below.refl _ W0).alloc (Nat.le_refl _) (.cells cs 25))
 refine (node_walk h1.pin kind first text (some ⟨a, 0, none⟩) n n (Nat.le_trans hf h1.mono)).mono fun e w' hw => ⟨hw.1, ?_⟩
 refine FRow.below ⟨h1, hn, ?_⟩ hw.2
 subst ha
 refine kids_new W0 (ks.map Prod.fst) n (by simpa using hn) hl ⟨h0.zlt, fun e => ?_, fun p hp e => ?_⟩ cs hc
 ·have := h0.pin.lt _ e
  omega
 ·have := lt_of_block (h0.boxes p hp).1
  omega
theorem FRow.kid {ao : Option Addr} {n cap : Nat} (h : FRow w0 Z P tv lv0 S s0 w lv s ks bs ao n cap) (kind : Int) (first : Nat) (text : ByteArray) : FIn w0 Z P tv lv0 S s0 w lv s [(Nd.mk kind text (S.at_ first s.at_) (S.last s.at_) (.slice ao n cap) (ks.map Prod.fst), node kind first text (ks.map Prod.snd) s)] bs := by
 have f := h.fin
 refine ⟨f.pin, f.kept, f.fresh, f.box, f.hZ, f.far, f.mono, f.tlt, fun p hp => ?_, f.boxes, f.dist⟩
 rw [List.mem_singleton.1 hp]
 refine ⟨.mk h.kv fun n hn => ?_, ?_⟩
 ·obtain ⟨p, hp, rfl⟩ := List.mem_map.1 hn
  exact (h.fin.kids p hp).1
 ·simp only
  rw [node, Src.tree, Nd.tr, trs_map, Src.trees_map, List.map_map, List.map_map]
  congr 1
  refine List.map_congr_left fun p hp => ?_
  exact (h.fin.kids p hp).2
theorem FIn.forget {x : Nat × Nd} (h : FIn w0 Z P tv lv0 S s0 w lv s ks (bs ++ [x])) : FIn w0 Z P tv lv0 S s0 w lv s ks bs :=
 ⟨h.pin, h.kept, h.fresh, h.box, h.hZ, h.far, h.mono, h.tlt, fun p hp => ⟨(h.kids p hp).1.mono (fun b _ hq => ⟨hq.1, hq.2.1, fun q hq2 => hq.2.2 q (List.mem_append_left _ hq2)⟩), (h.kids p hp).2⟩, fun p hp => h.boxes p (List.mem_append_left _ hp), (List.pairwise_append.1 h.dist).1⟩
theorem FIn.callLeaf (h : FIn w0 Z P tv lv0 S s0 w lv s [] bs) {W : World} (hb : Below w.heap.size w W) (kind : Int) (first : Nat) (hf : first ≤ s0.at_) (text : ByteArray) :
 Calls Tryz.prog 63 #[.pointer (some ⟨P, 0, none⟩), .int .i64 kind, .int .i64 first, .string text, .slice none 0 0] W fun e w' => e = .returned (.agg #[.int .i64 kind, .string text, .int .i64 (S.at_ first s.at_), .int .i64 (S.last s.at_), .slice none 0 0]) ∧ FRow w0 Z P tv lv0 S s0 w' lv s [] bs none 0 0 := by
 have h0 := h.below hb
 refine (node_walk h0.pin kind first text none 0 0 (Nat.le_trans hf h0.mono)).mono fun e w' hw => ⟨hw.1, ?_⟩
 exact FRow.below ⟨h0, rfl, kids_none W⟩ hw.2
theorem FRow.end_ {ao : Option Addr} {n cap : Nat} (h : FRow w0 Z P tv lv0 S s0 w lv s ks bs ao n cap) (hk : Kept (fun b => b = Z) w w') (kind : Int) (first : Nat) (text : ByteArray) :
 NEnd w0 P tv lv0 S s0 (node kind first text (ks.map Prod.snd) s, s) (.returned (.agg #[.int .i64 kind, .string text, .int .i64 (S.at_ first s.at_), .int .i64 (S.last s.at_), .slice ao n cap])) w' := by
 refine h.fin.done hk (.mk kind text (S.at_ first s.at_) (S.last s.at_) (.slice ao n cap) (ks.map Prod.fst)) _ ?_ (.mk (h.kv.same (fun _ _ _ => rfl) (Nat.le_refl _) (fun b _ hq => ⟨hq.1, hq.2.1⟩)) fun n hn => ?_) _ rfl
 ·rw [node, Src.tree, Nd.tr, trs_map, Src.trees_map, List.map_map, List.map_map]
  congr 1
  refine List.map_congr_left fun p hp => ?_
  exact (h.fin.kids p hp).2
 ·obtain ⟨p, hp, rfl⟩ := List.mem_map.1 hn
  exact (h.fin.kids p hp).1.mono (fun b _ hq => ⟨hq.1, hq.2.1⟩)
theorem FIn.pass {nk : Int} {nt : ByteArray} {na ne : Int} {nao : Option Addr} {ncap : Nat} {nks : List Nd} {t : PT} (h : FIn w0 Z P tv lv0 S s0 w lv s (ks ++ [(Nd.mk nk nt na ne (.slice nao nks.length ncap) nks, t)]) bs) (hk : Kept (fun b => b = Z) w w') :
 NEnd w0 P tv lv0 S s0 (t, s) (.returned (.agg #[.int .i64 nk, .string nt, .int .i64 na, .int .i64 ne, .slice nao nks.length ncap])) w' :=
 h.done hk _ t (h.kids _ (List.mem_append_right _ (List.mem_singleton.2 rfl))).2 ((h.kids _ (List.mem_append_right _ (List.mem_singleton.2 rfl))).1.mono (fun b _ hq => ⟨hq.1, hq.2.1⟩)) _ rfl
end
theorem is_at {W : World} {P : Nat} {tv lv : Value} {S : Src} {s : Ps} (h : PIn W P tv lv S s) (ws : List ByteArray) (b : Bool) (hi : isB S.A ws s = b) {n : Nat} (hn : n = ws.length) (hl : n < 1000) {a : Nat} (ha : a = W.heap.size) {cs : Array Value} (hc : cs = (ws.map Value.string).toArray) :
 Calls Tryz.prog 117 #[.pointer (some ⟨P, 0, none⟩), .slice (some ⟨a, 0, none⟩) n n] (W.alloc (.cells cs 9)) fun e w' => e = .returned (.bool b) ∧ Below W.heap.size W w' := by
 subst ha hc hi
 exact is_new h (Below.refl _ W) ws n hn hl
theorem opt_yes {w : World} {P : Nat} {tv lv : Value} {S : Src} {s : Ps} (h : PIn w P tv lv S s) (a : ByteArray) (hi : isB S.A [a] s = true) :
 Calls Tryz.prog 123 #[.pointer (some ⟨P, 0, none⟩), .string a] w (SEnd w P tv lv S s (.bool true) (next S.A s).2) := by
 have h1 := optional_walk h a
 unfold optional at h1
 rw [if_pos hi] at h1
 exact h1
theorem opt_no {w : World} {P : Nat} {tv lv : Value} {S : Src} {s : Ps} (h : PIn w P tv lv S s) (a : ByteArray) (hi : isB S.A [a] s = false) :
 Calls Tryz.prog 123 #[.pointer (some ⟨P, 0, none⟩), .string a] w (SEnd w P tv lv S s (.bool false) s) := by
 have h1 := optional_walk h a
 unfold optional at h1
 rw [if_neg (by rw [hi]; simp)] at h1
 exact h1
section
variable {w0 : World} {Z : Nat} {P : Nat} {tv lv0 : Value} {S : Src} {s0 : Ps} {w w' : World} {lv lv' : Value} {s s' : Ps} {ks : Kds} {bs : Bxs} {W : World}
theorem FIn.callS {f : Nat} {args : Array Value} {v : Value} (h : FIn w0 Z P tv lv0 S s0 w lv s ks bs) (hb : Below w.heap.size w W) (c : PIn W P tv lv S s → Calls Tryz.prog f args W (SEnd W P tv lv S s v s')) :
 Calls Tryz.prog f args W fun e w' => ∃ lv', e = .returned v ∧ FIn w0 Z P tv lv0 S s0 w' lv' s' ks bs :=
 have g := h.below hb
 (c g.pin).mono fun _ _ ⟨lv', h1, h2, h3, h4, h5⟩ => ⟨lv', h1, g.send h2 h3 h4 h5⟩
theorem FIn.callN {f : Nat} {args : Array Value} {r : PT × Ps} (h : FIn w0 Z P tv lv0 S s0 w lv s ks bs) (hb : Below w.heap.size w W) (c : PIn W P tv lv S s → Calls Tryz.prog f args W (NEnd W P tv lv S s r)) :
 Calls Tryz.prog f args W fun e w' => ∃ lv' nk nt na ne nao ncap nks, e = .returned (.agg #[.int .i64 nk, .string nt, .int .i64 na, .int .i64 ne, .slice nao nks.length ncap]) ∧ FIn w0 Z P tv lv0 S s0 w' lv' r.2 (ks ++ [(Nd.mk nk nt na ne (.slice nao nks.length ncap) nks, r.1)]) bs :=
 have g := h.below hb
 (c g.pin).mono fun _ _ ⟨lv', nk, nt, na, ne, nao, ncap, nks, h1, t1, t2, t3, t4, t5, t6⟩ => ⟨lv', nk, nt, na, ne, nao, ncap, nks, h1, g.nsend t1 t2 t3 t4 t5 t6⟩
theorem FIn.callB {f : Nat} {args : Array Value} {v : Value} (h : FIn w0 Z P tv lv0 S s0 w lv s ks bs) (hb : Below w.heap.size w W) (c : PIn W P tv lv S s → Calls Tryz.prog f args W fun e w' => e = .returned v ∧ Below W.heap.size W w') :
 Calls Tryz.prog f args W fun e w' => e = .returned v ∧ FIn w0 Z P tv lv0 S s0 w' lv s ks bs :=
 have g := h.below hb
 (c g.pin).mono fun _ _ ⟨h1, h2⟩ => ⟨h1, g.below h2⟩
theorem FIn.callIs (h : FIn w0 Z P tv lv0 S s0 w lv s ks bs) (hb : Below w.heap.size w W) (ws : List ByteArray) (b : Bool) (hi : isB S.A ws s = b) {n : Nat} (hn : n = ws.length) (hl : n < 1000) {a : Nat} (ha : a = W.heap.size) {cs : Array Value} (hc : cs = (ws.map Value.string).toArray) :
 Calls Tryz.prog 117 #[.pointer (some ⟨P, 0, none⟩), .slice (some ⟨a, 0, none⟩) n n] (W.alloc (.cells cs 9)) fun e w' => e = .returned (.bool b) ∧ FIn w0 Z P tv lv0 S s0 w' lv s ks bs :=
 have g := h.below hb
 (is_at g.pin ws b hi hn hl ha hc).mono fun _ _ ⟨h1, h2⟩ => ⟨h1, g.below h2⟩
end
theorem token_k {w : World} {P : Nat} {tv lv : Value} {S : Src} {s : Ps} {la fo : Int} (h : PAt w P tv lv S s la fo) {k : Nat} (hk : (tok S.A s).kind = k) :
 Calls Tryz.prog 60 #[.pointer (some ⟨P, 0, none⟩)] w fun e w' => e = .returned (.agg #[.int .i64 k, .int .i64 (S.tk s).fr, .int .i64 (S.tk s).at_, .int .i64 (S.tk s).to]) ∧ Below w.heap.size w w' := by
 subst hk
 exact token_lit h
structure KRow (B : Nat) (P : Nat) (S : Src) (w : World) (lv : Value) (kv : Value) (ks : Kds) : Prop where
 row : w.ownsRow B 25 5 kv ks.length ((ks.map Prod.fst).flatMap fun n => n.cells.toList)
 apart : ∀ g, kv.ownBlock = some g → ¬ pfoot P lv g
 kids : ∀ p ∈ ks, NodeIn (fun b => B ≤ b ∧ ¬ pfoot P lv b ∧ kv.ownBlock ≠ some b) w p.1 ∧ p.1.tr = S.tree p.2
structure EIn (w0 : World) (Zo : Option Nat) (B : Nat) (P : Nat) (tv lv0 : Value) (S : Src) (s0 : Ps) (w : World) (lv : Value) (s : Ps) (kv : Value) (ks : Kds) : Prop where
 pin : PIn w P tv lv S s
 kept : Kept (pfoot P lv0) w0 w
 fresh : Fresh w0 lv0 lv
 mono : s0.at_ ≤ s.at_
 bw : w0.heap.size ≤ B
 bb : B ≤ w.heap.size
 tlt : ∀ b, tokBlock tv = some b → b < w0.heap.size
 box : ∀ Z, Zo = some Z → w.heap[Z]? = some zbox ∧ ¬ pfoot P lv Z ∧ Z < B ∧ Z = w0.heap.size
 kr : KRow B P S w lv kv ks
 cnt : ks.length ≤ s.at_ + 1
section
variable {w0 : World} {Zo : Option Nat} {Z B : Nat} {P : Nat} {tv lv0 : Value} {S : Src} {s0 : Ps} {w w' : World} {lv lv' : Value} {s s' : Ps} {kv : Value} {ks : Kds} {W : World}
theorem KRow.lt (h : KRow B P S w lv kv ks) : ∀ g, kv.ownBlock = some g → B ≤ g ∧ g < w.heap.size := h.row.lt
theorem KRow.send (h : KRow B P S w lv kv ks) (hk : Kept (pfoot P lv) w w') (hf : Fresh w lv lv') : KRow B P S w' lv' kv ks :=
 ⟨ownsRow_same h.row (fun k hk' => hk.block k (h.lt k hk').2 (h.apart k hk')), fun g hg => pfoot_fresh hf (h.lt g hg).2 (h.apart g hg), fun p hp => ⟨(h.kids p hp).1.same (fun b hb hn => hk.block b hb hn.2.1) hk.size (fun b hb hn => ⟨hn.1, pfoot_fresh hf hb hn.2.1, hn.2.2⟩), (h.kids p hp).2⟩⟩
theorem EIn.send (h : EIn w0 Zo B P tv lv0 S s0 w lv s kv ks) (hp : PIn w' P tv lv' S s') (hk : Kept (pfoot P lv) w w') (hf : Fresh w lv lv') (hm : s.at_ ≤ s'.at_) : EIn w0 Zo B P tv lv0 S s0 w' lv' s' kv ks :=
 ⟨hp, (step2 h.kept h.fresh hk hf).1, (step2 h.kept h.fresh hk hf).2, Nat.le_trans h.mono hm, h.bw, Nat.le_trans h.bb hk.size, h.tlt, fun Z hZ => by
  obtain ⟨h1, h2, h3, h4⟩ := h.box Z hZ
  exact ⟨(hk.block Z (lt_of_block h1) h2).trans h1, pfoot_fresh hf (lt_of_block h1) h2, h3, h4⟩, h.kr.send hk hf, by have := h.cnt; omega⟩
theorem EIn.below (h : EIn w0 Zo B P tv lv0 S s0 w lv s kv ks) (hb : Below w.heap.size w w') : EIn w0 Zo B P tv lv0 S s0 w' lv s kv ks :=
 h.send (h.pin.below hb) (.of_below hb) (fresh_same _ _) (Nat.le_refl _)
theorem EIn.callS {f : Nat} {args : Array Value} {v : Value} (h : EIn w0 Zo B P tv lv0 S s0 w lv s kv ks) (hb : Below w.heap.size w W) (c : PIn W P tv lv S s → Calls Tryz.prog f args W (SEnd W P tv lv S s v s')) :
 Calls Tryz.prog f args W fun e w' => ∃ lv', e = .returned v ∧ EIn w0 Zo B P tv lv0 S s0 w' lv' s' kv ks :=
 have g := h.below hb
 (c g.pin).mono fun _ _ ⟨lv', h1, h2, h3, h4, h5⟩ => ⟨lv', h1, g.send h2 h3 h4 h5⟩
theorem EIn.callIs (h : EIn w0 Zo B P tv lv0 S s0 w lv s kv ks) (hb : Below w.heap.size w W) (ws : List ByteArray) (b : Bool) (hi : isB S.A ws s = b) {n : Nat} (hn : n = ws.length) (hl : n < 1000) {a : Nat} (ha : a = W.heap.size) {cs : Array Value} (hc : cs = (ws.map Value.string).toArray) :
 Calls Tryz.prog 117 #[.pointer (some ⟨P, 0, none⟩), .slice (some ⟨a, 0, none⟩) n n] (W.alloc (.cells cs 9)) fun e w' => e = .returned (.bool b) ∧ EIn w0 Zo B P tv lv0 S s0 w' lv s kv ks :=
 have g := h.below hb
 (is_at g.pin ws b hi hn hl ha hc).mono fun _ _ ⟨h1, h2⟩ => ⟨h1, g.below h2⟩
structure EPend (w0 : World) (Zo : Option Nat) (B : Nat) (P : Nat) (tv lv0 : Value) (S : Src) (s0 : Ps) (w : World) (lv : Value) (s : Ps) (kv : Value) (ks : Kds) (n : Nd) (t : PT) : Prop where
 ein : EIn w0 Zo B P tv lv0 S s0 w lv s kv ks
 pend : NodeIn (fun b => B ≤ b ∧ ¬ pfoot P lv b ∧ kv.ownBlock ≠ some b) w n ∧ n.tr = S.tree t
theorem EIn.callN {f : Nat} {args : Array Value} {r : PT × Ps} (h : EIn w0 Zo B P tv lv0 S s0 w lv s kv ks) (hb : Below w.heap.size w W) (c : PIn W P tv lv S s → Calls Tryz.prog f args W (NEnd W P tv lv S s r)) :
 Calls Tryz.prog f args W fun e w' => ∃ lv' nk nt na ne nao ncap nks, e = .returned (.agg #[.int .i64 nk, .string nt, .int .i64 na, .int .i64 ne, .slice nao nks.length ncap]) ∧ EPend w0 Zo B P tv lv0 S s0 w' lv' r.2 kv ks (Nd.mk nk nt na ne (.slice nao nks.length ncap) nks) r.1 ∧ s.at_ ≤ r.2.at_ :=
 have g := h.below hb
 (c g.pin).mono fun _ _ ⟨lv', nk, nt, na, ne, nao, ncap, nks, h1, t1, t2, t3, t4, t5, t6⟩ => ⟨lv', nk, nt, na, ne, nao, ncap, nks, h1, ⟨g.send t3 t4 t5 t6, t2.mono (fun b _ hn => ⟨Nat.le_trans g.bb hn.1, hn.2, fun e => by have := (g.kr.lt b e).2; omega⟩), t1⟩, t6⟩
theorem EPend.below {n : Nd} {t : PT} (h : EPend w0 Zo B P tv lv0 S s0 w lv s kv ks n t) (hb : Below w.heap.size w w') : EPend w0 Zo B P tv lv0 S s0 w' lv s kv ks n t :=
 ⟨h.ein.below hb, h.pend.1.later hb, h.pend.2⟩
theorem EPend.app {n : Nd} {t : PT} (h : EPend w0 Zo B P tv lv0 S s0 w lv s kv ks n t) {W0 : World} (hb : Below w.heap.size w W0) {g cap : Nat} (hgrow : W0.grownBy w' kv.ownBlock) (hown : w'.ownsRow B 25 5 (.slice (some ⟨g, 0, none⟩) (ks.length + 1) cap) (ks.length + 1) (((ks.map Prod.fst).flatMap fun n => n.cells.toList) ++ n.cells.toList)) (hnew : kv.ownBlock = some g ∨ g = W0.heap.size) (hc : ks.length ≤ s.at_) :
 EIn w0 Zo B P tv lv0 S s0 w' lv s (.slice (some ⟨g, 0, none⟩) (ks.length + 1) cap) (ks ++ [(n, t)]) := by
 have h1 := h.below hb
 have e1 := h1.ein
 have hK : Kept (fun b => kv.ownBlock = some b) W0 w' := Kept.grown hgrow (fun k hk => hk)
 have hz := hb.size
 have hpf : ∀ b, b < W0.heap.size → ¬ pfoot P lv b → ¬ pfoot P lv b := fun _ _ h => h
 have hg : ¬ pfoot P lv g := by
  rcases hnew with e | e
  ·exact e1.kr.apart g e
  ·exact fun e2 => by have := e1.pin.lt g e2; omega
 have hne : ∀ {n : Nd}, NodeIn (fun b => B ≤ b ∧ ¬ pfoot P lv b ∧ kv.ownBlock ≠ some b) W0 n → NodeIn (fun b => B ≤ b ∧ ¬ pfoot P lv b ∧ (Value.slice (some ⟨g, 0, none⟩) (ks.length + 1) cap).ownBlock ≠ some b) w' n := fun {n} hn =>
  hn.same (fun b hb' hq => hK.block b hb' hq.2.2) hK.size (fun b hb' hq => ⟨hq.1, hq.2.1, fun e => by
   have e2 : g = b := by simpa [Value.ownBlock] using e
   rcases hnew with e3 | e3
   ·exact hq.2.2 (e2 ▸ e3)
   ·omega⟩)
 refine ⟨e1.pin.same hK (fun b hb' => ⟨e1.kr.apart b hb', fun e => by have := e1.tlt b e; have := (e1.kr.lt b hb').1; have := e1.bw; omega⟩), e1.kept.trans' hK (fun i hi e => by have := (e1.kr.lt i e).1; have := e1.bw; omega), e1.fresh, e1.mono, e1.bw, Nat.le_trans e1.bb hK.size, e1.tlt, fun Z hZ => ?_, ⟨?_, fun b hb' => ?_, fun p hp => ?_⟩, by simp; omega⟩
 ·obtain ⟨b1, b2, b3, b4⟩ := e1.box Z hZ
  exact ⟨(hK.block Z (lt_of_block b1) (fun e => by have := (e1.kr.lt Z e).1; omega)).trans b1, b2, b3, b4⟩
 ·simp only [List.map_append, List.flatMap_append, List.length_append, List.map_cons, List.map_nil, List.flatMap_cons, List.flatMap_nil, List.append_nil, List.length_cons, List.length_nil, Nat.zero_add]
  exact hown
 ·have e2 : g = b := by simpa [Value.ownBlock] using hb'
  exact e2 ▸ hg
 ·rcases List.mem_append.1 hp with hp | hp
  ·exact ⟨hne (e1.kr.kids p hp).1, (e1.kr.kids p hp).2⟩
  ·rw [List.mem_singleton.1 hp]
   exact ⟨hne h1.pend.1, h1.pend.2⟩
theorem KRow.at_ (h : KRow B P S w lv kv ks) (hl : ks.length ≤ 140737488355328) : KidsAt (fun b => B ≤ b ∧ ¬ pfoot P lv b) w kv (ks.map Prod.fst) := by
 rcases h.row with ⟨hl2, ⟨rfl, h0⟩ | ⟨g, cap, cur, rfl, hg, hb, r1, r2, r3, r4⟩⟩
 ·obtain rfl : ks = [] := List.length_eq_zero_iff.1 h0
  exact kids_none w
 ·refine ⟨some ⟨g, 0, none⟩, cap, by simp, by simpa using hl, fun _ => ⟨g, 0, rfl, ⟨hg, h.apart g rfl⟩, lt_of_block hb, fun i hi j u hu => ?_⟩⟩
  have := row_get (ks.map Prod.fst) i hi j u hu
  have h1 := h.row.cells (g := g) rfl (i * 5 + j) u this
  simpa [Addr.add_lit] using h1
theorem FIn.collect (h : FIn w0 Z P tv lv0 S s0 w lv s [] []) (hB : B = Z + 1) : EIn w0 (some Z) B P tv lv0 S s0 w lv s (.slice none 0 0) [] := by
 subst hB
 have hZ := h.hZ
 exact ⟨h.pin, h.kept, h.fresh, h.mono, by omega, h.zlt, fun b hb => by have := h.tlt b hb; omega, fun Z' e => by
  have e2 : Z = Z' := by simpa using e
  subst e2
  exact ⟨h.box, h.far, by omega, hZ⟩, ⟨World.ownsRow_nil w _ _ 5, by simp [Value.ownBlock], by simp⟩, by simp⟩
theorem EIn.toRow {ao : Option Addr} {n cap : Nat} (h : EIn w0 (some Z) B P tv lv0 S s0 w lv s (.slice ao n cap) ks) (hn : n = ks.length) : FRow w0 Z P tv lv0 S s0 w lv s ks [] ao n cap := by
 obtain ⟨b1, b2, b3, b4⟩ := h.box Z rfl
 have hlt := h.pin.sok.lt
 have hlen := h.pin.ok.len
 have hcnt := h.cnt
 refine ⟨⟨h.pin, h.kept, h.fresh, b1, b4, b2, h.mono, fun b hb => by have := h.tlt b hb; omega, fun p hp => ⟨(h.kr.kids p hp).1.mono (fun b _ hq => ⟨by have := hq.1; omega, hq.2.1, by simp⟩), (h.kr.kids p hp).2⟩, by simp, .nil⟩, hn, ?_⟩
 exact (h.kr.at_ (by omega)).same (fun _ _ _ => rfl) (Nat.le_refl _) (fun b _ hq => ⟨by have := hq.1; omega, hq.2, by simp⟩)
theorem FRow.callNode {bs : Bxs} {ao : Option Addr} {n cap : Nat} (h : FRow w0 Z P tv lv0 S s0 w lv s ks bs ao n cap) (hb : Below w.heap.size w W) (kind : Int) (first : Nat) (hf : first ≤ s0.at_) (text : ByteArray) :
 Calls Tryz.prog 63 #[.pointer (some ⟨P, 0, none⟩), .int .i64 kind, .int .i64 first, .string text, .slice ao n cap] W fun e w' => e = .returned (.agg #[.int .i64 kind, .string text, .int .i64 (S.at_ first s.at_), .int .i64 (S.last s.at_), .slice ao n cap]) ∧ FRow w0 Z P tv lv0 S s0 w' lv s ks bs ao n cap := by
 have h0 := h.below hb
 exact (node_walk h0.fin.pin kind first text ao n cap (Nat.le_trans hf h0.fin.mono)).mono fun e w' hw => ⟨hw.1, h0.below hw.2⟩
def EEnd (w : World) (P : Nat) (tv lv : Value) (S : Src) (s : Ps) (r : List PT × Ps) (e : Ending) (w' : World) : Prop :=
 ∃ lv' ao n cap, ∃ ks : Kds, e = .returned (.slice ao n cap) ∧ n = ks.length ∧ ks.map Prod.snd = r.1 ∧ KidsAt (fun b => w.heap.size ≤ b ∧ ¬ pfoot P lv' b) w' (.slice ao n cap) (ks.map Prod.fst) ∧ (∀ p ∈ ks, NodeIn (fun b => w.heap.size ≤ b ∧ ¬ pfoot P lv' b) w' p.1 ∧ p.1.tr = S.tree p.2) ∧ PIn w' P tv lv' S r.2 ∧ Kept (pfoot P lv) w w' ∧ Fresh w lv lv' ∧ s.at_ ≤ r.2.at_
theorem EIn.end_ {ao : Option Addr} {n cap : Nat} (h : EIn w0 none B P tv lv0 S s0 w lv s (.slice ao n cap) ks) (hB : B = w0.heap.size) (hn : n = ks.length) (l : List PT) (hl : ks.map Prod.snd = l) : EEnd w0 P tv lv0 S s0 (l, s) (.returned (.slice ao n cap)) w := by
 subst hB
 have hlt := h.pin.sok.lt
 have hlen := h.pin.ok.len
 have hcnt := h.cnt
 exact ⟨lv, ao, n, cap, ks, rfl, hn, hl, h.kr.at_ (by omega), fun p hp => ⟨(h.kr.kids p hp).1.mono (fun b _ hq => ⟨hq.1, hq.2.1⟩), (h.kr.kids p hp).2⟩, h.pin, h.kept, h.fresh, h.mono⟩
theorem EIn.start (h : PIn w P tv lv S s) : EIn w none w.heap.size P tv lv S s w lv s (.slice none 0 0) [] :=
 ⟨h, .refl _ _, fresh_same _ _, Nat.le_refl _, Nat.le_refl _, Nat.le_refl _, h.toks.lt, by simp, ⟨World.ownsRow_nil w _ _ 5, by simp [Value.ownBlock], by simp⟩, by simp⟩
theorem FIn.callE {f : Nat} {args : Array Value} {r : List PT × Ps} (h : FIn w0 Z P tv lv0 S s0 w lv s [] []) (hb : Below w.heap.size w W) (c : PIn W P tv lv S s → Calls Tryz.prog f args W (EEnd W P tv lv S s r)) :
 Calls Tryz.prog f args W fun e w' => ∃ lv' ao n cap, ∃ ks : Kds, e = .returned (.slice ao n cap) ∧ ks.map Prod.snd = r.1 ∧ FRow w0 Z P tv lv0 S s0 w' lv' r.2 ks [] ao n cap :=
 have g := h.below hb
 (c g.pin).mono fun _ w2 ⟨lv', ao, n, cap, ks, h1, h2, h3, h4, h5, h6, h7, h8, h9⟩ => ⟨lv', ao, n, cap, ks, h1, h3, by
  have f := g.send h6 h7 h8 h9
  have hz := g.zlt
  exact ⟨⟨f.pin, f.kept, f.fresh, f.box, f.hZ, f.far, f.mono, f.tlt, fun p hp => ⟨(h5 p hp).1.mono (fun b _ hq => ⟨by have := hq.1; omega, hq.2, by simp⟩), (h5 p hp).2⟩, by simp, .nil⟩, h2, h4.same (fun _ _ _ => rfl) (Nat.le_refl _) (fun b _ hq => ⟨by have := hq.1; omega, hq.2, by simp⟩)⟩⟩
end
end Go.Proofs.YthggagophcnkfaaGreatDoor.px
namespace Go.Proofs.YthggagophcnkfaaGreatDoor.px
open Go.RowKit Go.Proofs.YthggagophcnkfaaGreatDoor.agg Go.Proofs.YthggagophcnkfaaGreatDoor.sx
set_option linter.unusedSimpArgs false
set_option linter.unusedVariables false
def atOf (P : Nat) (w : World) : Nat := match w.cell? ⟨P, 2, none⟩ with | some (.int _ n) => n.toNat | _ => 0
theorem PAt.atOf {w : World} {P : Nat} {tv lv : Value} {S : Src} {s : Ps} {la fo : Int} (h : PAt w P tv lv S s la fo) : atOf P w = s.at_ := by
 unfold px.atOf
 rw [h.cell.2.2.1]
 simp
theorem info_nd : (Tryz.prog.info? 25).map (fun i => (i.zero, i.size, i.bytes)) = some (some (.agg #[.int .i64 0, .string ⟨#[]⟩, .int .i64 0, .int .i64 0, .slice none 0 0]), 5, 64) := by kernel_rfl
def FnM (P : Nat) (tv : Value) (S : Src) (K : Nat) (f : M PT) (n : Nat) : Prop :=
 (∀ args w, (callFunc K args).run Tryz.prog w = .ok (.enter K args) w) ∧ ∀ (W : World) (lv : Value) (s : Ps), PIn W P tv lv S s → S.L.length < s.at_ + n → Calls Tryz.prog K #[.pointer (some ⟨P, 0, none⟩)] W (NEnd W P tv lv S s (f s))
theorem more_stop {A : List Tk} {el : M PT} {k : Nat} {l : List PT} {s : Ps} (h : isB A [(ByteArray.mk #[44])] s = false) : more A el k l s = (l, s) := by
 cases k with
 | zero => rfl
 | succ k => rw [more, h]; rfl
theorem more_go {A : List Tk} {el : M PT} {k : Nat} {l : List PT} {s : Ps} (h : isB A [(ByteArray.mk #[44])] s = true) : more A el (k + 1) l s = more A el k (l ++ [(el (next A s).2).1]) (el (next A s).2).2 := by
 rw [more, h]; rfl
theorem cells_one (k : Int) (t : ByteArray) (a e : Int) (v : Value) (ks : List Nd) (hv : ∃ ao n c, v = .slice ao n c) : ∀ u ∈ (Nd.mk k t a e v ks).cells.toList, u.oneCell' = true := by
 obtain ⟨ao, n, c, rfl⟩ := hv
 intro u hu
 simp only [Nd.cells, List.mem_cons, List.not_mem_nil, or_false] at hu
 rcases hu with rfl | rfl | rfl | rfl | rfl <;> rfl
theorem wpList_app {ops : Array Oper} {rest : List Oper} {o : Oper} {a : Act} {Q : Exit → Act → World → Prop} {w0 : World} {Zo : Option Nat} {B : Nat} {P : Nat} {tv lv0 : Value} {S : Src} {s0 : Ps} {w : World} {lv : Value} {s : Ps} {kv : Value} {ks : Kds} {nk : Int} {nt : ByteArray} {na ne : Int} {nao : Option Addr} {nl ncap : Nat} {nks : List Nd} {t : PT}
 (h : EPend w0 Zo B P tv lv0 S s0 w lv s kv ks (Nd.mk nk nt na ne (.slice nao nl ncap) nks) t) (hg : o.guard = none) (x y : Operand) (ho : o.op = .call { callee := .builtin .append, args := #[x, y], argTypes := #[23, 23] }) (hx : a.eval x = kv) (hy : a.eval y = .slice (some ⟨w.heap.size, 0, none⟩) 1 1) (hc : ks.length ≤ s.at_)
 (k : ∀ g cap w', EIn w0 Zo B P tv lv0 S s0 w' lv s (.slice (some ⟨g, 0, none⟩) (ks.length + 1) cap) (ks ++ [(Nd.mk nk nt na ne (.slice nao nl ncap) nks, t)]) → wpList Tryz.prog ops Q rest (a.put o.dst (.slice (some ⟨g, 0, none⟩) (ks.length + 1) cap)) w') :
 wpList Tryz.prog ops Q (o :: rest) a (w.alloc (.cells #[.int .i64 nk, .string nt, .int .i64 na, .int .i64 ne, .slice nao nl ncap] 25)) := by
 obtain ⟨i0, hi0, hz0, hz1, hz2⟩ := info_parts info_nd
 have hlt := h.ein.pin.sok.lt
 have hlen := h.ein.pin.ok.len
 have hbb := h.ein.bb
 refine wpList_append_mine hg x y 23 ho B 25 i0 _ 5 64 Tryz.underlying23 hi0 hz0 hz1 hz2 (by decide) kv ks.length _ hx (h.ein.kr.row.alloc _) ⟨w.heap.size, 0, none⟩ 1 1 (Nd.mk nk nt na ne (.slice nao nl ncap) nks).cells.toList hy rfl (by omega) (cells_new w (Nd.mk nk nt na ne (.slice nao nl ncap) nks).cells _) (cells_one _ _ _ _ _ _ ⟨_, _, _, rfl⟩) (by unfold maxLen; omega) (by omega) (by simp; omega) ?_
 intro g cap w' hown hgrow hnew
 exact k g cap w' (h.app ((Below.refl _ w).alloc (Nat.le_refl _) _) hgrow hown hnew hc)
set_option maxRecDepth 100000 in
set_option maxHeartbeats 4000000 in
theorem elements_walk {w : World} {P : Nat} {tv lv : Value} {S : Src} {s : Ps} (h : PIn w P tv lv S s) (K : Nat) (f : M PT) (n : Nat) (hf : FnM P tv S K f n) (hn : S.L.length < s.at_ + n) :
 Calls Tryz.prog 129 #[.pointer (some ⟨P, 0, none⟩), .func (.func K) #[.pointer (some ⟨P, 0, none⟩)] #[]] w (EEnd w P tv lv S s (elements S.A f s)) := by
 have e0 := Lib.hid (EIn.start h)
 have hD := Lib.hid (fun (W : World) (lv2 : Value) (q : PIn W P tv lv2 S s) => demand_walk q (ByteArray.mk #[40]) (by decide))
 have hm : Hid (elements S.A f s = if isB S.A [(ByteArray.mk #[41])] (demand S.A (ByteArray.mk #[40]) s).2 then ([], (demand S.A (ByteArray.mk #[41]) (demand S.A (ByteArray.mk #[40]) s).2).2) else ((more S.A f S.A.length [(f (demand S.A (ByteArray.mk #[40]) s).2).1] (f (demand S.A (ByteArray.mk #[40]) s).2).2).1, (demand S.A (ByteArray.mk #[41]) (more S.A f S.A.length [(f (demand S.A (ByteArray.mk #[40]) s).2).1] (f (demand S.A (ByteArray.mk #[40]) s).2).2).2).2)) := rfl
 generalize elements S.A f s = m at *
 generalize (demand S.A (ByteArray.mk #[40]) s).1 = d1 at *
 generalize (demand S.A (ByteArray.mk #[40]) s).2 = s1 at *
 clear h
 have eg := hf.1
 have hF := Lib.hid hf.2
 clear hf
 obtain ⟨i0, hi0, hz0, hz1, hz2⟩ := info_parts info_nd
 cases hi : isB S.A [(ByteArray.mk #[41])] s1 with
 | true =>
  rw [hi, if_pos rfl] at hm
  have hE := Lib.hid (fun (W : World) (lv2 : Value) (q : PIn W P tv lv2 S s1) => demand_walk q (ByteArray.mk #[41]) (by decide))
  have hi' := Lib.hid hi
  generalize (demand S.A (ByteArray.mk #[41]) s1).1 = d2 at *
  generalize (demand S.A (ByteArray.mk #[41]) s1).2 = s2 at *
  clear hi
  go_enter Tryz.func129, Tryz.ntmps129
  go_wp2_with (first
   | (go_at_call 67; refine (e2.out.callS (by repeat (first | exact Below.refl _ _ | apply bl_drew | apply bl_alloc)) (hE.out _ _)).mono ?_; rintro e w3 ⟨lv3, rfl, g⟩; have e3 := Lib.hid g; clear g)
   | (go_at_call 117; refine (e1.out.callIs (by repeat (first | exact Below.refl _ _ | apply bl_drew | apply bl_alloc)) [(ByteArray.mk #[41])] true hi'.out rfl (by decide) (by first | rfl | simp) rfl).mono ?_; rintro e w2 ⟨rfl, g⟩; have e2 := Lib.hid g; clear g)
   | (go_at_call 67; refine (e0.out.callS (by repeat (first | exact Below.refl _ _ | apply bl_drew | apply bl_alloc)) (hD.out _ _)).mono ?_; rintro e w1 ⟨lv1, rfl, g⟩; have e1 := Lib.hid g; clear g))
  go_ret
  rw [hm.out]
  exact e3.out.end_ rfl rfl _ rfl
 | false =>
  rw [hi, if_neg (by simp)] at hm
  have hi' := Lib.hid hi
  clear hi
  have hF1 := Lib.hid (fun (W : World) (lv2 : Value) (q : PIn W P tv lv2 S s1) (hq : S.L.length < s1.at_ + n) => hF.out W lv2 s1 q hq)
  obtain ⟨R, hR⟩ : ∃ R, more S.A f S.A.length [(f s1).1] (f s1).2 = R := ⟨_, rfl⟩
  rw [hR] at hm
  have hR' := Lib.hid hR
  clear hR
  generalize f s1 = k1 at *
  go_enter Tryz.func129, Tryz.ntmps129
  go_wp2_with (first
   | (at_builtin; refine wpList_app e3.out rfl (.tmp 12) (.tmp 15) rfl rfl rfl (Nat.zero_le _) ?_; intro g cap w4 e; have e4 := Lib.hid e; clear e)
   | (go_at_fn K; refine (e2.out.callN (by repeat (first | exact Below.refl _ _ | apply bl_drew | apply bl_alloc)) (fun q => hF1.out _ _ q (by omega))).mono ?_; rintro e w3 ⟨lv3, nk, nt, na, ne, nao, ncap, nks, rfl, g, _⟩; have e3 := Lib.hid g; clear g)
   | (go_at_call 117; refine (e1.out.callIs (by repeat (first | exact Below.refl _ _ | apply bl_drew | apply bl_alloc)) [(ByteArray.mk #[41])] false hi'.out rfl (by decide) (by first | rfl | simp) rfl).mono ?_; rintro e w2 ⟨rfl, g⟩; have e2 := Lib.hid g; clear g)
   | (go_at_call 67; refine (e0.out.callS (by repeat (first | exact Below.refl _ _ | apply bl_drew | apply bl_alloc)) (hD.out _ _)).mono ?_; rintro e w1 ⟨lv1, rfl, g⟩; have hm1 : s.at_ ≤ s1.at_ := g.mono; have e1 := Lib.hid g; clear g))
  go_loopw [5] (fun v wr => ∃ (k : Nat) (lv2 : Value) (s2 : Ps) (ao : Option Addr) (cp : Nat) (ks : Kds), v = .slice ao ks.length cp ∧ EIn w none w.heap.size P tv lv S s wr lv2 s2 (.slice ao ks.length cp) ks ∧ S.L.length ≤ s2.at_ + k ∧ Hid (more S.A f k (ks.map Prod.snd) s2 = R)) (fun _ wr => S.L.length - atOf P wr)
  case atStart => exact ⟨S.A.length, lv3, k1.2, _, cap, [_], rfl, e4.out, by rw [Src.len]; omega, hR'⟩
  case round =>
   obtain ⟨k, lv2, s2, ao, cp, ks, rfl, e5', hk, hmo⟩ := hrel
   have e5 := Lib.hid e5'
   have hlt := e5'.pin.sok.lt
   have hmon := e5'.mono
   have hcn := e5'.cnt
   have hato := Lib.hid e5'.pin.atOf
   clear e5'
   cases hc : isB S.A [(ByteArray.mk #[44])] s2 with
   | true =>
    have hc' := Lib.hid hc
    obtain ⟨k', rfl⟩ : ∃ k', k = k' + 1 := ⟨k - 1, by omega⟩
    have hmo2 := Lib.hid ((more_go hc).symm.trans hmo.out)
    have hnx : (next S.A s2).2.at_ = s2.at_ + 1 := rfl
    clear hc
    have hF2 := Lib.hid (fun (W : World) (lv2 : Value) (q : PIn W P tv lv2 S (next S.A s2).2) (hq : S.L.length < (next S.A s2).2.at_ + n) => hF.out W lv2 _ q hq)
    have hO := Lib.hid (fun (W : World) (lv3 : Value) (q : PIn W P tv lv3 S s2) => opt_yes q (ByteArray.mk #[44]) hc'.out)
    generalize (next S.A s2).2 = s3 at *
    generalize f s3 = k3 at *
    go_wp2_with (first
     | (at_builtin; refine wpList_app e7.out rfl (.tmp 19) (.tmp 22) rfl rfl rfl (by omega) ?_; intro g cap w8 e; have e8 := Lib.hid e; clear e)
     | (go_at_fn K; refine (e6.out.callN (by repeat (first | exact Below.refl _ _ | apply bl_drew | apply bl_alloc)) (fun q => hF2.out _ _ q (by omega))).mono ?_; rintro e w7 ⟨lv7, nk7, nt7, na7, ne7, nao7, ncap7, nks7, rfl, g, hm7⟩; have e7 := Lib.hid g; clear g)
     | (go_at_call 123; refine (e5.out.callS (by repeat (first | exact Below.refl _ _ | apply bl_drew | apply bl_alloc)) (hO.out _ _)).mono ?_; rintro e w6 ⟨lv6, rfl, g⟩; have e6 := Lib.hid g; clear g))
    go_roundw
    case rel => exact ⟨k', lv7, k3.2, some ⟨g, 0, none⟩, cap, ks ++ [_], by simp, by simpa using e8.out, by omega, by simpa using hmo2⟩
    case measure => rw [e8.out.pin.atOf, hato.out]; omega
   | false =>
    have hc' := Lib.hid hc
    have hst := Lib.hid ((more_stop hc).symm.trans hmo.out)
    clear hc
    have hO := Lib.hid (fun (W : World) (lv3 : Value) (q : PIn W P tv lv3 S s2) => opt_no q (ByteArray.mk #[44]) hc'.out)
    have hE := Lib.hid (fun (W : World) (lv2 : Value) (q : PIn W P tv lv2 S s2) => demand_walk q (ByteArray.mk #[41]) (by decide))
    generalize (demand S.A (ByteArray.mk #[41]) s2).1 = d2 at *
    generalize hs9 : (demand S.A (ByteArray.mk #[41]) s2).2 = s9 at *
    have hs9' := Lib.hid hs9
    clear hs9
    go_wp2_with (first
     | (go_at_call 67; refine (e6.out.callS (by repeat (first | exact Below.refl _ _ | apply bl_drew | apply bl_alloc)) (hE.out _ _)).mono ?_; rintro e w7 ⟨lv7, rfl, g⟩; have e7 := Lib.hid g; clear g)
     | (go_at_call 123; refine (e5.out.callS (by repeat (first | exact Below.refl _ _ | apply bl_drew | apply bl_alloc)) (hO.out _ _)).mono ?_; rintro e w6 ⟨lv6, rfl, g⟩; have e6 := Lib.hid g; clear g))
    go_ret
    rw [hm.out, ← hst.out]
    simp only
    rw [hs9'.out]
    exact e7.out.end_ rfl rfl _ rfl
end Go.Proofs.YthggagophcnkfaaGreatDoor.px
namespace Go.Proofs.YthggagophcnkfaaGreatDoor.px
open Go.RowKit Go.Proofs.YthggagophcnkfaaGreatDoor.agg Go.Proofs.YthggagophcnkfaaGreatDoor.sx
set_option linter.unusedSimpArgs false
set_option linter.unusedVariables false
set_option maxRecDepth 100000 in
set_option maxHeartbeats 2000000 in
theorem column_walk {w : World} {P : Nat} {tv lv : Value} {S : Src} {s : Ps} (h : PIn w P tv lv S s) :
 Calls Tryz.prog 120 #[.pointer (some ⟨P, 0, none⟩)] w (NEnd w P tv lv S s (column S.A s)) := by
 have f0 := Lib.hid (FIn.start h)
 have cat := h.cell.2.2.1
 have hP := lt_of_block h.box
 have hm : Hid (column S.A s = (node 11 s.at_ ((name S.A s).1) [(named S.A (demand S.A (ByteArray.mk #[58]) (name S.A s).2).2).1] (named S.A (demand S.A (ByteArray.mk #[58]) (name S.A s).2).2).2, (named S.A (demand S.A (ByteArray.mk #[58]) (name S.A s).2).2).2)) := rfl
 generalize column S.A s = m at *
 have h1 := Lib.hid (fun (W : World) (lvq : Value) (q : PIn W P tv lvq S s) => name_walk q)
 generalize (name S.A s).1 = x1 at *
 generalize (name S.A s).2 = s1 at *
 have h2 := Lib.hid (fun (W : World) (lvq : Value) (q : PIn W P tv lvq S s1) => demand_walk q (ByteArray.mk #[58]) (by decide))
 generalize (demand S.A (ByteArray.mk #[58]) s1).1 = x2 at *
 generalize (demand S.A (ByteArray.mk #[58]) s1).2 = s2 at *
 have h3 := Lib.hid (fun (W : World) (lvq : Value) (q : PIn W P tv lvq S s2) => named_walk q)
 generalize named S.A s2 = k3 at *
 obtain ⟨kk3, s3⟩ := k3
 clear h
 go_enter Tryz.func120, Tryz.ntmps120
 go_wp2_with (first
  | (go_at_call 63; refine ((f3.out.box1 nks3 rfl).callNode (by repeat (first | exact Below.refl _ _ | apply bl_drew | apply bl_alloc)) 11 s.at_ (Nat.le_refl _) x1 rfl (by simp) rfl (by simp)).mono ?_; rintro e w4 ⟨rfl, g⟩; have f4 := Lib.hid g; clear g; obtain ⟨z0, z1, z2, z3, z4, z5⟩ := f4.out.fin.cells)
  | (go_at_call 126; refine (f2.out.callN (by repeat (first | exact Below.refl _ _ | apply bl_drew | apply bl_alloc)) (h3.out _ _)).mono ?_; rintro e w3 ⟨lv3, nk3, nt3, na3, ne3, nao3, ncap3, nks3, rfl, g⟩; have f3 := Lib.hid g; clear g)
  | (go_at_call 67; refine (f1.out.callS (by repeat (first | exact Below.refl _ _ | apply bl_drew | apply bl_alloc)) (h2.out _ _)).mono ?_; rintro e w2 ⟨lv2, rfl, g⟩; have f2 := Lib.hid g; clear g)
  | (go_at_call 64; refine (f0.out.callS (by repeat (first | exact Below.refl _ _ | apply bl_drew | apply bl_alloc)) (h1.out _ _)).mono ?_; rintro e w1 ⟨lv1, rfl, g⟩; have f1 := Lib.hid g; clear g))
 refine bodyPost_ret (v := .agg #[.int .i64 11, .string x1, .int .i64 (S.at_ s.at_ s3.at_), .int .i64 (S.last s3.at_), .slice _ 1 1]) (by simp [results, Tryz.results120, go_sem, z0, z1, z2, z3, z4] <;> rfl) rfl ?_
 rw [hm.out]
 exact f4.out.end_ (kept5 _ _ _ _ _ _ _) 11 s.at_ x1
set_option maxRecDepth 100000 in
set_option maxHeartbeats 2000000 in
theorem limits_walk {w : World} {P : Nat} {tv lv : Value} {S : Src} {s : Ps} (h : PIn w P tv lv S s) :
 Calls Tryz.prog 68 #[.pointer (some ⟨P, 0, none⟩)] w (NEnd w P tv lv S s (limits S.A s)) := by
 have f0 := Lib.hid (FIn.start h)
 have cat := h.cell.2.2.1
 have hP := lt_of_block h.box
 have hm : Hid (limits S.A s = (node 12 s.at_ (⟨#[]⟩) [(integer S.A s).1, (integer S.A (demand S.A (ByteArray.mk #[46, 46]) (integer S.A s).2).2).1] (integer S.A (demand S.A (ByteArray.mk #[46, 46]) (integer S.A s).2).2).2, (integer S.A (demand S.A (ByteArray.mk #[46, 46]) (integer S.A s).2).2).2)) := rfl
 generalize limits S.A s = m at *
 have h1 := Lib.hid (fun (W : World) (lvq : Value) (q : PIn W P tv lvq S s) => integer_walk q)
 generalize integer S.A s = k1 at *
 obtain ⟨kk1, s1⟩ := k1
 have h2 := Lib.hid (fun (W : World) (lvq : Value) (q : PIn W P tv lvq S s1) => demand_walk q (ByteArray.mk #[46, 46]) (by decide))
 generalize (demand S.A (ByteArray.mk #[46, 46]) s1).1 = x2 at *
 generalize (demand S.A (ByteArray.mk #[46, 46]) s1).2 = s2 at *
 have h3 := Lib.hid (fun (W : World) (lvq : Value) (q : PIn W P tv lvq S s2) => integer_walk q)
 generalize integer S.A s2 = k3 at *
 obtain ⟨kk3, s3⟩ := k3
 clear h
 go_enter Tryz.func68, Tryz.ntmps68
 go_wp2_with (first
  | (go_at_call 63; refine ((f3.out.box1 nks3 rfl).callNode (by repeat (first | exact Below.refl _ _ | apply bl_drew | apply bl_alloc)) 12 s.at_ (Nat.le_refl _) ⟨#[]⟩ rfl (by simp) rfl (by simp)).mono ?_; rintro e w4 ⟨rfl, g⟩; have f4 := Lib.hid g; clear g; obtain ⟨z0, z1, z2, z3, z4, z5⟩ := f4.out.fin.cells)
  | (go_at_call 121; refine (f2.out.callN (by repeat (first | exact Below.refl _ _ | apply bl_drew | apply bl_alloc)) (h3.out _ _)).mono ?_; rintro e w3 ⟨lv3, nk3, nt3, na3, ne3, nao3, ncap3, nks3, rfl, g⟩; have f3 := Lib.hid g; clear g; obtain ⟨y00, y01, y02, y03, y04, y05, y06⟩ := f3.out.bx 0 rfl)
  | (go_at_call 67; refine ((f1.out.box1 nks1 rfl).callS (by repeat (first | exact Below.refl _ _ | apply bl_drew | apply bl_alloc)) (h2.out _ _)).mono ?_; rintro e w2 ⟨lv2, rfl, g⟩; have f2 := Lib.hid g; clear g)
  | (go_at_call 121; refine (f0.out.callN (by repeat (first | exact Below.refl _ _ | apply bl_drew | apply bl_alloc)) (h1.out _ _)).mono ?_; rintro e w1 ⟨lv1, nk1, nt1, na1, ne1, nao1, ncap1, nks1, rfl, g⟩; have f1 := Lib.hid g; clear g))
 refine bodyPost_ret (v := .agg #[.int .i64 12, .string ⟨#[]⟩, .int .i64 (S.at_ s.at_ s3.at_), .int .i64 (S.last s3.at_), .slice _ 2 2]) (by simp [results, Tryz.results68, go_sem, z0, z1, z2, z3, z4] <;> rfl) rfl ?_
 rw [hm.out]
 exact f4.out.end_ (kept5 _ _ _ _ _ _ _) 12 s.at_ ⟨#[]⟩
set_option maxRecDepth 100000 in
set_option maxHeartbeats 2000000 in
theorem argument_walk_1 {w : World} {P : Nat} {tv lv : Value} {S : Src} {s : Ps} (h : PIn w P tv lv S s) (c1 : Hid ((tok S.A s).kind = 1)) :
 Calls Tryz.prog 180 #[.pointer (some ⟨P, 0, none⟩)] w (NEnd w P tv lv S s (argument S.A s)) := by
 have f0 := Lib.hid (FIn.start h)
 have hP := lt_of_block h.box
 have hm0 : argument S.A s = ((named S.A s).1, (named S.A s).2) := by
  unfold argument
  simp only [c1.out, if_true, if_false, Bool.false_eq_true, Bool.true_eq_false, reduceIte, Nat.reduceEqDiff]
 have hm := Lib.hid hm0
 clear hm0
 generalize argument S.A s = m at *
 have h1 := Lib.hid (fun (W : World) (lvq : Value) (q : PIn W P tv lvq S s) => token_k q c1.out)
 have h2 := Lib.hid (fun (W : World) (lvq : Value) (q : PIn W P tv lvq S s) => named_walk q)
 generalize named S.A s = k2 at *
 obtain ⟨kk2, s2⟩ := k2
 clear h
 go_enter Tryz.func180, Tryz.ntmps180
 go_wp2_with (first
  | (go_at_call 126; refine (f1.out.callN (by repeat (first | exact Below.refl _ _ | apply bl_drew | apply bl_alloc)) (h2.out _ _)).mono ?_; rintro e w2 ⟨lv2, nk2, nt2, na2, ne2, nao2, ncap2, nks2, rfl, g⟩; have f2 := Lib.hid g; clear g; obtain ⟨z0, z1, z2, z3, z4, z5⟩ := f2.out.cells)
  | (go_at_call 60; refine (f0.out.callB (by repeat (first | exact Below.refl _ _ | apply bl_drew | apply bl_alloc)) (h1.out _ _)).mono ?_; rintro e w1 ⟨rfl, g⟩; have f1 := Lib.hid g; clear g))
 refine bodyPost_ret (v := .agg #[.int .i64 nk2, .string nt2, .int .i64 na2, .int .i64 ne2, .slice nao2 nks2.length ncap2]) (by simp [results, Tryz.results180, go_sem, z0, z1, z2, z3, z4] <;> rfl) rfl ?_
 rw [hm.out]
 exact f2.out.pass (kept5 _ _ _ _ _ _ _)
set_option maxRecDepth 100000 in
set_option maxHeartbeats 2000000 in
theorem argument_walk_2 {w : World} {P : Nat} {tv lv : Value} {S : Src} {s : Ps} (h : PIn w P tv lv S s) (c1 : Hid (¬ (tok S.A s).kind = 1)) (c2 : Hid ((tok S.A s).kind = 3)) :
 Calls Tryz.prog 180 #[.pointer (some ⟨P, 0, none⟩)] w (NEnd w P tv lv S s (argument S.A s)) := by
 have f0 := Lib.hid (FIn.start h)
 have hP := lt_of_block h.box
 have hm0 : argument S.A s = ((number S.A s).1, (number S.A s).2) := by
  unfold argument
  simp only [c1.out, c2.out, if_true, if_false, Bool.false_eq_true, Bool.true_eq_false, reduceIte, Nat.reduceEqDiff]
 have hm := Lib.hid hm0
 clear hm0
 generalize argument S.A s = m at *
 have h1 := Lib.hid (fun (W : World) (lvq : Value) (q : PIn W P tv lvq S s) => token_k q c2.out)
 have h2 := Lib.hid (fun (W : World) (lvq : Value) (q : PIn W P tv lvq S s) => number_walk q)
 generalize number S.A s = k2 at *
 obtain ⟨kk2, s2⟩ := k2
 clear h
 go_enter Tryz.func180, Tryz.ntmps180
 go_wp2_with (first
  | (go_at_call 65; refine (f1.out.callN (by repeat (first | exact Below.refl _ _ | apply bl_drew | apply bl_alloc)) (h2.out _ _)).mono ?_; rintro e w2 ⟨lv2, nk2, nt2, na2, ne2, nao2, ncap2, nks2, rfl, g⟩; have f2 := Lib.hid g; clear g; obtain ⟨z0, z1, z2, z3, z4, z5⟩ := f2.out.cells)
  | (go_at_call 60; refine (f0.out.callB (by repeat (first | exact Below.refl _ _ | apply bl_drew | apply bl_alloc)) (h1.out _ _)).mono ?_; rintro e w1 ⟨rfl, g⟩; have f1 := Lib.hid g; clear g))
 refine bodyPost_ret (v := .agg #[.int .i64 nk2, .string nt2, .int .i64 na2, .int .i64 ne2, .slice nao2 nks2.length ncap2]) (by simp [results, Tryz.results180, go_sem, z0, z1, z2, z3, z4] <;> rfl) rfl ?_
 rw [hm.out]
 exact f2.out.pass (kept5 _ _ _ _ _ _ _)
set_option maxRecDepth 100000 in
set_option maxHeartbeats 2000000 in
theorem argument_walk_3 {w : World} {P : Nat} {tv lv : Value} {S : Src} {s : Ps} (h : PIn w P tv lv S s) (c1 : Hid (¬ (tok S.A s).kind = 1)) (c2 : Hid (¬ (tok S.A s).kind = 3)) :
 Calls Tryz.prog 180 #[.pointer (some ⟨P, 0, none⟩)] w (NEnd w P tv lv S s (argument S.A s)) := by
 have f0 := Lib.hid (FIn.start h)
 have hP := lt_of_block h.box
 have hm0 : argument S.A s = ((missing 0 (report 4 (ByteArray.mk #[110, 97, 109, 101]) s)), (report 4 (ByteArray.mk #[110, 97, 109, 101]) s)) := by
  unfold argument
  simp only [c1.out, c2.out, if_true, if_false, Bool.false_eq_true, Bool.true_eq_false, reduceIte, Nat.reduceEqDiff]
 have hm := Lib.hid hm0
 clear hm0
 have nc1 : (((tok S.A s).kind : Int) == 1) = false := by have := c1.out; simp; omega
 have nc2 : (((tok S.A s).kind : Int) == 3) = false := by have := c2.out; simp; omega
 generalize argument S.A s = m at *
 have h1 := Lib.hid (fun (W : World) (lvq : Value) (q : PIn W P tv lvq S s) => token_lit q)
 have h2 := Lib.hid (fun (W : World) (lvq : Value) (q : PIn W P tv lvq S s) => report_walk q 4 (ByteArray.mk #[110, 97, 109, 101]) (rp4 (by decide)))
 generalize report 4 (ByteArray.mk #[110, 97, 109, 101]) s = s2 at *
 have h3 := Lib.hid (fun (W : World) (lvq : Value) (q : PIn W P tv lvq S s2) => missing_walk q 0)
 clear h
 go_enter Tryz.func180, Tryz.ntmps180
 go_wp2_with (first
  | (go_at_call 122; refine (f2.out.callN (by repeat (first | exact Below.refl _ _ | apply bl_drew | apply bl_alloc)) (h3.out _ _)).mono ?_; rintro e w3 ⟨lv3, nk3, nt3, na3, ne3, nao3, ncap3, nks3, rfl, g⟩; have f3 := Lib.hid g; clear g; obtain ⟨z0, z1, z2, z3, z4, z5⟩ := f3.out.cells)
  | (go_at_call 44; refine (f1.out.callS (by repeat (first | exact Below.refl _ _ | apply bl_drew | apply bl_alloc)) (h2.out _ _)).mono ?_; rintro e w2 ⟨lv2, rfl, g⟩; have f2 := Lib.hid g; clear g)
  | (go_at_call 60; refine (f0.out.callB (by repeat (first | exact Below.refl _ _ | apply bl_drew | apply bl_alloc)) (h1.out _ _)).mono ?_; rintro e w1 ⟨rfl, g⟩; have f1 := Lib.hid g; clear g))
 refine bodyPost_ret (v := .agg #[.int .i64 nk3, .string nt3, .int .i64 na3, .int .i64 ne3, .slice nao3 nks3.length ncap3]) (by simp [results, Tryz.results180, go_sem, z0, z1, z2, z3, z4] <;> rfl) rfl ?_
 rw [hm.out]
 exact f3.out.pass (kept5 _ _ _ _ _ _ _)
theorem argument_walk {w : World} {P : Nat} {tv lv : Value} {S : Src} {s : Ps} (h : PIn w P tv lv S s) :
 Calls Tryz.prog 180 #[.pointer (some ⟨P, 0, none⟩)] w (NEnd w P tv lv S s (argument S.A s)) := by
 by_cases q1 : (tok S.A s).kind = 1
 ·skip
  exact argument_walk_1 h (Lib.hid q1)
 ·skip
  by_cases q2 : (tok S.A s).kind = 3
  ·skip
   exact argument_walk_2 h (Lib.hid q1) (Lib.hid q2)
  ·skip
   exact argument_walk_3 h (Lib.hid q1) (Lib.hid q2)
end Go.Proofs.YthggagophcnkfaaGreatDoor.px
namespace Go.Proofs.YthggagophcnkfaaGreatDoor.px
open Go.RowKit Go.Proofs.YthggagophcnkfaaGreatDoor.agg Go.Proofs.YthggagophcnkfaaGreatDoor.sx
set_option linter.unusedSimpArgs false
set_option linter.unusedVariables false
theorem enters_pcolumn : ∀ args w, (callFunc 120 args).run Tryz.prog w = .ok (.enter 120 args) w := fun _ _ => by kernel_rfl
theorem enters_pnamed : ∀ args w, (callFunc 126 args).run Tryz.prog w = .ok (.enter 126 args) w := fun _ _ => by kernel_rfl
theorem enters_pargument : ∀ args w, (callFunc 180 args).run Tryz.prog w = .ok (.enter 180 args) w := fun _ _ => by kernel_rfl
theorem fn_column (P : Nat) (tv : Value) (S : Src) : FnM P tv S 120 (column S.A) (S.L.length + 1) := ⟨enters_pcolumn, fun _ _ _ q _ => column_walk q⟩
theorem fn_named (P : Nat) (tv : Value) (S : Src) : FnM P tv S 126 (named S.A) (S.L.length + 1) := ⟨enters_pnamed, fun _ _ _ q _ => named_walk q⟩
theorem fn_argument (P : Nat) (tv : Value) (S : Src) : FnM P tv S 180 (argument S.A) (S.L.length + 1) := ⟨enters_pargument, fun _ _ _ q _ => argument_walk q⟩
set_option maxRecDepth 100000 in
set_option maxHeartbeats 2000000 in
theorem list1_walk {w : World} {P : Nat} {tv lv : Value} {S : Src} {s : Ps} (h : PIn w P tv lv S s) (kind : Int) (K : Nat) (f : M PT) (hf : FnM P tv S K f (S.L.length + 1)) :
 Calls Tryz.prog 71 #[.pointer (some ⟨P, 0, none⟩), .int .i64 kind, .func (.func K) #[.pointer (some ⟨P, 0, none⟩)] #[]] w (NEnd w P tv lv S s (list1 S.A kind f s)) := by
 have f0 := Lib.hid (FIn.start h)
 have cat := h.cell.2.2.1
 have hP := lt_of_block h.box
 have hm : Hid (list1 S.A kind f s = (node kind s.at_ (⟨#[]⟩) (elements S.A f s).1 (elements S.A f s).2, (elements S.A f s).2)) := rfl
 generalize list1 S.A kind f s = m at *
 have h1 := Lib.hid (fun (W : World) (lvq : Value) (q : PIn W P tv lvq S s) => elements_walk q K f (S.L.length + 1) hf (by omega))
 generalize elements S.A f s = k1 at *
 obtain ⟨l1, s1⟩ := k1
 clear h
 go_enter Tryz.func71, Tryz.ntmps71
 go_wp2_with (first
  | (go_at_call 63; refine (f1.out.callNode (by repeat (first | exact Below.refl _ _ | apply bl_drew | apply bl_alloc)) kind s.at_ (Nat.le_refl _) ⟨#[]⟩).mono ?_; rintro e w2 ⟨rfl, g⟩; have f2 := Lib.hid g; clear g; obtain ⟨z0, z1, z2, z3, z4, z5⟩ := f2.out.fin.cells)
  | (go_at_call 129; refine (f0.out.callE (by repeat (first | exact Below.refl _ _ | apply bl_drew | apply bl_alloc)) (h1.out _ _)).mono ?_; rintro e w1 ⟨lv1, ao1, n1, cap1, ks1, rfl, hks1, g⟩; have f1 := Lib.hid g; clear g))
 refine bodyPost_ret (v := .agg #[.int .i64 kind, .string ⟨#[]⟩, .int .i64 (S.at_ s.at_ s1.at_), .int .i64 (S.last s1.at_), .slice ao1 n1 cap1]) (by simp [results, Tryz.results71, go_sem, z0, z1, z2, z3, z4] <;> rfl) rfl ?_
 rw [hm.out]
 rw [← hks1]
 exact f2.out.end_ (kept5 _ _ _ _ _ _ _) kind s.at_ ⟨#[]⟩
set_option maxRecDepth 100000 in
set_option maxHeartbeats 2000000 in
theorem columns_walk {w : World} {P : Nat} {tv lv : Value} {S : Src} {s : Ps} (h : PIn w P tv lv S s) :
 Calls Tryz.prog 66 #[.pointer (some ⟨P, 0, none⟩)] w (NEnd w P tv lv S s (columns S.A s)) := by
 have f0 := Lib.hid (FIn.start h)
 have hP := lt_of_block h.box
 have hm : Hid (columns S.A s = ((list1 S.A 10 (column S.A) s).1, (list1 S.A 10 (column S.A) s).2)) := rfl
 generalize columns S.A s = m at *
 have h1 := Lib.hid (fun (W : World) (lvq : Value) (q : PIn W P tv lvq S s) => list1_walk q 10 120 _ (fn_column P tv S))
 generalize list1 S.A 10 (column S.A) s = k1 at *
 obtain ⟨kk1, s1⟩ := k1
 clear h
 go_enter Tryz.func66, Tryz.ntmps66
 go_wp2_with (first
  | (go_at_call 71; refine (f0.out.callN (by repeat (first | exact Below.refl _ _ | apply bl_drew | apply bl_alloc)) (h1.out _ _)).mono ?_; rintro e w1 ⟨lv1, nk1, nt1, na1, ne1, nao1, ncap1, nks1, rfl, g⟩; have f1 := Lib.hid g; clear g; obtain ⟨z0, z1, z2, z3, z4, z5⟩ := f1.out.cells))
 refine bodyPost_ret (v := .agg #[.int .i64 nk1, .string nt1, .int .i64 na1, .int .i64 ne1, .slice nao1 nks1.length ncap1]) (by simp [results, Tryz.results66, go_sem, z0, z1, z2, z3, z4] <;> rfl) rfl ?_
 rw [hm.out]
 exact f1.out.pass (kept5 _ _ _ _ _ _ _)
set_option maxRecDepth 100000 in
set_option maxHeartbeats 2000000 in
theorem names_walk {w : World} {P : Nat} {tv lv : Value} {S : Src} {s : Ps} (h : PIn w P tv lv S s) :
 Calls Tryz.prog 125 #[.pointer (some ⟨P, 0, none⟩)] w (NEnd w P tv lv S s (names S.A s)) := by
 have f0 := Lib.hid (FIn.start h)
 have hP := lt_of_block h.box
 have hm : Hid (names S.A s = ((list1 S.A 18 (named S.A) s).1, (list1 S.A 18 (named S.A) s).2)) := rfl
 generalize names S.A s = m at *
 have h1 := Lib.hid (fun (W : World) (lvq : Value) (q : PIn W P tv lvq S s) => list1_walk q 18 126 _ (fn_named P tv S))
 generalize list1 S.A 18 (named S.A) s = k1 at *
 obtain ⟨kk1, s1⟩ := k1
 clear h
 go_enter Tryz.func125, Tryz.ntmps125
 go_wp2_with (first
  | (go_at_call 71; refine (f0.out.callN (by repeat (first | exact Below.refl _ _ | apply bl_drew | apply bl_alloc)) (h1.out _ _)).mono ?_; rintro e w1 ⟨lv1, nk1, nt1, na1, ne1, nao1, ncap1, nks1, rfl, g⟩; have f1 := Lib.hid g; clear g; obtain ⟨z0, z1, z2, z3, z4, z5⟩ := f1.out.cells))
 refine bodyPost_ret (v := .agg #[.int .i64 nk1, .string nt1, .int .i64 na1, .int .i64 ne1, .slice nao1 nks1.length ncap1]) (by simp [results, Tryz.results125, go_sem, z0, z1, z2, z3, z4] <;> rfl) rfl ?_
 rw [hm.out]
 exact f1.out.pass (kept5 _ _ _ _ _ _ _)
set_option maxRecDepth 100000 in
set_option maxHeartbeats 2000000 in
theorem cell_walk {w : World} {P : Nat} {tv lv : Value} {S : Src} {s : Ps} (h : PIn w P tv lv S s) :
 Calls Tryz.prog 156 #[.pointer (some ⟨P, 0, none⟩)] w (NEnd w P tv lv S s (cell S.A s)) := by
 have f0 := Lib.hid (FIn.start h)
 have cat := h.cell.2.2.1
 have hP := lt_of_block h.box
 have hm : Hid (cell S.A s = (node 22 s.at_ ((name S.A s).1) (elements S.A (argument S.A) (name S.A s).2).1 (elements S.A (argument S.A) (name S.A s).2).2, (elements S.A (argument S.A) (name S.A s).2).2)) := rfl
 generalize cell S.A s = m at *
 have h1 := Lib.hid (fun (W : World) (lvq : Value) (q : PIn W P tv lvq S s) => name_walk q)
 generalize (name S.A s).1 = x1 at *
 generalize (name S.A s).2 = s1 at *
 have h2 := Lib.hid (fun (W : World) (lvq : Value) (q : PIn W P tv lvq S s1) => elements_walk q 180 _ (S.L.length + 1) (fn_argument P tv S) (by omega))
 generalize elements S.A (argument S.A) s1 = k2 at *
 obtain ⟨l2, s2⟩ := k2
 clear h
 go_enter Tryz.func156, Tryz.ntmps156
 go_wp2_with (first
  | (go_at_call 63; refine (f2.out.callNode (by repeat (first | exact Below.refl _ _ | apply bl_drew | apply bl_alloc)) 22 s.at_ (Nat.le_refl _) x1).mono ?_; rintro e w3 ⟨rfl, g⟩; have f3 := Lib.hid g; clear g; obtain ⟨z0, z1, z2, z3, z4, z5⟩ := f3.out.fin.cells)
  | (go_at_call 129; refine (f1.out.callE (by repeat (first | exact Below.refl _ _ | apply bl_drew | apply bl_alloc)) (h2.out _ _)).mono ?_; rintro e w2 ⟨lv2, ao2, n2, cap2, ks2, rfl, hks2, g⟩; have f2 := Lib.hid g; clear g)
  | (go_at_call 64; refine (f0.out.callS (by repeat (first | exact Below.refl _ _ | apply bl_drew | apply bl_alloc)) (h1.out _ _)).mono ?_; rintro e w1 ⟨lv1, rfl, g⟩; have f1 := Lib.hid g; clear g))
 refine bodyPost_ret (v := .agg #[.int .i64 22, .string x1, .int .i64 (S.at_ s.at_ s2.at_), .int .i64 (S.last s2.at_), .slice ao2 n2 cap2]) (by simp [results, Tryz.results156, go_sem, z0, z1, z2, z3, z4] <;> rfl) rfl ?_
 rw [hm.out]
 rw [← hks2]
 exact f3.out.end_ (kept5 _ _ _ _ _ _ _) 22 s.at_ x1
end Go.Proofs.YthggagophcnkfaaGreatDoor.px
