/- How a function of the reference's parser that gives a node goes on from call to call, and how it ends (printed by gen/genref.py). The walk of the reference parser's empty. The walks of the reference parser's leaf. The walk of the reference parser's integer. The walks of the reference parser's column, numbers and element. The walks of the reference parser's parameter. -/
import Derived.Test.YthggagophcnkfaaGreatDoorM20
import Derived.Test.YthggagophcnkfaaGreatDoorPNode
import Derived.Test.YthggagophcnkfaaGreatDoorM7
import Derived.Test.YthggagophcnkfaaGreatDoorTk
import Derived.Deep.RegionHeld3
namespace Go.Proofs.YthggagophcnkfaaGreatDoor.py
open Go.RowKit Go.Proofs.YthggagophcnkfaaGreatDoor.agg Go.Proofs.YthggagophcnkfaaGreatDoor.sx Go.Proofs.YthggagophcnkfaaGreatDoor.px
set_option linter.unusedSimpArgs false
set_option linter.unusedVariables false
structure FIn (w0 : World) (Z : Nat) (P : Nat) (tv lv0 : Value) (S : Src) (s0 : Ps) (w : World) (lv : Value) (s : Ps) (ks : Kds) (bs : Bxs) : Prop where
 pin : PIn w P tv lv S s
 kept : Kept (pfoot P lv0) w0 w
 fresh : Fresh w0 lv0 lv
 box : w.heap[Z]? = some zbox
 hZ : Z = w0.heap.size
 far : ¬ pfoot P lv Z
 mono : s0.at_ ≤ s.at_
 tlt : ∀ b, tokBlock tv = some b → b < Z
 kids : ∀ p ∈ ks, NodeIn (NGB Z P lv bs) w p.1 ∧ p.1.tr = S.tree p.2
 boxes : ∀ p ∈ bs, w.heap[p.1]? = some (.cells p.2.cells 25 (0, 0)) ∧ ¬ pfoot P lv p.1 ∧ Z < p.1
 dist : bs.Pairwise fun p q => p.1 < q.1
section
variable {w0 : World} {Z : Nat} {P : Nat} {tv lv0 : Value} {S : Src} {s0 : Ps} {w w' : World} {lv lv' : Value} {s s' : Ps} {ks : Kds} {bs : Bxs}
theorem FIn.start {w : World} (h : PIn w P tv lv S s) : FIn w w.heap.size P tv lv S s (w.alloc (.cells #[.int .i64 0, .string ⟨#[]⟩, .int .i64 0, .int .i64 0, .slice none 0 0] 25)) lv s [] [] :=
 ⟨h.below ((Below.refl _ w).alloc (Nat.le_refl _) _), .alloc _ _, fresh_same _ _, heap_alloc_new _ _, rfl, fun e => by have := h.lt _ e; omega, Nat.le_refl _, h.toks.lt, by simp, by simp, .nil⟩
theorem FIn.below (h : FIn w0 Z P tv lv0 S s0 w lv s ks bs) (hb : Below w.heap.size w w') : FIn w0 Z P tv lv0 S s0 w' lv s ks bs :=
 ⟨h.pin.below hb, h.kept.trans (.of_below hb), h.fresh, (hb.block Z (lt_of_block h.box)).trans h.box, h.hZ, h.far, h.mono, h.tlt, fun p hp => ⟨(h.kids p hp).1.later hb, (h.kids p hp).2⟩, fun p hp => ⟨(hb.block p.1 (lt_of_block (h.boxes p hp).1)).trans (h.boxes p hp).1, (h.boxes p hp).2⟩, h.dist⟩
theorem FIn.send (h : FIn w0 Z P tv lv0 S s0 w lv s ks bs) (hp : PIn w' P tv lv' S s') (hk : Kept (pfoot P lv) w w') (hf : Fresh w lv lv') (hm : s.at_ ≤ s'.at_) : FIn w0 Z P tv lv0 S s0 w' lv' s' ks bs :=
 ⟨hp, (step2 h.kept h.fresh hk hf).1, (step2 h.kept h.fresh hk hf).2, (hk.block Z (lt_of_block h.box) h.far).trans h.box, h.hZ, pfoot_fresh hf (lt_of_block h.box) h.far, Nat.le_trans h.mono hm, h.tlt, fun p hq => ⟨(h.kids p hq).1.same (fun b hb hn => hk.block b hb hn.2.1) hk.size (fun b hb hn => ⟨hn.1, pfoot_fresh hf hb hn.2.1, hn.2.2⟩), (h.kids p hq).2⟩, fun p hp => ⟨(hk.block p.1 (lt_of_block (h.boxes p hp).1) (h.boxes p hp).2.1).trans (h.boxes p hp).1, pfoot_fresh hf (lt_of_block (h.boxes p hp).1) (h.boxes p hp).2.1, (h.boxes p hp).2.2⟩, h.dist⟩
theorem FIn.zlt (h : FIn w0 Z P tv lv0 S s0 w lv s ks bs) : Z < w.heap.size := lt_of_block h.box
theorem FIn.nsend (h : FIn w0 Z P tv lv0 S s0 w lv s ks bs) {n : Nd} {t : PT} (ht : n.tr = S.tree t) (hn : NodeIn (fun b => w.heap.size ≤ b ∧ ¬ pfoot P lv' b) w' n) (hp : PIn w' P tv lv' S s') (hk : Kept (pfoot P lv) w w') (hf : Fresh w lv lv') (hm : s.at_ ≤ s'.at_) : FIn w0 Z P tv lv0 S s0 w' lv' s' (ks ++ [(n, t)]) bs :=
 have f := h.send hp hk hf hm
 ⟨f.pin, f.kept, f.fresh, f.box, f.hZ, f.far, f.mono, f.tlt, fun p hq => by
  rcases List.mem_append.1 hq with hq | hq
  ·exact f.kids p hq
  ·rw [List.mem_singleton.1 hq]
   exact ⟨hn.mono (fun b _ hq => ⟨Nat.lt_of_lt_of_le h.zlt hq.1, hq.2, fun q hq2 e => by have := lt_of_block (h.boxes q hq2).1; have := hq.1; omega⟩), ht⟩, f.boxes, f.dist⟩
theorem FIn.box1 {k : Int} {t : ByteArray} {a e : Int} {v : Value} (h : FIn w0 Z P tv lv0 S s0 w lv s ks bs) (nks : List Nd) {b : Nat} (hb : b = w.heap.size) : FIn w0 Z P tv lv0 S s0 (w.alloc (.cells #[.int .i64 k, .string t, .int .i64 a, .int .i64 e, v] 25)) lv s ks (bs ++ [(b, Nd.mk k t a e v nks)]) := by
 subst hb
 have f := h.below ((Below.refl _ w).alloc (Nat.le_refl _) (.cells #[.int .i64 k, .string t, .int .i64 a, .int .i64 e, v] 25))
 refine ⟨f.pin, f.kept, f.fresh, f.box, f.hZ, f.far, f.mono, f.tlt, fun p hp => ⟨((h.kids p hp).1.mono (H := NGB Z P lv (bs ++ [(w.heap.size, Nd.mk k t a e v nks)])) (fun b hb hq => ⟨hq.1, hq.2.1, fun q hq2 => ?_⟩)).later ((Below.refl _ w).alloc (Nat.le_refl _) _), (h.kids p hp).2⟩, fun p hp => ?_, List.pairwise_append.2 ⟨h.dist, List.pairwise_singleton _ _, fun p hp q hq => by rw [List.mem_singleton.1 hq]; exact lt_of_block (h.boxes p hp).1⟩⟩
 ·rcases List.mem_append.1 hq2 with hq2 | hq2
  ·exact hq.2.2 q hq2
  ·rw [List.mem_singleton.1 hq2]
   simp only
   omega
 rcases List.mem_append.1 hp with hp | hp
 ·exact f.boxes p hp
 ·rw [List.mem_singleton.1 hp]
  exact ⟨heap_alloc_new _ _, fun e2 => by have := h.pin.lt _ e2; omega, h.zlt⟩
theorem FIn.bx {k : Int} {t : ByteArray} {a e : Int} {v : Value} {nks : List Nd} {b : Nat} (h : FIn w0 Z P tv lv0 S s0 w lv s ks bs) (i : Nat) (hi : bs[i]? = some (b, Nd.mk k t a e v nks)) :
 w.cell? ⟨b, 0, none⟩ = some (.int .i64 k) ∧ w.cell? ⟨b, 1, none⟩ = some (.string t) ∧ w.cell? ⟨b, 2, none⟩ = some (.int .i64 a) ∧ w.cell? ⟨b, 3, none⟩ = some (.int .i64 e) ∧ w.cell? ⟨b, 4, none⟩ = some v ∧ b < w.heap.size ∧ ∀ i, w.frozen? ⟨b, i, none⟩ = false := by
 have hb := (h.boxes _ (List.mem_of_getElem? hi)).1
 refine ⟨?_, ?_, ?_, ?_, ?_, lt_of_block hb, fun i => ?_⟩ <;> simp [World.cell?, World.frozen?, hb, Nd.cells, Nd.kind, Nd.text, Nd.fr, Nd.to, Nd.kv]
theorem FIn.over {k k' : Int} {t t' : ByteArray} {a e a' e' : Int} {v v' : Value} {nks nks' : List Nd} {b : Nat} (h : FIn w0 Z P tv lv0 S s0 w lv s ks (bs ++ [(b, Nd.mk k t a e v nks)])) (j : Nat) :
 FIn w0 Z P tv lv0 S s0 (((((w.setCell ⟨b, 0, none⟩ (.int .i64 k')).setCell ⟨b, 1, none⟩ (.string t')).setCell ⟨b, 2, none⟩ (.int .i64 a')).setCell ⟨b, 3, none⟩ (.int .i64 e')).setCell ⟨b, 4, none⟩ v') lv s (ks.eraseIdx j) (bs ++ [(b, Nd.mk k' t' a' e' v' nks')]) := by
 have hb := h.boxes _ (List.mem_append_right _ (List.mem_singleton.2 rfl))
 obtain ⟨b1, b2, b3⟩ := hb
 have hpw := List.pairwise_append.1 h.dist
 have hd : ∀ p ∈ bs, p.1 ≠ b := fun p hp e => by have := hpw.2.2 p hp _ (List.mem_singleton.2 rfl); simp only at this; omega
 have hks : ∀ p ∈ ks.eraseIdx j, p ∈ ks := fun p hp => List.mem_of_mem_eraseIdx hp
 have hK : Kept (fun i => i = b) w (((((w.setCell ⟨b, 0, none⟩ (.int .i64 k')).setCell ⟨b, 1, none⟩ (.string t')).setCell ⟨b, 2, none⟩ (.int .i64 a')).setCell ⟨b, 3, none⟩ (.int .i64 e')).setCell ⟨b, 4, none⟩ v') :=
  ((((Kept.setCell (F := fun i => i = b) w (a := ⟨b, 0, none⟩) rfl _).trans (Kept.setCell (F := fun i => i = b) _ (a := ⟨b, 1, none⟩) rfl _)).trans (Kept.setCell (F := fun i => i = b) _ (a := ⟨b, 2, none⟩) rfl _)).trans (Kept.setCell (F := fun i => i = b) _ (a := ⟨b, 3, none⟩) rfl _)).trans (Kept.setCell (F := fun i => i = b) _ (a := ⟨b, 4, none⟩) rfl _)
 have hT : tokBlock tv ≠ some b := fun e2 => by have := h.tlt b e2; omega
 have hZ := h.hZ
 refine ⟨h.pin.same hK (fun i hi => by rw [hi]; exact ⟨b2, hT⟩), h.kept.trans' hK (fun i hi e2 => by omega), h.fresh, (hK.block Z (lt_of_block h.box) (by omega)).trans h.box, h.hZ, h.far, h.mono, h.tlt, fun p hp => ?_, fun p hp => ?_, List.pairwise_append.2 ⟨hpw.1, List.pairwise_singleton _ _, fun p hp q hq => by rw [List.mem_singleton.1 hq]; exact hpw.2.2 p hp (b, Nd.mk k t a e v nks) (List.mem_singleton.2 rfl)⟩⟩
 ·have h1 := h.kids p (hks p hp)
  refine ⟨h1.1.same (fun i hi hq => hK.block i hi (fun e2 => hq.2.2 (b, Nd.mk k t a e v nks) (List.mem_append_right _ (List.mem_singleton.2 rfl)) e2.symm)) hK.size (fun i hi hq => ⟨hq.1, hq.2.1, fun q hq2 => ?_⟩), h1.2⟩
  rcases List.mem_append.1 hq2 with hq2 | hq2
  ·exact hq.2.2 q (List.mem_append_left _ hq2)
  ·rw [List.mem_singleton.1 hq2]
   exact hq.2.2 (b, Nd.mk k t a e v nks) (List.mem_append_right _ (List.mem_singleton.2 rfl))
 ·rcases List.mem_append.1 hp with hp | hp
  ·have h1 := h.boxes p (List.mem_append_left _ hp)
   exact ⟨(hK.block p.1 (lt_of_block h1.1) (hd p hp)).trans h1.1, h1.2⟩
  ·rw [List.mem_singleton.1 hp]
   refine ⟨?_, b2, b3⟩
   rw [heap_setCell_same _ _ _ _ _ _ (heap_setCell_same _ _ _ _ _ _ (heap_setCell_same _ _ _ _ _ _ (heap_setCell_same _ _ _ _ _ _ (heap_setCell_same _ _ _ _ _ _ b1))))]
   exact rfl
theorem FIn.cells (h : FIn w0 Z P tv lv0 S s0 w lv s ks bs) :
 w.cell? ⟨Z, 0, none⟩ = some (.int .i64 0) ∧ w.cell? ⟨Z, 1, none⟩ = some (.string ⟨#[]⟩) ∧ w.cell? ⟨Z, 2, none⟩ = some (.int .i64 0) ∧ w.cell? ⟨Z, 3, none⟩ = some (.int .i64 0) ∧ w.cell? ⟨Z, 4, none⟩ = some (.slice none 0 0) ∧ ∀ i, w.frozen? ⟨Z, i, none⟩ = false := by
 have hb := h.box
 refine ⟨?_, ?_, ?_, ?_, ?_, fun i => ?_⟩ <;> simp [World.cell?, World.frozen?, hb, zbox]
theorem FIn.done (h : FIn w0 Z P tv lv0 S s0 w lv s ks bs) (hk : Kept (fun b => b = Z) w w') (n : Nd) (t : PT) (ht : n.tr = S.tree t) (hn : NodeIn (NG Z P lv) w n) (v : Value) (hv : v = .agg n.cells) :
 NEnd w0 P tv lv0 S s0 (t, s) (.returned v) w' := by
 have hZ := h.hZ
 have hlt := h.zlt
 have hT : ∀ b, tokBlock tv = some b → b ≠ Z := fun b hb e => by have := h.tlt b hb; omega
 obtain ⟨k, te, a, e, kv, kk⟩ := n
 obtain ⟨⟨ao, cap, hkv, _⟩, _⟩ := hn.at_
 have hkv' : kv = .slice ao kk.length cap := hkv
 subst hkv'
 refine ⟨lv, k, te, a, e, ao, cap, kk, by rw [hv]; rfl, ht, ?_, h.pin.same hk (fun b hb => ⟨fun e => h.far (hb ▸ e), fun e => hT b e hb⟩), h.kept.trans' hk (fun i hi e => by omega), h.fresh, h.mono⟩
 exact hn.same (fun b hb hg => hk.block b hb (fun e => by have := hg.1; omega)) hk.size (fun b hb hg => ⟨by have := hg.1; omega, hg.2⟩)
end
structure FRow (w0 : World) (Z : Nat) (P : Nat) (tv lv0 : Value) (S : Src) (s0 : Ps) (w : World) (lv : Value) (s : Ps) (ks : Kds) (bs : Bxs) (ao : Option Addr) (n cap : Nat) : Prop where
 fin : FIn w0 Z P tv lv0 S s0 w lv s ks bs
 len : n = ks.length
 kv : KidsAt (NGB Z P lv bs) w (.slice ao n cap) (ks.map Prod.fst)
section
variable {w0 : World} {Z : Nat} {P : Nat} {tv lv0 : Value} {S : Src} {s0 : Ps} {w w' : World} {lv lv' : Value} {s s' : Ps} {ks : Kds} {bs : Bxs}
theorem FRow.below {ao : Option Addr} {n cap : Nat} (h : FRow w0 Z P tv lv0 S s0 w lv s ks bs ao n cap) (hb : Below w.heap.size w w') : FRow w0 Z P tv lv0 S s0 w' lv s ks bs ao n cap :=
 ⟨h.fin.below hb, h.len, h.kv.same (fun b hb' _ => hb.block b hb') hb.size (fun _ _ g => g)⟩
theorem FIn.callNode (h : FIn w0 Z P tv lv0 S s0 w lv s ks bs) {W0 : World} (hb : Below w.heap.size w W0) (kind : Int) (first : Nat) (hf : first ≤ s0.at_) (text : ByteArray) {cs : Array Value} (hc : cs = ((ks.map Prod.fst).flatMap fun n => n.cells.toList).toArray) {a n : Nat} (ha : a = W0.heap.size) (hn : n = ks.length) (hl : n ≤ 140737488355328) :
 Calls Tryz.prog 38 #[.pointer (some ⟨P, 0, none⟩), .int .i64 kind, .string text, .int .i64 first, .int .i64 (S.last first), .slice (some ⟨a, 0, none⟩) n n] (W0.alloc (.cells cs 25)) fun e w' => e = .returned (.agg #[.int .i64 kind, .string text, .int .i64 (S.at_ first s.at_), .int .i64 (S.last s.at_), .slice (some ⟨a, 0, none⟩) n n]) ∧ FRow w0 Z P tv lv0 S s0 w' lv s ks bs (some ⟨a, 0, none⟩) n n := by
 have h0 := h.below hb
 have h1 := h0.below ((Below.refl _ W0).alloc (Nat.le_refl _) (.cells cs 25))
 refine (node_walk h1.pin kind first text (some ⟨a, 0, none⟩) n n (Nat.le_trans hf h1.mono)).mono fun e w' hw => ⟨hw.1, ?_⟩
 refine FRow.below ⟨h1, hn, ?_⟩ hw.2
 subst ha
 refine kids_new W0 (ks.map Prod.fst) n (by simpa using hn) hl ⟨h0.zlt, fun e => ?_, fun p hp e => ?_⟩ cs hc
 ·have := h0.pin.lt _ e
  omega
 ·have := lt_of_block (h0.boxes p hp).1
  omega
theorem FRow.kid {ao : Option Addr} {n cap : Nat} (h : FRow w0 Z P tv lv0 S s0 w lv s ks bs ao n cap) (kind : Int) (first : Nat) (text : ByteArray) : FIn w0 Z P tv lv0 S s0 w lv s [(Nd.mk kind text (S.at_ first s.at_) (S.last s.at_) (.slice ao n cap) (ks.map Prod.fst), node kind first text (ks.map Prod.snd) s)] bs := by
 have f := h.fin
 refine ⟨f.pin, f.kept, f.fresh, f.box, f.hZ, f.far, f.mono, f.tlt, fun p hp => ?_, f.boxes, f.dist⟩
 rw [List.mem_singleton.1 hp]
 refine ⟨.mk h.kv fun n hn => ?_, ?_⟩
 ·obtain ⟨p, hp, rfl⟩ := List.mem_map.1 hn
  exact (h.fin.kids p hp).1
 ·simp only
  rw [node, Src.tree, Nd.tr, trs_map, Src.trees_map, List.map_map, List.map_map]
  congr 1
  refine List.map_congr_left fun p hp => ?_
  exact (h.fin.kids p hp).2
theorem FIn.forget {x : Nat × Nd} (h : FIn w0 Z P tv lv0 S s0 w lv s ks (bs ++ [x])) : FIn w0 Z P tv lv0 S s0 w lv s ks bs :=
 ⟨h.pin, h.kept, h.fresh, h.box, h.hZ, h.far, h.mono, h.tlt, fun p hp => ⟨(h.kids p hp).1.mono (fun b _ hq => ⟨hq.1, hq.2.1, fun q hq2 => hq.2.2 q (List.mem_append_left _ hq2)⟩), (h.kids p hp).2⟩, fun p hp => h.boxes p (List.mem_append_left _ hp), (List.pairwise_append.1 h.dist).1⟩
theorem FIn.callLeaf (h : FIn w0 Z P tv lv0 S s0 w lv s [] bs) {W : World} (hb : Below w.heap.size w W) (kind : Int) (first : Nat) (hf : first ≤ s0.at_) (text : ByteArray) :
 Calls Tryz.prog 38 #[.pointer (some ⟨P, 0, none⟩), .int .i64 kind, .string text, .int .i64 first, .int .i64 (S.last first), .slice none 0 0] W fun e w' => e = .returned (.agg #[.int .i64 kind, .string text, .int .i64 (S.at_ first s.at_), .int .i64 (S.last s.at_), .slice none 0 0]) ∧ FRow w0 Z P tv lv0 S s0 w' lv s [] bs none 0 0 := by
 have h0 := h.below hb
 refine (node_walk h0.pin kind first text none 0 0 (Nat.le_trans hf h0.mono)).mono fun e w' hw => ⟨hw.1, ?_⟩
 exact FRow.below ⟨h0, rfl, kids_none W⟩ hw.2
theorem FRow.end_ {ao : Option Addr} {n cap : Nat} (h : FRow w0 Z P tv lv0 S s0 w lv s ks bs ao n cap) (hk : Kept (fun b => b = Z) w w') (kind : Int) (first : Nat) (text : ByteArray) :
 NEnd w0 P tv lv0 S s0 (node kind first text (ks.map Prod.snd) s, s) (.returned (.agg #[.int .i64 kind, .string text, .int .i64 (S.at_ first s.at_), .int .i64 (S.last s.at_), .slice ao n cap])) w' := by
 refine h.fin.done hk (.mk kind text (S.at_ first s.at_) (S.last s.at_) (.slice ao n cap) (ks.map Prod.fst)) _ ?_ (.mk (h.kv.same (fun _ _ _ => rfl) (Nat.le_refl _) (fun b _ hq => ⟨hq.1, hq.2.1⟩)) fun n hn => ?_) _ rfl
 ·rw [node, Src.tree, Nd.tr, trs_map, Src.trees_map, List.map_map, List.map_map]
  congr 1
  refine List.map_congr_left fun p hp => ?_
  exact (h.fin.kids p hp).2
 ·obtain ⟨p, hp, rfl⟩ := List.mem_map.1 hn
  exact (h.fin.kids p hp).1.mono (fun b _ hq => ⟨hq.1, hq.2.1⟩)
theorem FIn.pass {nk : Int} {nt : ByteArray} {na ne : Int} {nao : Option Addr} {ncap : Nat} {nks : List Nd} {t : PT} (h : FIn w0 Z P tv lv0 S s0 w lv s (ks ++ [(Nd.mk nk nt na ne (.slice nao nks.length ncap) nks, t)]) bs) (hk : Kept (fun b => b = Z) w w') :
 NEnd w0 P tv lv0 S s0 (t, s) (.returned (.agg #[.int .i64 nk, .string nt, .int .i64 na, .int .i64 ne, .slice nao nks.length ncap])) w' :=
 h.done hk _ t (h.kids _ (List.mem_append_right _ (List.mem_singleton.2 rfl))).2 ((h.kids _ (List.mem_append_right _ (List.mem_singleton.2 rfl))).1.mono (fun b _ hq => ⟨hq.1, hq.2.1⟩)) _ rfl
end
theorem is_at {W : World} {P : Nat} {tv lv : Value} {S : Src} {s : Ps} (h : PIn W P tv lv S s) (ws : List ByteArray) (b : Bool) (hi : isB S.A ws s = b) {n : Nat} (hn : n = ws.length) (hl : n < 1000) {a : Nat} (ha : a = W.heap.size) {cs : Array Value} (hc : cs = (ws.map Value.string).toArray) :
 Calls Tryz.prog 33 #[.pointer (some ⟨P, 0, none⟩), .slice (some ⟨a, 0, none⟩) n n] (W.alloc (.cells cs 9)) fun e w' => e = .returned (.bool b) ∧ Below W.heap.size W w' := by
 subst ha hc hi
 exact is_new h (Below.refl _ W) ws n hn hl
theorem opt_yes {w : World} {P : Nat} {tv lv : Value} {S : Src} {s : Ps} (h : PIn w P tv lv S s) (a : ByteArray) (hi : isB S.A [a] s = true) :
 Calls Tryz.prog 96 #[.pointer (some ⟨P, 0, none⟩), .string a] w (SEnd w P tv lv S s (.bool true) (next S.A s).2) := by
 have h1 := optional_walk h a
 unfold px.optional at h1
 rw [if_pos hi] at h1
 exact h1
theorem opt_no {w : World} {P : Nat} {tv lv : Value} {S : Src} {s : Ps} (h : PIn w P tv lv S s) (a : ByteArray) (hi : isB S.A [a] s = false) :
 Calls Tryz.prog 96 #[.pointer (some ⟨P, 0, none⟩), .string a] w (SEnd w P tv lv S s (.bool false) s) := by
 have h1 := optional_walk h a
 unfold px.optional at h1
 rw [if_neg (by rw [hi]; simp)] at h1
 exact h1
section
variable {w0 : World} {Z : Nat} {P : Nat} {tv lv0 : Value} {S : Src} {s0 : Ps} {w w' : World} {lv lv' : Value} {s s' : Ps} {ks : Kds} {bs : Bxs} {W : World}
theorem FIn.callS {f : Nat} {args : Array Value} {v : Value} (h : FIn w0 Z P tv lv0 S s0 w lv s ks bs) (hb : Below w.heap.size w W) (c : PIn W P tv lv S s → Calls Tryz.prog f args W (SEnd W P tv lv S s v s')) :
 Calls Tryz.prog f args W fun e w' => ∃ lv', e = .returned v ∧ FIn w0 Z P tv lv0 S s0 w' lv' s' ks bs :=
 have g := h.below hb
 (c g.pin).mono fun _ _ ⟨lv', h1, h2, h3, h4, h5⟩ => ⟨lv', h1, g.send h2 h3 h4 h5⟩
theorem FIn.callN {f : Nat} {args : Array Value} {r : PT × Ps} (h : FIn w0 Z P tv lv0 S s0 w lv s ks bs) (hb : Below w.heap.size w W) (c : PIn W P tv lv S s → Calls Tryz.prog f args W (NEnd W P tv lv S s r)) :
 Calls Tryz.prog f args W fun e w' => ∃ lv' nk nt na ne nao ncap nks, e = .returned (.agg #[.int .i64 nk, .string nt, .int .i64 na, .int .i64 ne, .slice nao nks.length ncap]) ∧ FIn w0 Z P tv lv0 S s0 w' lv' r.2 (ks ++ [(Nd.mk nk nt na ne (.slice nao nks.length ncap) nks, r.1)]) bs :=
 have g := h.below hb
 (c g.pin).mono fun _ _ ⟨lv', nk, nt, na, ne, nao, ncap, nks, h1, t1, t2, t3, t4, t5, t6⟩ => ⟨lv', nk, nt, na, ne, nao, ncap, nks, h1, g.nsend t1 t2 t3 t4 t5 t6⟩
theorem FIn.callB {f : Nat} {args : Array Value} {v : Value} (h : FIn w0 Z P tv lv0 S s0 w lv s ks bs) (hb : Below w.heap.size w W) (c : PIn W P tv lv S s → Calls Tryz.prog f args W fun e w' => e = .returned v ∧ Below W.heap.size W w') :
 Calls Tryz.prog f args W fun e w' => e = .returned v ∧ FIn w0 Z P tv lv0 S s0 w' lv s ks bs :=
 have g := h.below hb
 (c g.pin).mono fun _ _ ⟨h1, h2⟩ => ⟨h1, g.below h2⟩
theorem FIn.callIs (h : FIn w0 Z P tv lv0 S s0 w lv s ks bs) (hb : Below w.heap.size w W) (ws : List ByteArray) (b : Bool) (hi : isB S.A ws s = b) {n : Nat} (hn : n = ws.length) (hl : n < 1000) {a : Nat} (ha : a = W.heap.size) {cs : Array Value} (hc : cs = (ws.map Value.string).toArray) :
 Calls Tryz.prog 33 #[.pointer (some ⟨P, 0, none⟩), .slice (some ⟨a, 0, none⟩) n n] (W.alloc (.cells cs 9)) fun e w' => e = .returned (.bool b) ∧ FIn w0 Z P tv lv0 S s0 w' lv s ks bs :=
 have g := h.below hb
 (is_at g.pin ws b hi hn hl ha hc).mono fun _ _ ⟨h1, h2⟩ => ⟨h1, g.below h2⟩
end
structure EIn (w0 : World) (Zo : Option Nat) (B : Nat) (P : Nat) (tv lv0 : Value) (S : Src) (s0 : Ps) (w : World) (lv : Value) (s : Ps) (kv : Value) (ks : Kds) : Prop where
 pin : PIn w P tv lv S s
 kept : Kept (pfoot P lv0) w0 w
 fresh : Fresh w0 lv0 lv
 mono : s0.at_ ≤ s.at_
 bw : w0.heap.size ≤ B
 bb : B ≤ w.heap.size
 tlt : ∀ b, tokBlock tv = some b → b < w0.heap.size
 box : ∀ Z, Zo = some Z → w.heap[Z]? = some zbox ∧ ¬ pfoot P lv Z ∧ Z < B ∧ Z = w0.heap.size
 kr : KRow B P S w lv kv ks
 cnt : ks.length ≤ s.at_ + 4
section
variable {w0 : World} {Zo : Option Nat} {Z B : Nat} {P : Nat} {tv lv0 : Value} {S : Src} {s0 : Ps} {w w' : World} {lv lv' : Value} {s s' : Ps} {kv : Value} {ks : Kds} {W : World}
theorem EIn.send (h : EIn w0 Zo B P tv lv0 S s0 w lv s kv ks) (hp : PIn w' P tv lv' S s') (hk : Kept (pfoot P lv) w w') (hf : Fresh w lv lv') (hm : s.at_ ≤ s'.at_) : EIn w0 Zo B P tv lv0 S s0 w' lv' s' kv ks :=
 ⟨hp, (step2 h.kept h.fresh hk hf).1, (step2 h.kept h.fresh hk hf).2, Nat.le_trans h.mono hm, h.bw, Nat.le_trans h.bb hk.size, h.tlt, fun Z hZ => by
  obtain ⟨h1, h2, h3, h4⟩ := h.box Z hZ
  exact ⟨(hk.block Z (lt_of_block h1) h2).trans h1, pfoot_fresh hf (lt_of_block h1) h2, h3, h4⟩, h.kr.send hk hf, by have := h.cnt; omega⟩
theorem EIn.below (h : EIn w0 Zo B P tv lv0 S s0 w lv s kv ks) (hb : Below w.heap.size w w') : EIn w0 Zo B P tv lv0 S s0 w' lv s kv ks :=
 h.send (h.pin.below hb) (.of_below hb) (fresh_same _ _) (Nat.le_refl _)
theorem EIn.callS {f : Nat} {args : Array Value} {v : Value} (h : EIn w0 Zo B P tv lv0 S s0 w lv s kv ks) (hb : Below w.heap.size w W) (c : PIn W P tv lv S s → Calls Tryz.prog f args W (SEnd W P tv lv S s v s')) :
 Calls Tryz.prog f args W fun e w' => ∃ lv', e = .returned v ∧ EIn w0 Zo B P tv lv0 S s0 w' lv' s' kv ks :=
 have g := h.below hb
 (c g.pin).mono fun _ _ ⟨lv', h1, h2, h3, h4, h5⟩ => ⟨lv', h1, g.send h2 h3 h4 h5⟩
theorem EIn.callIs (h : EIn w0 Zo B P tv lv0 S s0 w lv s kv ks) (hb : Below w.heap.size w W) (ws : List ByteArray) (b : Bool) (hi : isB S.A ws s = b) {n : Nat} (hn : n = ws.length) (hl : n < 1000) {a : Nat} (ha : a = W.heap.size) {cs : Array Value} (hc : cs = (ws.map Value.string).toArray) :
 Calls Tryz.prog 33 #[.pointer (some ⟨P, 0, none⟩), .slice (some ⟨a, 0, none⟩) n n] (W.alloc (.cells cs 9)) fun e w' => e = .returned (.bool b) ∧ EIn w0 Zo B P tv lv0 S s0 w' lv s kv ks :=
 have g := h.below hb
 (is_at g.pin ws b hi hn hl ha hc).mono fun _ _ ⟨h1, h2⟩ => ⟨h1, g.below h2⟩
structure EPend (w0 : World) (Zo : Option Nat) (B : Nat) (P : Nat) (tv lv0 : Value) (S : Src) (s0 : Ps) (w : World) (lv : Value) (s : Ps) (kv : Value) (ks : Kds) (n : Nd) (t : PT) : Prop where
 ein : EIn w0 Zo B P tv lv0 S s0 w lv s kv ks
 pend : NodeIn (fun b => B ≤ b ∧ ¬ pfoot P lv b ∧ kv.ownBlock ≠ some b) w n ∧ n.tr = S.tree t
theorem EIn.callN {f : Nat} {args : Array Value} {r : PT × Ps} (h : EIn w0 Zo B P tv lv0 S s0 w lv s kv ks) (hb : Below w.heap.size w W) (c : PIn W P tv lv S s → Calls Tryz.prog f args W (NEnd W P tv lv S s r)) :
 Calls Tryz.prog f args W fun e w' => ∃ lv' nk nt na ne nao ncap nks, e = .returned (.agg #[.int .i64 nk, .string nt, .int .i64 na, .int .i64 ne, .slice nao nks.length ncap]) ∧ EPend w0 Zo B P tv lv0 S s0 w' lv' r.2 kv ks (Nd.mk nk nt na ne (.slice nao nks.length ncap) nks) r.1 ∧ s.at_ ≤ r.2.at_ :=
 have g := h.below hb
 (c g.pin).mono fun _ _ ⟨lv', nk, nt, na, ne, nao, ncap, nks, h1, t1, t2, t3, t4, t5, t6⟩ => ⟨lv', nk, nt, na, ne, nao, ncap, nks, h1, ⟨g.send t3 t4 t5 t6, t2.mono (fun b _ hn => ⟨Nat.le_trans g.bb hn.1, hn.2, fun e => by have := (g.kr.lt b e).2; omega⟩), t1⟩, t6⟩
theorem EPend.below {n : Nd} {t : PT} (h : EPend w0 Zo B P tv lv0 S s0 w lv s kv ks n t) (hb : Below w.heap.size w w') : EPend w0 Zo B P tv lv0 S s0 w' lv s kv ks n t :=
 ⟨h.ein.below hb, h.pend.1.later hb, h.pend.2⟩
theorem EPend.app {n : Nd} {t : PT} (h : EPend w0 Zo B P tv lv0 S s0 w lv s kv ks n t) {W0 : World} (hb : Below w.heap.size w W0) {g cap : Nat} (hgrow : W0.grownBy w' kv.ownBlock) (hown : w'.ownsRow B 25 5 (.slice (some ⟨g, 0, none⟩) (ks.length + 1) cap) (ks.length + 1) (((ks.map Prod.fst).flatMap fun n => n.cells.toList) ++ n.cells.toList)) (hnew : kv.ownBlock = some g ∨ g = W0.heap.size) (hc : ks.length ≤ s.at_ + 3) :
 EIn w0 Zo B P tv lv0 S s0 w' lv s (.slice (some ⟨g, 0, none⟩) (ks.length + 1) cap) (ks ++ [(n, t)]) := by
 have h1 := h.below hb
 have e1 := h1.ein
 have hK : Kept (fun b => kv.ownBlock = some b) W0 w' := Kept.grown hgrow (fun k hk => hk)
 have hz := hb.size
 have hpf : ∀ b, b < W0.heap.size → ¬ pfoot P lv b → ¬ pfoot P lv b := fun _ _ h => h
 have hg : ¬ pfoot P lv g := by
  rcases hnew with e | e
  ·exact e1.kr.apart g e
  ·exact fun e2 => by have := e1.pin.lt g e2; omega
 have hne : ∀ {n : Nd}, NodeIn (fun b => B ≤ b ∧ ¬ pfoot P lv b ∧ kv.ownBlock ≠ some b) W0 n → NodeIn (fun b => B ≤ b ∧ ¬ pfoot P lv b ∧ (Value.slice (some ⟨g, 0, none⟩) (ks.length + 1) cap).ownBlock ≠ some b) w' n := fun {n} hn =>
  hn.same (fun b hb' hq => hK.block b hb' hq.2.2) hK.size (fun b hb' hq => ⟨hq.1, hq.2.1, fun e => by
   have e2 : g = b := by simpa [Value.ownBlock] using e
   rcases hnew with e3 | e3
   ·exact hq.2.2 (e2 ▸ e3)
   ·omega⟩)
 refine ⟨e1.pin.same hK (fun b hb' => ⟨e1.kr.apart b hb', fun e => by have := e1.tlt b e; have := (e1.kr.lt b hb').1; have := e1.bw; omega⟩), e1.kept.trans' hK (fun i hi e => by have := (e1.kr.lt i e).1; have := e1.bw; omega), e1.fresh, e1.mono, e1.bw, Nat.le_trans e1.bb hK.size, e1.tlt, fun Z hZ => ?_, ⟨?_, fun b hb' => ?_, fun p hp => ?_⟩, by simp; omega⟩
 ·obtain ⟨b1, b2, b3, b4⟩ := e1.box Z hZ
  exact ⟨(hK.block Z (lt_of_block b1) (fun e => by have := (e1.kr.lt Z e).1; omega)).trans b1, b2, b3, b4⟩
 ·simp only [List.map_append, List.flatMap_append, List.length_append, List.map_cons, List.map_nil, List.flatMap_cons, List.flatMap_nil, List.append_nil, List.length_cons, List.length_nil, Nat.zero_add]
  exact hown
 ·have e2 : g = b := by simpa [Value.ownBlock] using hb'
  exact e2 ▸ hg
 ·rcases List.mem_append.1 hp with hp | hp
  ·exact ⟨hne (e1.kr.kids p hp).1, (e1.kr.kids p hp).2⟩
  ·rw [List.mem_singleton.1 hp]
   exact ⟨hne h1.pend.1, h1.pend.2⟩
theorem FIn.collect (h : FIn w0 Z P tv lv0 S s0 w lv s [] []) (hB : B = Z + 1) : EIn w0 (some Z) B P tv lv0 S s0 w lv s (.slice none 0 0) [] := by
 subst hB
 have hZ := h.hZ
 exact ⟨h.pin, h.kept, h.fresh, h.mono, by omega, h.zlt, fun b hb => by have := h.tlt b hb; omega, fun Z' e => by
  have e2 : Z = Z' := by simpa using e
  subst e2
  exact ⟨h.box, h.far, by omega, hZ⟩, ⟨World.ownsRow_nil w _ _ 5, by simp [Value.ownBlock], by simp⟩, by simp⟩
theorem EIn.toRow {ao : Option Addr} {n cap : Nat} (h : EIn w0 (some Z) B P tv lv0 S s0 w lv s (.slice ao n cap) ks) (hn : n = ks.length) : FRow w0 Z P tv lv0 S s0 w lv s ks [] ao n cap := by
 obtain ⟨b1, b2, b3, b4⟩ := h.box Z rfl
 have hlt := h.pin.sok.lt
 have hlen := h.pin.ok.len
 have hcnt := h.cnt
 refine ⟨⟨h.pin, h.kept, h.fresh, b1, b4, b2, h.mono, fun b hb => by have := h.tlt b hb; omega, fun p hp => ⟨(h.kr.kids p hp).1.mono (fun b _ hq => ⟨by have := hq.1; omega, hq.2.1, by simp⟩), (h.kr.kids p hp).2⟩, by simp, .nil⟩, hn, ?_⟩
 exact (h.kr.at_ (by omega)).same (fun _ _ _ => rfl) (Nat.le_refl _) (fun b _ hq => ⟨by have := hq.1; omega, hq.2, by simp⟩)
theorem FRow.callNode {bs : Bxs} {ao : Option Addr} {n cap : Nat} (h : FRow w0 Z P tv lv0 S s0 w lv s ks bs ao n cap) (hb : Below w.heap.size w W) (kind : Int) (first : Nat) (hf : first ≤ s0.at_) (text : ByteArray) :
 Calls Tryz.prog 38 #[.pointer (some ⟨P, 0, none⟩), .int .i64 kind, .string text, .int .i64 first, .int .i64 (S.last first), .slice ao n cap] W fun e w' => e = .returned (.agg #[.int .i64 kind, .string text, .int .i64 (S.at_ first s.at_), .int .i64 (S.last s.at_), .slice ao n cap]) ∧ FRow w0 Z P tv lv0 S s0 w' lv s ks bs ao n cap := by
 have h0 := h.below hb
 exact (node_walk h0.fin.pin kind first text ao n cap (Nat.le_trans hf h0.fin.mono)).mono fun e w' hw => ⟨hw.1, h0.below hw.2⟩
def EEnd (w : World) (P : Nat) (tv lv : Value) (S : Src) (s : Ps) (r : List PT × Ps) (e : Ending) (w' : World) : Prop :=
 ∃ lv' ao n cap, ∃ ks : Kds, e = .returned (.slice ao n cap) ∧ n = ks.length ∧ ks.map Prod.snd = r.1 ∧ KidsAt (fun b => w.heap.size ≤ b ∧ ¬ pfoot P lv' b) w' (.slice ao n cap) (ks.map Prod.fst) ∧ (∀ p ∈ ks, NodeIn (fun b => w.heap.size ≤ b ∧ ¬ pfoot P lv' b) w' p.1 ∧ p.1.tr = S.tree p.2) ∧ PIn w' P tv lv' S r.2 ∧ Kept (pfoot P lv) w w' ∧ Fresh w lv lv' ∧ s.at_ ≤ r.2.at_
theorem EIn.end_ {ao : Option Addr} {n cap : Nat} (h : EIn w0 none B P tv lv0 S s0 w lv s (.slice ao n cap) ks) (hB : B = w0.heap.size) (hn : n = ks.length) (l : List PT) (hl : ks.map Prod.snd = l) : EEnd w0 P tv lv0 S s0 (l, s) (.returned (.slice ao n cap)) w := by
 subst hB
 have hlt := h.pin.sok.lt
 have hlen := h.pin.ok.len
 have hcnt := h.cnt
 exact ⟨lv, ao, n, cap, ks, rfl, hn, hl, h.kr.at_ (by omega), fun p hp => ⟨(h.kr.kids p hp).1.mono (fun b _ hq => ⟨hq.1, hq.2.1⟩), (h.kr.kids p hp).2⟩, h.pin, h.kept, h.fresh, h.mono⟩
theorem EIn.start (h : PIn w P tv lv S s) : EIn w none w.heap.size P tv lv S s w lv s (.slice none 0 0) [] :=
 ⟨h, .refl _ _, fresh_same _ _, Nat.le_refl _, Nat.le_refl _, Nat.le_refl _, h.toks.lt, by simp, ⟨World.ownsRow_nil w _ _ 5, by simp [Value.ownBlock], by simp⟩, by simp⟩
theorem FIn.callE {f : Nat} {args : Array Value} {r : List PT × Ps} (h : FIn w0 Z P tv lv0 S s0 w lv s [] []) (hb : Below w.heap.size w W) (c : PIn W P tv lv S s → Calls Tryz.prog f args W (EEnd W P tv lv S s r)) :
 Calls Tryz.prog f args W fun e w' => ∃ lv' ao n cap, ∃ ks : Kds, e = .returned (.slice ao n cap) ∧ ks.map Prod.snd = r.1 ∧ FRow w0 Z P tv lv0 S s0 w' lv' r.2 ks [] ao n cap :=
 have g := h.below hb
 (c g.pin).mono fun _ w2 ⟨lv', ao, n, cap, ks, h1, h2, h3, h4, h5, h6, h7, h8, h9⟩ => ⟨lv', ao, n, cap, ks, h1, h3, by
  have f := g.send h6 h7 h8 h9
  have hz := g.zlt
  exact ⟨⟨f.pin, f.kept, f.fresh, f.box, f.hZ, f.far, f.mono, f.tlt, fun p hp => ⟨(h5 p hp).1.mono (fun b _ hq => ⟨by have := hq.1; omega, hq.2, by simp⟩), (h5 p hp).2⟩, by simp, .nil⟩, h2, h4.same (fun _ _ _ => rfl) (Nat.le_refl _) (fun b _ hq => ⟨by have := hq.1; omega, hq.2, by simp⟩)⟩⟩
end
end Go.Proofs.YthggagophcnkfaaGreatDoor.py
namespace Go.Proofs.YthggagophcnkfaaGreatDoor.py
open Go.RowKit Go.Proofs.YthggagophcnkfaaGreatDoor.agg Go.Proofs.YthggagophcnkfaaGreatDoor.sx Go.Proofs.YthggagophcnkfaaGreatDoor.px
set_option linter.unusedSimpArgs false
set_option linter.unusedVariables false
set_option maxRecDepth 100000 in
set_option maxHeartbeats 1000000 in
theorem missing_walk {w : World} {P : Nat} {tv lv : Value} {S : Src} {s : Ps} (h : PIn w P tv lv S s) (kind : Int) :
 Calls Tryz.prog 136 #[.pointer (some ⟨P, 0, none⟩), .int .i64 kind] w (NEnd w P tv lv S s (missing kind s, s)) := by
 have f0 := Lib.hid (FIn.start h)
 have hna : S.at_ s.at_ s.at_ = S.last s.at_ := by unfold Src.at_; rw [if_neg (by omega)]
 have hN := Lib.hid (fun (W : World) (q : FIn w w.heap.size P tv lv S s W lv s [] []) => node_walk q.pin kind s.at_ ⟨#[]⟩ none 0 0 (Nat.le_refl _))
 rw [hna] at hN
 have hm : Hid (S.tree (missing kind s) = .mk kind ⟨#[]⟩ (S.last s.at_) (S.last s.at_) []) := by unfold missing node; rw [Src.tree, hna]; exact rfl
 generalize missing kind s = m at *
 clear hna h
 obtain ⟨_, _, cat, cla, _⟩ := f0.out.pin.cell
 go_enter Tryz.func136, Tryz.ntmps136
 go_upto_region 1 with fail
 generalize w.alloc _ = V at *
 refine wp_region_held_drew (S := fun u => u.cell? ⟨P, 2, none⟩ = some (.int .i64 s.at_) ∧ u.cell? ⟨P, 3, none⟩ = some (.int .i64 (S.last s.at_))) (by kernel_rfl) ⟨cat, cla⟩ (fun hHeld => ?_)
 refine tk (i := 0) (v := .pointer (some ⟨P, 0, none⟩)) rfl hHeld ?_
 try simp only [Act.put, kA, kB, kC, kD, kE, kF]
 refine tk (i := 1) (v := .int .i64 kind) rfl hHeld ?_
 try simp only [Act.put, kA, kB, kC, kD, kE, kF]
 refine tk (i := 2) (v := .pointer (some ⟨P, 0, none⟩)) rfl hHeld ?_
 try simp only [Act.put, kA, kB, kC, kD, kE, kF]
 refine tk (i := 3) (v := .pointer (some ⟨P, 0, none⟩)) rfl hHeld ?_
 try simp only [Act.put, kA, kB, kC, kD, kE, kF]
 refine tk (i := 4) (v := .pointer (some ⟨P, 2, none⟩)) rfl hHeld ?_
 try simp only [Act.put, kA, kB, kC, kD, kE, kF]
 refine tk (i := 5) (v := .int .i64 s.at_) rfl hHeld ?_
 try simp only [Act.put, kA, kB, kC, kD, kE, kF]
 refine tk (i := 6) (v := .pointer (some ⟨P, 0, none⟩)) rfl hHeld ?_
 try simp only [Act.put, kA, kB, kC, kD, kE, kF]
 refine tk (i := 7) (v := .pointer (some ⟨P, 0, none⟩)) rfl hHeld ?_
 try simp only [Act.put, kA, kB, kC, kD, kE, kF]
 refine tk (i := 8) (v := .pointer (some ⟨P, 3, none⟩)) rfl hHeld ?_
 try simp only [Act.put, kA, kB, kC, kD, kE, kF]
 refine tk (i := 9) (v := .int .i64 (S.last s.at_)) rfl hHeld ?_
 try simp only [Act.put, kA, kB, kC, kD, kE, kF]
 have f0d := Lib.hid (f0.out.below (Below.refl _ _).drew)
 refine wpAnyH_ready (rs := [10]) (by kernel_rfl) (by simp) ?_
 refine AllReadyH.cons rfl (fun K hK => ?_) AllReadyH.nil
 rw [if_pos (by rfl)]
 go_simp
 go_at_call 38
 refine (hN.out _ f0d.out).mono ?_
 rintro e w1 ⟨rfl, hb1⟩
 have f1 := Lib.hid (f0d.out.below hb1)
 obtain ⟨_, _, cat1, cla1, _⟩ := f1.out.pin.cell
 obtain ⟨x0, x1, x2, x3, x4, x5⟩ := f1.out.cells
 refine hK.out _ _ ⟨cat1, cla1⟩ (fun hHeld => ?_)
 clear hK K
 try simp only [Act.put, kA, kB, kC, kD, kE, kF]
 have fz := x5
 have hE := f1.out.done (kept5 w1 w.heap.size (.int .i64 kind) (.string ⟨#[]⟩) (.int .i64 (S.last s.at_)) (.int .i64 (S.last s.at_)) (.slice none 0 0)) (.mk kind ⟨#[]⟩ (S.last s.at_) (S.last s.at_) (.slice none 0 0) []) _ hm.out.symm (leaf_in _ _ _ _) _ rfl
 have hb9 := f1.out.box
 have hE' := Lib.hid hE
 clear hE
 refine wpAnyH_ready (rs := [11]) (by kernel_rfl) (by simp) ?_
 refine AllReadyH.cons rfl (fun K hK => ?_) AllReadyH.nil
 rw [if_pos (by rfl)]
 go_simp
 have hPz : P ≠ w.heap.size := fun e => f1.out.far (.inl e.symm)
 have hbP := (kept5 w1 w.heap.size (.int .i64 kind) (.string ⟨#[]⟩) (.int .i64 (S.last s.at_)) (.int .i64 (S.last s.at_)) (.slice none 0 0)).block P (lt_of_block f1.out.pin.box) hPz
 refine hK.out _ _ ⟨(World.cell?_of_block (a := ⟨P, 2, none⟩) hbP).trans cat1, (World.cell?_of_block (a := ⟨P, 3, none⟩) hbP).trans cla1⟩ (fun hHeld => ?_)
 clear hK K hbP
 try simp only [Act.put, kA, kB, kC, kD, kE, kF]
 refine wpAnyH_done (by kernel_rfl) ?_ _
 clear hHeld
 go_wp2
 refine bodyPost_ret (v := .agg #[.int .i64 kind, .string ⟨#[]⟩, .int .i64 (S.last s.at_), .int .i64 (S.last s.at_), .slice none 0 0]) (by simp [results, Tryz.results136, go_sem, x0, x1, x2, x3, x4]) rfl ?_
 exact hE'.out
end Go.Proofs.YthggagophcnkfaaGreatDoor.py
namespace Go.Proofs.YthggagophcnkfaaGreatDoor.py
open Go.RowKit Go.Proofs.YthggagophcnkfaaGreatDoor.agg Go.Proofs.YthggagophcnkfaaGreatDoor.sx Go.Proofs.YthggagophcnkfaaGreatDoor.px
set_option linter.unusedSimpArgs false
set_option linter.unusedVariables false
set_option maxRecDepth 100000 in
set_option maxHeartbeats 1000000 in
theorem named_walk {w : World} {P : Nat} {tv lv : Value} {S : Src} {s : Ps} (h : PIn w P tv lv S s) :
 Calls Tryz.prog 81 #[.pointer (some ⟨P, 0, none⟩), .int .i64 35] w (NEnd w P tv lv S s (named S.A s)) := by
 have f0 := Lib.hid (FIn.start h)
 have f0d := Lib.hid (f0.out.below (Below.refl _ _).drew)
 have hN := Lib.hid (name_walk f0d.out.pin)
 have hM := Lib.hid (fun (W : World) (lv2 : Value) (q : PIn W P tv lv2 S (name S.A s).2) (hm : s.at_ ≤ (name S.A s).2.at_) => node_walk q 35 s.at_ (name S.A s).1 none 0 0 hm)
 have cat := h.cell.2.2.1
 have cla := h.cell.2.2.2.1
 have hP := lt_of_block h.box
 have hm : Hid (named S.A s = (node 35 s.at_ (name S.A s).1 [] (name S.A s).2, (name S.A s).2)) := rfl
 generalize named S.A s = m at *
 clear h
 generalize (name S.A s).1 = x at *
 generalize (name S.A s).2 = s2 at *
 go_enter Tryz.func81, Tryz.ntmps81
 go_upto_region 1 with fail
 go_region
 go_wp2_with (first
  | (go_at_call 80; refine hN.out.mono ?_; rintro e w1 ⟨lv1, rfl, q1, q2, q3, q4⟩; have f1 := Lib.hid (f0d.out.send q1 q2 q3 q4))
  | (go_at_call 38; refine (hM.out _ _ q1 q4).mono ?_; rintro e w2 ⟨rfl, hb2⟩; have f2 := Lib.hid (f1.out.below hb2); obtain ⟨x0, x1, x2, x3, x4, x5⟩ := f2.out.cells))
 refine bodyPost_ret (v := .agg #[.int .i64 35, .string x, .int .i64 (S.at_ s.at_ s2.at_), .int .i64 (S.last s2.at_), .slice none 0 0]) (by simp [results, Tryz.results81, go_sem, x0, x1, x2, x3, x4]) rfl ?_
 rw [hm.out]
 exact f2.out.done (kept5 _ _ _ _ _ _ _) (.mk 35 x (S.at_ s.at_ s2.at_) (S.last s2.at_) (.slice none 0 0) []) _ (node_eq _ _ _ _ _ _) (leaf_in _ _ _ _) _ rfl
set_option maxRecDepth 100000 in
set_option maxHeartbeats 1000000 in
theorem number_walk {w : World} {P : Nat} {tv lv : Value} {S : Src} {s : Ps} (h : PIn w P tv lv S s) :
 Calls Tryz.prog 81 #[.pointer (some ⟨P, 0, none⟩), .int .i64 36] w (NEnd w P tv lv S s (number S.A s)) := by
 have f0 := Lib.hid (FIn.start h)
 have f0d := Lib.hid (f0.out.below (Below.refl _ _).drew)
 have hN := Lib.hid (digits_walk f0d.out.pin)
 have hM := Lib.hid (fun (W : World) (lv2 : Value) (q : PIn W P tv lv2 S (digits S.A s).2) (hm : s.at_ ≤ (digits S.A s).2.at_) => node_walk q 36 s.at_ (digits S.A s).1 none 0 0 hm)
 have cat := h.cell.2.2.1
 have cla := h.cell.2.2.2.1
 have hP := lt_of_block h.box
 have hm : Hid (number S.A s = (node 36 s.at_ (digits S.A s).1 [] (digits S.A s).2, (digits S.A s).2)) := rfl
 generalize number S.A s = m at *
 clear h
 generalize (digits S.A s).1 = x at *
 generalize (digits S.A s).2 = s2 at *
 go_enter Tryz.func81, Tryz.ntmps81
 go_upto_region 1 with fail
 go_region
 go_wp2_with (first
  | (go_at_call 133; refine hN.out.mono ?_; rintro e w1 ⟨lv1, rfl, q1, q2, q3, q4⟩; have f1 := Lib.hid (f0d.out.send q1 q2 q3 q4))
  | (go_at_call 38; refine (hM.out _ _ q1 q4).mono ?_; rintro e w2 ⟨rfl, hb2⟩; have f2 := Lib.hid (f1.out.below hb2); obtain ⟨x0, x1, x2, x3, x4, x5⟩ := f2.out.cells))
 refine bodyPost_ret (v := .agg #[.int .i64 36, .string x, .int .i64 (S.at_ s.at_ s2.at_), .int .i64 (S.last s2.at_), .slice none 0 0]) (by simp [results, Tryz.results81, go_sem, x0, x1, x2, x3, x4]) rfl ?_
 rw [hm.out]
 exact f2.out.done (kept5 _ _ _ _ _ _ _) (.mk 36 x (S.at_ s.at_ s2.at_) (S.last s2.at_) (.slice none 0 0) []) _ (node_eq _ _ _ _ _ _) (leaf_in _ _ _ _) _ rfl
end Go.Proofs.YthggagophcnkfaaGreatDoor.py
namespace Go.Proofs.YthggagophcnkfaaGreatDoor.py
open Go.RowKit Go.Proofs.YthggagophcnkfaaGreatDoor.agg Go.Proofs.YthggagophcnkfaaGreatDoor.sx Go.Proofs.YthggagophcnkfaaGreatDoor.px
set_option linter.unusedSimpArgs false
set_option linter.unusedVariables false
set_option maxRecDepth 100000 in
set_option maxHeartbeats 1000000 in
theorem integer_walk {w : World} {P : Nat} {tv lv : Value} {S : Src} {s : Ps} (h : PIn w P tv lv S s) :
 Calls Tryz.prog 135 #[.pointer (some ⟨P, 0, none⟩)] w (NEnd w P tv lv S s (integer S.A s)) := by
 have f0 := Lib.hid (FIn.start h)
 have f0d := Lib.hid (f0.out.below (Below.refl _ _).drew)
 have hO := Lib.hid (optional_walk f0d.out.pin (ByteArray.mk #[45]))
 have hD := Lib.hid (fun (W : World) (lv2 : Value) (q : PIn W P tv lv2 S (px.optional S.A (ByteArray.mk #[45]) s).2) => digits_walk q)
 have hM := Lib.hid (fun (W : World) (lv2 : Value) (q : PIn W P tv lv2 S (digits S.A (px.optional S.A (ByteArray.mk #[45]) s).2).2) (hm : s.at_ ≤ (digits S.A (px.optional S.A (ByteArray.mk #[45]) s).2).2.at_) (x : ByteArray) => node_walk q 37 s.at_ x none 0 0 hm)
 have cat := h.cell.2.2.1
 have cla := h.cell.2.2.2.1
 have hP := lt_of_block h.box
 have hm : Hid (integer S.A s = (node 37 s.at_ (if (px.optional S.A (ByteArray.mk #[45]) s).1 = true ∧ (digits S.A (px.optional S.A (ByteArray.mk #[45]) s).2).1 ≠ ⟨#[]⟩ ∧ (digits S.A (px.optional S.A (ByteArray.mk #[45]) s).2).1 ≠ (ByteArray.mk #[48]) then (ByteArray.mk #[45]) ++ (digits S.A (px.optional S.A (ByteArray.mk #[45]) s).2).1 else (digits S.A (px.optional S.A (ByteArray.mk #[45]) s).2).1) [] (digits S.A (px.optional S.A (ByteArray.mk #[45]) s).2).2, (digits S.A (px.optional S.A (ByteArray.mk #[45]) s).2).2)) := rfl
 have hxs : (digits S.A (px.optional S.A (ByteArray.mk #[45]) s).2).1.size ≤ 4097 := by have h1 := digits_size S (px.optional S.A (ByteArray.mk #[45]) s).2; have h2 := h.rng.2.2.2; omega
 generalize integer S.A s = m at *
 clear h
 generalize (digits S.A (px.optional S.A (ByteArray.mk #[45]) s).2).1 = x at *
 generalize (digits S.A (px.optional S.A (ByteArray.mk #[45]) s).2).2 = s3 at *
 generalize (px.optional S.A (ByteArray.mk #[45]) s).1 = b at *
 generalize (px.optional S.A (ByteArray.mk #[45]) s).2 = s2 at *
 have hem : ByteArray.mk #[] ++ x = x := ByteArray.empty_append
 obtain ⟨r, hr⟩ : ∃ r, (if b = true ∧ x ≠ ⟨#[]⟩ ∧ x ≠ (ByteArray.mk #[48]) then (ByteArray.mk #[45]) ++ x else x) = r := ⟨_, rfl⟩
 rw [hr] at hm
 have hcase : (b = true ∧ x ≠ ⟨#[]⟩ ∧ x ≠ (ByteArray.mk #[48]) ∧ r = (ByteArray.mk #[45]) ++ x) ∨ (b = false ∧ x ≠ ⟨#[]⟩ ∧ x ≠ (ByteArray.mk #[48]) ∧ r = x) ∨ (b = true ∧ x = ⟨#[]⟩ ∧ r = ⟨#[]⟩) ∨ (b = false ∧ x = ⟨#[]⟩ ∧ r = ⟨#[]⟩) ∨ (b = true ∧ x = (ByteArray.mk #[48]) ∧ r = (ByteArray.mk #[48])) ∨ (b = false ∧ x = (ByteArray.mk #[48]) ∧ r = (ByteArray.mk #[48])) := by
  by_cases h1 : x = ⟨#[]⟩
  ·subst h1
   rw [if_neg (by simp)] at hr
   cases b <;> simp [hr]
  ·by_cases h2 : x = (ByteArray.mk #[48])
   ·subst h2
    rw [if_neg (by simp)] at hr
    cases b <;> simp [← hr]
   ·cases b with
    | true =>
     rw [if_pos ⟨rfl, h1, h2⟩] at hr
     exact .inl ⟨rfl, h1, h2, hr.symm⟩
    | false =>
     rw [if_neg (by simp)] at hr
     exact .inr (.inl ⟨rfl, h1, h2, hr.symm⟩)
 clear hr
 rcases hcase with ⟨rfl, h1, h2, rfl⟩ | ⟨rfl, h1, h2, rfl⟩ | ⟨rfl, rfl, rfl⟩ | ⟨rfl, rfl, rfl⟩ | ⟨rfl, rfl, rfl⟩ | ⟨rfl, rfl, rfl⟩
 all_goals
  (try have e1 := str_empty h1)
  (try have e2 := str_ne h1)
  (try have e5 := str_eq h1)
  (try (have e3 := str_ne h2; rw [list48] at e3))
  (try (have e4 := str_eq h2; rw [list48] at e4))
  (try clear h1 h2)
  go_enter Tryz.func135, Tryz.ntmps135
  go_upto_region 1 with fail
  go_region
  go_wp2_with (first
   | (go_at_call 96; refine hO.out.mono ?_; rintro e w1 ⟨lv1, rfl, q1, q2, q3, q4⟩; have f1 := Lib.hid (f0d.out.send q1 q2 q3 q4))
   | (go_at_call 133; refine (hD.out _ _ f1.out.pin).mono ?_; rintro e w2 ⟨lv2, rfl, r1, r2, r3, r4⟩; have f2 := Lib.hid (f1.out.send r1 r2 r3 r4))
   | (go_at_call 38; refine (hM.out _ _ f2.out.pin f2.out.mono _).mono ?_; rintro e w3 ⟨rfl, hb3⟩; have f3 := Lib.hid (f2.out.below hb3); obtain ⟨x0, x1, x2, x3, x4, x5⟩ := f3.out.cells))
  refine bodyPost_ret (v := .agg #[.int .i64 37, .string _, .int .i64 (S.at_ s.at_ s3.at_), .int .i64 (S.last s3.at_), .slice none 0 0]) (by simp [results, Tryz.results135, go_sem, x0, x1, x2, x3, x4] <;> rfl) rfl ?_
  rw [hm.out]
  (try rw [hem])
  exact f3.out.done (kept5 _ _ _ _ _ _ _) (.mk 37 _ (S.at_ s.at_ s3.at_) (S.last s3.at_) (.slice none 0 0) []) _ (node_eq _ _ _ _ _ _) (leaf_in _ _ _ _) _ rfl
end Go.Proofs.YthggagophcnkfaaGreatDoor.py
namespace Go.Proofs.YthggagophcnkfaaGreatDoor.py
open Go.RowKit Go.Proofs.YthggagophcnkfaaGreatDoor.agg Go.Proofs.YthggagophcnkfaaGreatDoor.sx Go.Proofs.YthggagophcnkfaaGreatDoor.px
set_option linter.unusedSimpArgs false
set_option linter.unusedVariables false
set_option maxRecDepth 100000 in
set_option maxHeartbeats 2000000 in
theorem column_walk {w : World} {P : Nat} {tv lv : Value} {S : Src} {s : Ps} (h : PIn w P tv lv S s) :
 Calls Tryz.prog 164 #[.pointer (some ⟨P, 0, none⟩)] w (NEnd w P tv lv S s (column S.A s)) := by
 have f0 := Lib.hid (FIn.start h)
 have cat := h.cell.2.2.1
 have cla := h.cell.2.2.2.1
 have hP := lt_of_block h.box
 have hm : Hid (column S.A s = (node 11 s.at_ ((name S.A s).1) [(named S.A (demand S.A (ByteArray.mk #[58]) (name S.A s).2).2).1] (named S.A (demand S.A (ByteArray.mk #[58]) (name S.A s).2).2).2, (named S.A (demand S.A (ByteArray.mk #[58]) (name S.A s).2).2).2)) := rfl
 generalize column S.A s = m at *
 have h1 := Lib.hid (fun (W : World) (lvq : Value) (q : PIn W P tv lvq S s) => name_walk q)
 generalize (name S.A s).1 = x1 at *
 generalize (name S.A s).2 = s1 at *
 have h2 := Lib.hid (fun (W : World) (lvq : Value) (q : PIn W P tv lvq S s1) => expect_walk q (ByteArray.mk #[58]) (by decide))
 generalize (demand S.A (ByteArray.mk #[58]) s1).1 = x2 at *
 generalize (demand S.A (ByteArray.mk #[58]) s1).2 = s2 at *
 have h3 := Lib.hid (fun (W : World) (lvq : Value) (q : PIn W P tv lvq S s2) => named_walk q)
 generalize named S.A s2 = k3 at *
 obtain ⟨kk3, s3⟩ := k3
 clear h
 go_enter Tryz.func164, Tryz.ntmps164
 go_upto_region 1 with fail
 go_region
 go_wp2_with (first
  | (go_at_call 38; refine ((f3.out.box1 nks3 rfl).callNode (by repeat (first | exact Below.refl _ _ | apply bl_drew | apply bl_alloc)) 11 s.at_ (Nat.le_refl _) x1 rfl (by simp) rfl (by simp)).mono ?_; rintro e w4 ⟨rfl, g⟩; have f4 := Lib.hid g; clear g; obtain ⟨z0, z1, z2, z3, z4, z5⟩ := f4.out.fin.cells)
  | (go_at_call 81; refine (f2.out.callN (by repeat (first | exact Below.refl _ _ | apply bl_drew | apply bl_alloc)) (h3.out _ _)).mono ?_; rintro e w3 ⟨lv3, nk3, nt3, na3, ne3, nao3, ncap3, nks3, rfl, g⟩; have f3 := Lib.hid g; clear g)
  | (go_at_call 83; refine (f1.out.callS (by repeat (first | exact Below.refl _ _ | apply bl_drew | apply bl_alloc)) (h2.out _ _)).mono ?_; rintro e w2 ⟨lv2, rfl, g⟩; have f2 := Lib.hid g; clear g)
  | (go_at_call 80; refine (f0.out.callS (by repeat (first | exact Below.refl _ _ | apply bl_drew | apply bl_alloc)) (h1.out _ _)).mono ?_; rintro e w1 ⟨lv1, rfl, g⟩; have f1 := Lib.hid g; clear g))
 refine bodyPost_ret (v := .agg #[.int .i64 11, .string x1, .int .i64 (S.at_ s.at_ s3.at_), .int .i64 (S.last s3.at_), .slice _ 1 1]) (by simp [results, Tryz.results164, go_sem, z0, z1, z2, z3, z4] <;> rfl) rfl ?_
 rw [hm.out]
 exact f4.out.end_ (kept5 _ _ _ _ _ _ _) 11 s.at_ x1
set_option maxRecDepth 100000 in
set_option maxHeartbeats 2000000 in
theorem limits_walk {w : World} {P : Nat} {tv lv : Value} {S : Src} {s : Ps} (h : PIn w P tv lv S s) :
 Calls Tryz.prog 84 #[.pointer (some ⟨P, 0, none⟩)] w (NEnd w P tv lv S s (limits S.A s)) := by
 have f0 := Lib.hid (FIn.start h)
 have cat := h.cell.2.2.1
 have cla := h.cell.2.2.2.1
 have hP := lt_of_block h.box
 have hm : Hid (limits S.A s = (node 12 s.at_ (⟨#[]⟩) [(integer S.A s).1, (integer S.A (demand S.A (ByteArray.mk #[46, 46]) (integer S.A s).2).2).1] (integer S.A (demand S.A (ByteArray.mk #[46, 46]) (integer S.A s).2).2).2, (integer S.A (demand S.A (ByteArray.mk #[46, 46]) (integer S.A s).2).2).2)) := rfl
 generalize limits S.A s = m at *
 have h1 := Lib.hid (fun (W : World) (lvq : Value) (q : PIn W P tv lvq S s) => integer_walk q)
 generalize integer S.A s = k1 at *
 obtain ⟨kk1, s1⟩ := k1
 have h2 := Lib.hid (fun (W : World) (lvq : Value) (q : PIn W P tv lvq S s1) => expect_walk q (ByteArray.mk #[46, 46]) (by decide))
 generalize (demand S.A (ByteArray.mk #[46, 46]) s1).1 = x2 at *
 generalize (demand S.A (ByteArray.mk #[46, 46]) s1).2 = s2 at *
 have h3 := Lib.hid (fun (W : World) (lvq : Value) (q : PIn W P tv lvq S s2) => integer_walk q)
 generalize integer S.A s2 = k3 at *
 obtain ⟨kk3, s3⟩ := k3
 clear h
 go_enter Tryz.func84, Tryz.ntmps84
 go_upto_region 1 with fail
 go_region
 go_wp2_with (first
  | (go_at_call 38; refine ((f3.out.box1 nks3 rfl).callNode (by repeat (first | exact Below.refl _ _ | apply bl_drew | apply bl_alloc)) 12 s.at_ (Nat.le_refl _) ⟨#[]⟩ rfl (by simp) rfl (by simp)).mono ?_; rintro e w4 ⟨rfl, g⟩; have f4 := Lib.hid g; clear g; obtain ⟨z0, z1, z2, z3, z4, z5⟩ := f4.out.fin.cells)
  | (go_at_call 135; refine (f2.out.callN (by repeat (first | exact Below.refl _ _ | apply bl_drew | apply bl_alloc)) (h3.out _ _)).mono ?_; rintro e w3 ⟨lv3, nk3, nt3, na3, ne3, nao3, ncap3, nks3, rfl, g⟩; have f3 := Lib.hid g; clear g; obtain ⟨y00, y01, y02, y03, y04, y05, y06⟩ := f3.out.bx 0 rfl)
  | (go_at_call 83; refine ((f1.out.box1 nks1 rfl).callS (by repeat (first | exact Below.refl _ _ | apply bl_drew | apply bl_alloc)) (h2.out _ _)).mono ?_; rintro e w2 ⟨lv2, rfl, g⟩; have f2 := Lib.hid g; clear g)
  | (go_at_call 135; refine (f0.out.callN (by repeat (first | exact Below.refl _ _ | apply bl_drew | apply bl_alloc)) (h1.out _ _)).mono ?_; rintro e w1 ⟨lv1, nk1, nt1, na1, ne1, nao1, ncap1, nks1, rfl, g⟩; have f1 := Lib.hid g; clear g))
 refine bodyPost_ret (v := .agg #[.int .i64 12, .string ⟨#[]⟩, .int .i64 (S.at_ s.at_ s3.at_), .int .i64 (S.last s3.at_), .slice _ 2 2]) (by simp [results, Tryz.results84, go_sem, z0, z1, z2, z3, z4] <;> rfl) rfl ?_
 rw [hm.out]
 exact f4.out.end_ (kept5 _ _ _ _ _ _ _) 12 s.at_ ⟨#[]⟩
set_option maxRecDepth 100000 in
set_option maxHeartbeats 2000000 in
theorem argument_walk_1 {w : World} {P : Nat} {tv lv : Value} {S : Src} {s : Ps} (h : PIn w P tv lv S s) (c1 : Hid ((tok S.A s).kind = 1)) :
 Calls Tryz.prog 160 #[.pointer (some ⟨P, 0, none⟩), .int .i64 2] w (NEnd w P tv lv S s (argument S.A s)) := by
 have f0 := Lib.hid (FIn.start h)
 have hP := lt_of_block h.box
 have hm0 : argument S.A s = ((named S.A s).1, (named S.A s).2) := by
  unfold argument
  simp only [c1.out, if_true, if_false, Bool.false_eq_true, Bool.true_eq_false, reduceIte, Nat.reduceEqDiff]
 have hm := Lib.hid hm0
 clear hm0
 generalize argument S.A s = m at *
 have h1 := Lib.hid (fun (W : World) (lvq : Value) (q : PIn W P tv lvq S s) => kind_b q 1 1 rfl (decide_eq_true c1.out))
 have h2 := Lib.hid (fun (W : World) (lvq : Value) (q : PIn W P tv lvq S s) => named_walk q)
 generalize named S.A s = k2 at *
 obtain ⟨kk2, s2⟩ := k2
 clear h
 go_enter Tryz.func160, Tryz.ntmps160
 go_wp2_with (first
  | (go_at_call 81; refine (f1.out.callN (by repeat (first | exact Below.refl _ _ | apply bl_drew | apply bl_alloc)) (h2.out _ _)).mono ?_; rintro e w2 ⟨lv2, nk2, nt2, na2, ne2, nao2, ncap2, nks2, rfl, g⟩; have f2 := Lib.hid g; clear g; obtain ⟨z0, z1, z2, z3, z4, z5⟩ := f2.out.cells)
  | (go_at_call 32; refine (f0.out.callB (by repeat (first | exact Below.refl _ _ | apply bl_drew | apply bl_alloc)) (h1.out _ _)).mono ?_; rintro e w1 ⟨rfl, g⟩; have f1 := Lib.hid g; clear g))
 refine bodyPost_ret (v := .agg #[.int .i64 nk2, .string nt2, .int .i64 na2, .int .i64 ne2, .slice nao2 nks2.length ncap2]) (by simp [results, Tryz.results160, go_sem, z0, z1, z2, z3, z4] <;> rfl) rfl ?_
 rw [hm.out]
 exact f2.out.pass (kept5 _ _ _ _ _ _ _)
set_option maxRecDepth 100000 in
set_option maxHeartbeats 2000000 in
theorem argument_walk_2 {w : World} {P : Nat} {tv lv : Value} {S : Src} {s : Ps} (h : PIn w P tv lv S s) (c1 : Hid (¬ (tok S.A s).kind = 1)) (c2 : Hid ((tok S.A s).kind = 3)) :
 Calls Tryz.prog 160 #[.pointer (some ⟨P, 0, none⟩), .int .i64 2] w (NEnd w P tv lv S s (argument S.A s)) := by
 have f0 := Lib.hid (FIn.start h)
 have hP := lt_of_block h.box
 have hm0 : argument S.A s = ((number S.A s).1, (number S.A s).2) := by
  unfold argument
  simp only [c1.out, c2.out, if_true, if_false, Bool.false_eq_true, Bool.true_eq_false, reduceIte, Nat.reduceEqDiff]
 have hm := Lib.hid hm0
 clear hm0
 generalize argument S.A s = m at *
 have h1 := Lib.hid (fun (W : World) (lvq : Value) (q : PIn W P tv lvq S s) => kind_b q 1 1 rfl (decide_eq_false c1.out))
 have h2 := Lib.hid (fun (W : World) (lvq : Value) (q : PIn W P tv lvq S s) => kind_b q 3 3 rfl (decide_eq_true c2.out))
 have h3 := Lib.hid (fun (W : World) (lvq : Value) (q : PIn W P tv lvq S s) => number_walk q)
 generalize number S.A s = k3 at *
 obtain ⟨kk3, s3⟩ := k3
 clear h
 go_enter Tryz.func160, Tryz.ntmps160
 go_wp2_with (first
  | (go_at_call 81; refine (f2.out.callN (by repeat (first | exact Below.refl _ _ | apply bl_drew | apply bl_alloc)) (h3.out _ _)).mono ?_; rintro e w3 ⟨lv3, nk3, nt3, na3, ne3, nao3, ncap3, nks3, rfl, g⟩; have f3 := Lib.hid g; clear g; obtain ⟨z0, z1, z2, z3, z4, z5⟩ := f3.out.cells)
  | (go_at_call 32; refine (f1.out.callB (by repeat (first | exact Below.refl _ _ | apply bl_drew | apply bl_alloc)) (h2.out _ _)).mono ?_; rintro e w2 ⟨rfl, g⟩; have f2 := Lib.hid g; clear g)
  | (go_at_call 32; refine (f0.out.callB (by repeat (first | exact Below.refl _ _ | apply bl_drew | apply bl_alloc)) (h1.out _ _)).mono ?_; rintro e w1 ⟨rfl, g⟩; have f1 := Lib.hid g; clear g))
 refine bodyPost_ret (v := .agg #[.int .i64 nk3, .string nt3, .int .i64 na3, .int .i64 ne3, .slice nao3 nks3.length ncap3]) (by simp [results, Tryz.results160, go_sem, z0, z1, z2, z3, z4] <;> rfl) rfl ?_
 rw [hm.out]
 exact f3.out.pass (kept5 _ _ _ _ _ _ _)
set_option maxRecDepth 100000 in
set_option maxHeartbeats 2000000 in
theorem argument_walk_3 {w : World} {P : Nat} {tv lv : Value} {S : Src} {s : Ps} (h : PIn w P tv lv S s) (c1 : Hid (¬ (tok S.A s).kind = 1)) (c2 : Hid (¬ (tok S.A s).kind = 3)) :
 Calls Tryz.prog 160 #[.pointer (some ⟨P, 0, none⟩), .int .i64 2] w (NEnd w P tv lv S s (argument S.A s)) := by
 have f0 := Lib.hid (FIn.start h)
 have hP := lt_of_block h.box
 have hm0 : argument S.A s = ((missing 0 (report 4 (ByteArray.mk #[110, 97, 109, 101]) s)), (report 4 (ByteArray.mk #[110, 97, 109, 101]) s)) := by
  unfold argument
  simp only [c1.out, c2.out, if_true, if_false, Bool.false_eq_true, Bool.true_eq_false, reduceIte, Nat.reduceEqDiff]
 have hm := Lib.hid hm0
 clear hm0
 generalize argument S.A s = m at *
 have h1 := Lib.hid (fun (W : World) (lvq : Value) (q : PIn W P tv lvq S s) => kind_b q 1 1 rfl (decide_eq_false c1.out))
 have h2 := Lib.hid (fun (W : World) (lvq : Value) (q : PIn W P tv lvq S s) => kind_b q 3 3 rfl (decide_eq_false c2.out))
 have h3 := Lib.hid (fun (W : World) (lvq : Value) (q : PIn W P tv lvq S s) => report_walk q 4 (ByteArray.mk #[110, 97, 109, 101]) (rp4 (by decide)))
 generalize report 4 (ByteArray.mk #[110, 97, 109, 101]) s = s3 at *
 have h4 := Lib.hid (fun (W : World) (lvq : Value) (q : PIn W P tv lvq S s3) => missing_walk q 0)
 clear h
 go_enter Tryz.func160, Tryz.ntmps160
 go_wp2_with (first
  | (go_at_call 136; refine (f3.out.callN (by repeat (first | exact Below.refl _ _ | apply bl_drew | apply bl_alloc)) (h4.out _ _)).mono ?_; rintro e w4 ⟨lv4, nk4, nt4, na4, ne4, nao4, ncap4, nks4, rfl, g⟩; have f4 := Lib.hid g; clear g; obtain ⟨z0, z1, z2, z3, z4, z5⟩ := f4.out.cells)
  | (go_at_call 36; refine (f2.out.callS (by repeat (first | exact Below.refl _ _ | apply bl_drew | apply bl_alloc)) (h3.out _ _)).mono ?_; rintro e w3 ⟨lv3, rfl, g⟩; have f3 := Lib.hid g; clear g)
  | (go_at_call 32; refine (f1.out.callB (by repeat (first | exact Below.refl _ _ | apply bl_drew | apply bl_alloc)) (h2.out _ _)).mono ?_; rintro e w2 ⟨rfl, g⟩; have f2 := Lib.hid g; clear g)
  | (go_at_call 32; refine (f0.out.callB (by repeat (first | exact Below.refl _ _ | apply bl_drew | apply bl_alloc)) (h1.out _ _)).mono ?_; rintro e w1 ⟨rfl, g⟩; have f1 := Lib.hid g; clear g))
 refine bodyPost_ret (v := .agg #[.int .i64 nk4, .string nt4, .int .i64 na4, .int .i64 ne4, .slice nao4 nks4.length ncap4]) (by simp [results, Tryz.results160, go_sem, z0, z1, z2, z3, z4] <;> rfl) rfl ?_
 rw [hm.out]
 exact f4.out.pass (kept5 _ _ _ _ _ _ _)
theorem argument_walk {w : World} {P : Nat} {tv lv : Value} {S : Src} {s : Ps} (h : PIn w P tv lv S s) :
 Calls Tryz.prog 160 #[.pointer (some ⟨P, 0, none⟩), .int .i64 2] w (NEnd w P tv lv S s (argument S.A s)) := by
 by_cases q1 : (tok S.A s).kind = 1
 ·skip
  exact argument_walk_1 h (Lib.hid q1)
 ·skip
  by_cases q2 : (tok S.A s).kind = 3
  ·skip
   exact argument_walk_2 h (Lib.hid q1) (Lib.hid q2)
  ·skip
   exact argument_walk_3 h (Lib.hid q1) (Lib.hid q2)
def elColumn (A : List Tk) : M PT := column A
def elNamed (A : List Tk) : M PT := named A
set_option maxRecDepth 100000 in
set_option maxHeartbeats 2000000 in
theorem el_column {w : World} {P : Nat} {tv lv : Value} {S : Src} {s : Ps} (h : PIn w P tv lv S s) :
 Calls Tryz.prog 160 #[.pointer (some ⟨P, 0, none⟩), .int .i64 0] w (NEnd w P tv lv S s (elColumn S.A s)) := by
 have f0 := Lib.hid (FIn.start h)
 have hP := lt_of_block h.box
 have hm : Hid (elColumn S.A s = ((column S.A s).1, (column S.A s).2)) := rfl
 generalize elColumn S.A s = m at *
 have h1 := Lib.hid (fun (W : World) (lvq : Value) (q : PIn W P tv lvq S s) => column_walk q)
 generalize column S.A s = k1 at *
 obtain ⟨kk1, s1⟩ := k1
 clear h
 go_enter Tryz.func160, Tryz.ntmps160
 go_wp2_with (first
  | (go_at_call 164; refine (f0.out.callN (by repeat (first | exact Below.refl _ _ | apply bl_drew | apply bl_alloc)) (h1.out _ _)).mono ?_; rintro e w1 ⟨lv1, nk1, nt1, na1, ne1, nao1, ncap1, nks1, rfl, g⟩; have f1 := Lib.hid g; clear g; obtain ⟨z0, z1, z2, z3, z4, z5⟩ := f1.out.cells))
 refine bodyPost_ret (v := .agg #[.int .i64 nk1, .string nt1, .int .i64 na1, .int .i64 ne1, .slice nao1 nks1.length ncap1]) (by simp [results, Tryz.results160, go_sem, z0, z1, z2, z3, z4] <;> rfl) rfl ?_
 rw [hm.out]
 exact f1.out.pass (kept5 _ _ _ _ _ _ _)
set_option maxRecDepth 100000 in
set_option maxHeartbeats 2000000 in
theorem el_named {w : World} {P : Nat} {tv lv : Value} {S : Src} {s : Ps} (h : PIn w P tv lv S s) :
 Calls Tryz.prog 160 #[.pointer (some ⟨P, 0, none⟩), .int .i64 1] w (NEnd w P tv lv S s (elNamed S.A s)) := by
 have f0 := Lib.hid (FIn.start h)
 have hP := lt_of_block h.box
 have hm : Hid (elNamed S.A s = ((named S.A s).1, (named S.A s).2)) := rfl
 generalize elNamed S.A s = m at *
 have h1 := Lib.hid (fun (W : World) (lvq : Value) (q : PIn W P tv lvq S s) => named_walk q)
 generalize named S.A s = k1 at *
 obtain ⟨kk1, s1⟩ := k1
 clear h
 go_enter Tryz.func160, Tryz.ntmps160
 go_wp2_with (first
  | (go_at_call 81; refine (f0.out.callN (by repeat (first | exact Below.refl _ _ | apply bl_drew | apply bl_alloc)) (h1.out _ _)).mono ?_; rintro e w1 ⟨lv1, nk1, nt1, na1, ne1, nao1, ncap1, nks1, rfl, g⟩; have f1 := Lib.hid g; clear g; obtain ⟨z0, z1, z2, z3, z4, z5⟩ := f1.out.cells))
 refine bodyPost_ret (v := .agg #[.int .i64 nk1, .string nt1, .int .i64 na1, .int .i64 ne1, .slice nao1 nks1.length ncap1]) (by simp [results, Tryz.results160, go_sem, z0, z1, z2, z3, z4] <;> rfl) rfl ?_
 rw [hm.out]
 exact f1.out.pass (kept5 _ _ _ _ _ _ _)
end Go.Proofs.YthggagophcnkfaaGreatDoor.py
namespace Go.Proofs.YthggagophcnkfaaGreatDoor.py
open Go.RowKit Go.Proofs.YthggagophcnkfaaGreatDoor.agg Go.Proofs.YthggagophcnkfaaGreatDoor.sx Go.Proofs.YthggagophcnkfaaGreatDoor.px
set_option linter.unusedSimpArgs false
set_option linter.unusedVariables false
set_option maxRecDepth 100000 in
set_option maxHeartbeats 2000000 in
theorem parameter_walk_1 {w : World} {P : Nat} {tv lv : Value} {S : Src} {s : Ps} (h : PIn w P tv lv S s) (c1 : Hid (isB S.A [(ByteArray.mk #[58])] (name S.A s).2 = true)) :
 Calls Tryz.prog 182 #[.pointer (some ⟨P, 0, none⟩)] w (NEnd w P tv lv S s (parameter S.A s)) := by
 have f0 := Lib.hid (FIn.start h)
 have cat := h.cell.2.2.1
 have cla := h.cell.2.2.2.1
 have hP := lt_of_block h.box
 have hm0 : parameter S.A s = (node 24 s.at_ ((name S.A s).1) [(named S.A (next S.A (name S.A s).2).2).1] (named S.A (next S.A (name S.A s).2).2).2, (named S.A (next S.A (name S.A s).2).2).2) := by
  unfold parameter
  simp only [c1.out, if_true, if_false, Bool.false_eq_true, Bool.true_eq_false, reduceIte, Nat.reduceEqDiff]
 have hm := Lib.hid hm0
 clear hm0
 generalize parameter S.A s = m at *
 have h1 := Lib.hid (fun (W : World) (lvq : Value) (q : PIn W P tv lvq S s) => name_walk q)
 generalize (name S.A s).1 = x1 at *
 generalize (name S.A s).2 = s1 at *
 have h2 := Lib.hid (fun (W : World) (lvq : Value) (q : PIn W P tv lvq S s1) => opt_yes q (ByteArray.mk #[58]) c1.out)
 generalize (next S.A s1).2 = s2 at *
 have h3 := Lib.hid (fun (W : World) (lvq : Value) (q : PIn W P tv lvq S s2) => named_walk q)
 generalize named S.A s2 = k3 at *
 obtain ⟨kk3, s3⟩ := k3
 clear h
 go_enter Tryz.func182, Tryz.ntmps182
 go_upto_region 1 with fail
 go_region
 go_wp2_with (first
  | (go_at_call 38; refine ((FIn.over (nks' := nks3) f3.out 1).callNode (by repeat (first | exact Below.refl _ _ | apply bl_drew | apply bl_alloc)) 24 s.at_ (Nat.le_refl _) x1 rfl (by simp) rfl (by simp)).mono ?_; rintro e w4 ⟨rfl, g⟩; have f4 := Lib.hid g; clear g; obtain ⟨z0, z1, z2, z3, z4, z5⟩ := f4.out.fin.cells)
  | (go_at_call 81; refine (f2.out.callN (by repeat (first | exact Below.refl _ _ | apply bl_drew | apply bl_alloc)) (h3.out _ _)).mono ?_; rintro e w3 ⟨lv3, nk3, nt3, na3, ne3, nao3, ncap3, nks3, rfl, g⟩; have f3 := Lib.hid g; clear g; obtain ⟨y00, y01, y02, y03, y04, y05, y06⟩ := f3.out.bx 0 rfl)
  | (go_at_call 96; refine ((f1.out.box1 (k := 0) (t := ⟨#[]⟩) (a := 0) (e := 0) (v := .slice none 0 0) [] rfl).callS (by repeat (first | exact Below.refl _ _ | apply bl_drew | apply bl_alloc)) (h2.out _ _)).mono ?_; rintro e w2 ⟨lv2, rfl, g⟩; have f2 := Lib.hid g; clear g)
  | (go_at_call 80; refine (f0.out.callS (by repeat (first | exact Below.refl _ _ | apply bl_drew | apply bl_alloc)) (h1.out _ _)).mono ?_; rintro e w1 ⟨lv1, rfl, g⟩; have f1 := Lib.hid g; clear g))
 refine bodyPost_ret (v := .agg #[.int .i64 24, .string x1, .int .i64 (S.at_ s.at_ s3.at_), .int .i64 (S.last s3.at_), .slice _ 1 1]) (by simp [results, Tryz.results182, go_sem, z0, z1, z2, z3, z4] <;> rfl) rfl ?_
 rw [hm.out]
 exact f4.out.end_ (kept5 _ _ _ _ _ _ _) 24 s.at_ x1
set_option maxRecDepth 100000 in
set_option maxHeartbeats 2000000 in
theorem parameter_walk_2 {w : World} {P : Nat} {tv lv : Value} {S : Src} {s : Ps} (h : PIn w P tv lv S s) (c1 : Hid (isB S.A [(ByteArray.mk #[58])] (name S.A s).2 = false)) (c2 : Hid (isB S.A [(ByteArray.mk #[105, 110])] (name S.A s).2 = true)) :
 Calls Tryz.prog 182 #[.pointer (some ⟨P, 0, none⟩)] w (NEnd w P tv lv S s (parameter S.A s)) := by
 have f0 := Lib.hid (FIn.start h)
 have cat := h.cell.2.2.1
 have cla := h.cell.2.2.2.1
 have hP := lt_of_block h.box
 have hm0 : parameter S.A s = (node 24 s.at_ ((name S.A s).1) [(limits S.A (next S.A (name S.A s).2).2).1] (limits S.A (next S.A (name S.A s).2).2).2, (limits S.A (next S.A (name S.A s).2).2).2) := by
  unfold parameter
  simp only [c1.out, c2.out, if_true, if_false, Bool.false_eq_true, Bool.true_eq_false, reduceIte, Nat.reduceEqDiff]
 have hm := Lib.hid hm0
 clear hm0
 generalize parameter S.A s = m at *
 have h1 := Lib.hid (fun (W : World) (lvq : Value) (q : PIn W P tv lvq S s) => name_walk q)
 generalize (name S.A s).1 = x1 at *
 generalize (name S.A s).2 = s1 at *
 have h2 := Lib.hid (fun (W : World) (lvq : Value) (q : PIn W P tv lvq S s1) => opt_no q (ByteArray.mk #[58]) c1.out)
 have h3 := Lib.hid (fun (W : World) (lvq : Value) (q : PIn W P tv lvq S s1) => opt_yes q (ByteArray.mk #[105, 110]) c2.out)
 generalize (next S.A s1).2 = s3 at *
 have h4 := Lib.hid (fun (W : World) (lvq : Value) (q : PIn W P tv lvq S s3) => limits_walk q)
 generalize limits S.A s3 = k4 at *
 obtain ⟨kk4, s4⟩ := k4
 clear h
 go_enter Tryz.func182, Tryz.ntmps182
 go_upto_region 1 with fail
 go_region
 go_wp2_with (first
  | (go_at_call 38; refine ((FIn.over (nks' := nks4) f4.out 1).callNode (by repeat (first | exact Below.refl _ _ | apply bl_drew | apply bl_alloc)) 24 s.at_ (Nat.le_refl _) x1 rfl (by simp) rfl (by simp)).mono ?_; rintro e w5 ⟨rfl, g⟩; have f5 := Lib.hid g; clear g; obtain ⟨z0, z1, z2, z3, z4, z5⟩ := f5.out.fin.cells)
  | (go_at_call 84; refine (f3.out.callN (by repeat (first | exact Below.refl _ _ | apply bl_drew | apply bl_alloc)) (h4.out _ _)).mono ?_; rintro e w4 ⟨lv4, nk4, nt4, na4, ne4, nao4, ncap4, nks4, rfl, g⟩; have f4 := Lib.hid g; clear g; obtain ⟨y00, y01, y02, y03, y04, y05, y06⟩ := f4.out.bx 0 rfl)
  | (go_at_call 96; refine (f2.out.callS (by repeat (first | exact Below.refl _ _ | apply bl_drew | apply bl_alloc)) (h3.out _ _)).mono ?_; rintro e w3 ⟨lv3, rfl, g⟩; have f3 := Lib.hid g; clear g)
  | (go_at_call 96; refine ((f1.out.box1 (k := 0) (t := ⟨#[]⟩) (a := 0) (e := 0) (v := .slice none 0 0) [] rfl).callS (by repeat (first | exact Below.refl _ _ | apply bl_drew | apply bl_alloc)) (h2.out _ _)).mono ?_; rintro e w2 ⟨lv2, rfl, g⟩; have f2 := Lib.hid g; clear g)
  | (go_at_call 80; refine (f0.out.callS (by repeat (first | exact Below.refl _ _ | apply bl_drew | apply bl_alloc)) (h1.out _ _)).mono ?_; rintro e w1 ⟨lv1, rfl, g⟩; have f1 := Lib.hid g; clear g))
 refine bodyPost_ret (v := .agg #[.int .i64 24, .string x1, .int .i64 (S.at_ s.at_ s4.at_), .int .i64 (S.last s4.at_), .slice _ 1 1]) (by simp [results, Tryz.results182, go_sem, z0, z1, z2, z3, z4] <;> rfl) rfl ?_
 rw [hm.out]
 exact f5.out.end_ (kept5 _ _ _ _ _ _ _) 24 s.at_ x1
set_option maxRecDepth 100000 in
set_option maxHeartbeats 2000000 in
theorem parameter_walk_3 {w : World} {P : Nat} {tv lv : Value} {S : Src} {s : Ps} (h : PIn w P tv lv S s) (c1 : Hid (isB S.A [(ByteArray.mk #[58])] (name S.A s).2 = false)) (c2 : Hid (isB S.A [(ByteArray.mk #[105, 110])] (name S.A s).2 = false)) :
 Calls Tryz.prog 182 #[.pointer (some ⟨P, 0, none⟩)] w (NEnd w P tv lv S s (parameter S.A s)) := by
 have f0 := Lib.hid (FIn.start h)
 have cat := h.cell.2.2.1
 have cla := h.cell.2.2.2.1
 have hP := lt_of_block h.box
 have hm0 : parameter S.A s = (node 24 s.at_ ((name S.A s).1) [(missing 0 (report 4 (ByteArray.mk #[58]) (name S.A s).2))] (report 4 (ByteArray.mk #[58]) (name S.A s).2), (report 4 (ByteArray.mk #[58]) (name S.A s).2)) := by
  unfold parameter
  simp only [c1.out, c2.out, if_true, if_false, Bool.false_eq_true, Bool.true_eq_false, reduceIte, Nat.reduceEqDiff]
 have hm := Lib.hid hm0
 clear hm0
 generalize parameter S.A s = m at *
 have h1 := Lib.hid (fun (W : World) (lvq : Value) (q : PIn W P tv lvq S s) => name_walk q)
 generalize (name S.A s).1 = x1 at *
 generalize (name S.A s).2 = s1 at *
 have h2 := Lib.hid (fun (W : World) (lvq : Value) (q : PIn W P tv lvq S s1) => opt_no q (ByteArray.mk #[58]) c1.out)
 have h3 := Lib.hid (fun (W : World) (lvq : Value) (q : PIn W P tv lvq S s1) => opt_no q (ByteArray.mk #[105, 110]) c2.out)
 have h4 := Lib.hid (fun (W : World) (lvq : Value) (q : PIn W P tv lvq S s1) => report_walk q 4 (ByteArray.mk #[58]) (rp4 (by decide)))
 generalize report 4 (ByteArray.mk #[58]) s1 = s4 at *
 have h5 := Lib.hid (fun (W : World) (lvq : Value) (q : PIn W P tv lvq S s4) => missing_walk q 0)
 clear h
 go_enter Tryz.func182, Tryz.ntmps182
 go_upto_region 1 with fail
 go_region
 go_wp2_with (first
  | (go_at_call 38; refine ((FIn.over (nks' := nks5) f5.out 1).callNode (by repeat (first | exact Below.refl _ _ | apply bl_drew | apply bl_alloc)) 24 s.at_ (Nat.le_refl _) x1 rfl (by simp) rfl (by simp)).mono ?_; rintro e w6 ⟨rfl, g⟩; have f6 := Lib.hid g; clear g; obtain ⟨z0, z1, z2, z3, z4, z5⟩ := f6.out.fin.cells)
  | (go_at_call 136; refine (f4.out.callN (by repeat (first | exact Below.refl _ _ | apply bl_drew | apply bl_alloc)) (h5.out _ _)).mono ?_; rintro e w5 ⟨lv5, nk5, nt5, na5, ne5, nao5, ncap5, nks5, rfl, g⟩; have f5 := Lib.hid g; clear g; obtain ⟨y00, y01, y02, y03, y04, y05, y06⟩ := f5.out.bx 0 rfl)
  | (go_at_call 36; refine (f3.out.callS (by repeat (first | exact Below.refl _ _ | apply bl_drew | apply bl_alloc)) (h4.out _ _)).mono ?_; rintro e w4 ⟨lv4, rfl, g⟩; have f4 := Lib.hid g; clear g)
  | (go_at_call 96; refine (f2.out.callS (by repeat (first | exact Below.refl _ _ | apply bl_drew | apply bl_alloc)) (h3.out _ _)).mono ?_; rintro e w3 ⟨lv3, rfl, g⟩; have f3 := Lib.hid g; clear g)
  | (go_at_call 96; refine ((f1.out.box1 (k := 0) (t := ⟨#[]⟩) (a := 0) (e := 0) (v := .slice none 0 0) [] rfl).callS (by repeat (first | exact Below.refl _ _ | apply bl_drew | apply bl_alloc)) (h2.out _ _)).mono ?_; rintro e w2 ⟨lv2, rfl, g⟩; have f2 := Lib.hid g; clear g)
  | (go_at_call 80; refine (f0.out.callS (by repeat (first | exact Below.refl _ _ | apply bl_drew | apply bl_alloc)) (h1.out _ _)).mono ?_; rintro e w1 ⟨lv1, rfl, g⟩; have f1 := Lib.hid g; clear g))
 refine bodyPost_ret (v := .agg #[.int .i64 24, .string x1, .int .i64 (S.at_ s.at_ s4.at_), .int .i64 (S.last s4.at_), .slice _ 1 1]) (by simp [results, Tryz.results182, go_sem, z0, z1, z2, z3, z4] <;> rfl) rfl ?_
 rw [hm.out]
 exact f6.out.end_ (kept5 _ _ _ _ _ _ _) 24 s.at_ x1
theorem parameter_walk {w : World} {P : Nat} {tv lv : Value} {S : Src} {s : Ps} (h : PIn w P tv lv S s) :
 Calls Tryz.prog 182 #[.pointer (some ⟨P, 0, none⟩)] w (NEnd w P tv lv S s (parameter S.A s)) := by
 cases q1 : isB S.A [(ByteArray.mk #[58])] (name S.A s).2 with
 | true =>
  exact parameter_walk_1 h (Lib.hid q1)
 | false =>
  cases q2 : isB S.A [(ByteArray.mk #[105, 110])] (name S.A s).2 with
  | true =>
   exact parameter_walk_2 h (Lib.hid q1) (Lib.hid q2)
  | false =>
   exact parameter_walk_3 h (Lib.hid q1) (Lib.hid q2)
def elParameter (A : List Tk) : M PT := parameter A
set_option maxRecDepth 100000 in
set_option maxHeartbeats 2000000 in
theorem el_parameter {w : World} {P : Nat} {tv lv : Value} {S : Src} {s : Ps} (h : PIn w P tv lv S s) :
 Calls Tryz.prog 160 #[.pointer (some ⟨P, 0, none⟩), .int .i64 3] w (NEnd w P tv lv S s (elParameter S.A s)) := by
 have f0 := Lib.hid (FIn.start h)
 have hP := lt_of_block h.box
 have hm : Hid (elParameter S.A s = ((parameter S.A s).1, (parameter S.A s).2)) := rfl
 generalize elParameter S.A s = m at *
 have h1 := Lib.hid (fun (W : World) (lvq : Value) (q : PIn W P tv lvq S s) => parameter_walk q)
 generalize parameter S.A s = k1 at *
 obtain ⟨kk1, s1⟩ := k1
 clear h
 go_enter Tryz.func160, Tryz.ntmps160
 go_wp2_with (first
  | (go_at_call 182; refine (f0.out.callN (by repeat (first | exact Below.refl _ _ | apply bl_drew | apply bl_alloc)) (h1.out _ _)).mono ?_; rintro e w1 ⟨lv1, nk1, nt1, na1, ne1, nao1, ncap1, nks1, rfl, g⟩; have f1 := Lib.hid g; clear g; obtain ⟨z0, z1, z2, z3, z4, z5⟩ := f1.out.cells))
 refine bodyPost_ret (v := .agg #[.int .i64 nk1, .string nt1, .int .i64 na1, .int .i64 ne1, .slice nao1 nks1.length ncap1]) (by simp [results, Tryz.results160, go_sem, z0, z1, z2, z3, z4] <;> rfl) rfl ?_
 rw [hm.out]
 exact f1.out.pass (kept5 _ _ _ _ _ _ _)
end Go.Proofs.YthggagophcnkfaaGreatDoor.py
