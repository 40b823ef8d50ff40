/- The walks of the parser's node and missing. -/
import Derived.Test.YthggagophcnkfaaGreatDoorM5
namespace Go.Proofs.YthggagophcnkfaaGreatDoor.px
open Go.RowKit Go.Proofs.YthggagophcnkfaaGreatDoor.agg Go.Proofs.YthggagophcnkfaaGreatDoor.sx
set_option linter.unusedSimpArgs false
set_option linter.unusedVariables false
set_option maxRecDepth 100000 in
set_option maxHeartbeats 1000000 in
theorem node_walk {w : World} {P : Nat} {tv lv : Value} {S : Src} {s : Ps} (h : PIn w P tv lv S s) (kind : Int) (first : Nat) (text : ByteArray) (ao : Option Addr) (len cap : Nat) (hf : first ≤ s.at_) :
 Calls Tryz.prog 63 #[.pointer (some ⟨P, 0, none⟩), .int .i64 kind, .int .i64 first, .string text, .slice ao len cap] w fun e w' => e = .returned (.agg #[.int .i64 kind, .string text, .int .i64 (S.at_ first s.at_), .int .i64 (S.last s.at_), .slice ao len cap]) ∧ Below w.heap.size w w' := by
 obtain ⟨c0, c1, c2, c3, c4, c5, c6⟩ := h.cell
 have hP := lt_of_block h.box
 have hat : s.at_ ≤ 5000 := by have h1 := h.sok.lt; have h2 := h.ok.len; omega
 obtain ⟨b, o, tcap, rfl, hb, hc⟩ := h.toks
 have hlt := h.sok.lt
 by_cases hfa : first < s.at_
 ·have hfL : first < S.L.length := by omega
  have k2 : w.cell? ⟨b, o + first * 4 + 2, none⟩ = some (.int .i64 S.L[first].at_) := hc first hfL 2 _ rfl
  have hna : S.at_ first s.at_ = (S.L[first].at_ : Int) := by
   unfold Src.at_
   rw [if_pos hfa, List.getD_eq_getElem?_getD, List.getElem?_eq_getElem hfL]
   rfl
  rw [hna]
  clear hna hc h c0 c4 c5 c6 hlt hf
  generalize S.L[first].at_ = fa at *
  generalize S.last s.at_ = la at *
  generalize s.at_ = i at *
  have hfi : (first : Int) < i := by omega
  have hd : decide (first < i) = true := decide_eq_true hfa
  go_enter Tryz.func63, Tryz.ntmps63
  go_upto_region 1 with fail
  go_region
  all_goals
   go_wp2
   refine bodyPost_ret (v := .agg #[.int .i64 kind, .string text, .int .i64 fa, .int .i64 la, .slice ao len cap]) (by simp [results, Tryz.results63, go_sem]) rfl ⟨rfl, ?_⟩
   repeat (first | exact Below.refl _ _ | apply Below.drew | refine Below.setCell ?_ (by simp) _ | refine Below.alloc ?_ (by simp) _)
 ·have hna : S.at_ first s.at_ = S.last s.at_ := by unfold Src.at_; rw [if_neg hfa]
  rw [hna]
  clear hna hc h c0 c1 c4 c5 c6
  generalize S.last s.at_ = la at *
  generalize s.at_ = i at *
  obtain rfl : first = i := by omega
  go_enter Tryz.func63, Tryz.ntmps63
  go_upto_region 1 with fail
  go_region
  all_goals
   go_wp2
   refine bodyPost_ret (v := .agg #[.int .i64 kind, .string text, .int .i64 la, .int .i64 la, .slice ao len cap]) (by simp [results, Tryz.results63, go_sem]) rfl ⟨rfl, ?_⟩
   repeat (first | exact Below.refl _ _ | apply Below.drew | refine Below.setCell ?_ (by simp) _ | refine Below.alloc ?_ (by simp) _)
abbrev zbox : Obj := .cells #[.int .i64 0, .string ⟨#[]⟩, .int .i64 0, .int .i64 0, .slice none 0 0] 25 (0, 0)
abbrev Kds := List (Nd × PT)
abbrev Bxs := List (Nat × Nd)
def NGB (Z P : Nat) (lv : Value) (bs : Bxs) (b : Nat) : Prop := Z < b ∧ ¬ pfoot P lv b ∧ ∀ p ∈ bs, p.1 ≠ b
structure FIn (w0 : World) (Z : Nat) (P : Nat) (tv lv0 : Value) (S : Src) (s0 : Ps) (w : World) (lv : Value) (s : Ps) (ks : Kds) (bs : Bxs) : Prop where
 pin : PIn w P tv lv S s
 kept : Kept (pfoot P lv0) w0 w
 fresh : Fresh w0 lv0 lv
 box : w.heap[Z]? = some zbox
 hZ : Z = w0.heap.size
 far : ¬ pfoot P lv Z
 mono : s0.at_ ≤ s.at_
 tlt : ∀ b, tokBlock tv = some b → b < Z
 kids : ∀ p ∈ ks, NodeIn (NGB Z P lv bs) w p.1 ∧ p.1.tr = S.tree p.2
 boxes : ∀ p ∈ bs, w.heap[p.1]? = some (.cells p.2.cells 25 (0, 0)) ∧ ¬ pfoot P lv p.1 ∧ Z < p.1
 dist : bs.Pairwise fun p q => p.1 < q.1
section
variable {w0 : World} {Z : Nat} {P : Nat} {tv lv0 : Value} {S : Src} {s0 : Ps} {w w' : World} {lv lv' : Value} {s s' : Ps} {ks : Kds} {bs : Bxs}
theorem FIn.start {w : World} (h : PIn w P tv lv S s) : FIn w w.heap.size P tv lv S s (w.alloc (.cells #[.int .i64 0, .string ⟨#[]⟩, .int .i64 0, .int .i64 0, .slice none 0 0] 25)) lv s [] [] :=
 ⟨h.below ((Below.refl _ w).alloc (Nat.le_refl _) _), .alloc _ _, fresh_same _ _, heap_alloc_new _ _, rfl, fun e => by have := h.lt _ e; omega, Nat.le_refl _, h.toks.lt, by simp, by simp, .nil⟩
theorem FIn.below (h : FIn w0 Z P tv lv0 S s0 w lv s ks bs) (hb : Below w.heap.size w w') : FIn w0 Z P tv lv0 S s0 w' lv s ks bs :=
 ⟨h.pin.below hb, h.kept.trans (.of_below hb), h.fresh, (hb.block Z (lt_of_block h.box)).trans h.box, h.hZ, h.far, h.mono, h.tlt, fun p hp => ⟨(h.kids p hp).1.later hb, (h.kids p hp).2⟩, fun p hp => ⟨(hb.block p.1 (lt_of_block (h.boxes p hp).1)).trans (h.boxes p hp).1, (h.boxes p hp).2⟩, h.dist⟩
theorem FIn.send (h : FIn w0 Z P tv lv0 S s0 w lv s ks bs) (hp : PIn w' P tv lv' S s') (hk : Kept (pfoot P lv) w w') (hf : Fresh w lv lv') (hm : s.at_ ≤ s'.at_) : FIn w0 Z P tv lv0 S s0 w' lv' s' ks bs :=
 ⟨hp, (step2 h.kept h.fresh hk hf).1, (step2 h.kept h.fresh hk hf).2, (hk.block Z (lt_of_block h.box) h.far).trans h.box, h.hZ, pfoot_fresh hf (lt_of_block h.box) h.far, Nat.le_trans h.mono hm, h.tlt, fun p hq => ⟨(h.kids p hq).1.same (fun b hb hn => hk.block b hb hn.2.1) hk.size (fun b hb hn => ⟨hn.1, pfoot_fresh hf hb hn.2.1, hn.2.2⟩), (h.kids p hq).2⟩, fun p hp => ⟨(hk.block p.1 (lt_of_block (h.boxes p hp).1) (h.boxes p hp).2.1).trans (h.boxes p hp).1, pfoot_fresh hf (lt_of_block (h.boxes p hp).1) (h.boxes p hp).2.1, (h.boxes p hp).2.2⟩, h.dist⟩
theorem FIn.zlt (h : FIn w0 Z P tv lv0 S s0 w lv s ks bs) : Z < w.heap.size := lt_of_block h.box
theorem FIn.nsend (h : FIn w0 Z P tv lv0 S s0 w lv s ks bs) {n : Nd} {t : PT} (ht : n.tr = S.tree t) (hn : NodeIn (fun b => w.heap.size ≤ b ∧ ¬ pfoot P lv' b) w' n) (hp : PIn w' P tv lv' S s') (hk : Kept (pfoot P lv) w w') (hf : Fresh w lv lv') (hm : s.at_ ≤ s'.at_) : FIn w0 Z P tv lv0 S s0 w' lv' s' (ks ++ [(n, t)]) bs :=
 have f := h.send hp hk hf hm
 ⟨f.pin, f.kept, f.fresh, f.box, f.hZ, f.far, f.mono, f.tlt, fun p hq => by
  rcases List.mem_append.1 hq with hq | hq
  ·exact f.kids p hq
  ·rw [List.mem_singleton.1 hq]
   exact ⟨hn.mono (fun b _ hq => ⟨Nat.lt_of_lt_of_le h.zlt hq.1, hq.2, fun q hq2 e => by have := lt_of_block (h.boxes q hq2).1; have := hq.1; omega⟩), ht⟩, f.boxes, f.dist⟩
theorem FIn.box1 {k : Int} {t : ByteArray} {a e : Int} {v : Value} (h : FIn w0 Z P tv lv0 S s0 w lv s ks bs) (nks : List Nd) {b : Nat} (hb : b = w.heap.size) : FIn w0 Z P tv lv0 S s0 (w.alloc (.cells #[.int .i64 k, .string t, .int .i64 a, .int .i64 e, v] 25)) lv s ks (bs ++ [(b, Nd.mk k t a e v nks)]) := by
 subst hb
 have f := h.below ((Below.refl _ w).alloc (Nat.le_refl _) (.cells #[.int .i64 k, .string t, .int .i64 a, .int .i64 e, v] 25))
 refine ⟨f.pin, f.kept, f.fresh, f.box, f.hZ, f.far, f.mono, f.tlt, fun p hp => ⟨((h.kids p hp).1.mono (H := NGB Z P lv (bs ++ [(w.heap.size, Nd.mk k t a e v nks)])) (fun b hb hq => ⟨hq.1, hq.2.1, fun q hq2 => ?_⟩)).later ((Below.refl _ w).alloc (Nat.le_refl _) _), (h.kids p hp).2⟩, fun p hp => ?_, List.pairwise_append.2 ⟨h.dist, List.pairwise_singleton _ _, fun p hp q hq => by rw [List.mem_singleton.1 hq]; exact lt_of_block (h.boxes p hp).1⟩⟩
 ·rcases List.mem_append.1 hq2 with hq2 | hq2
  ·exact hq.2.2 q hq2
  ·rw [List.mem_singleton.1 hq2]
   simp only
   omega
 rcases List.mem_append.1 hp with hp | hp
 ·exact f.boxes p hp
 ·rw [List.mem_singleton.1 hp]
  exact ⟨heap_alloc_new _ _, fun e2 => by have := h.pin.lt _ e2; omega, h.zlt⟩
theorem FIn.bx {k : Int} {t : ByteArray} {a e : Int} {v : Value} {nks : List Nd} {b : Nat} (h : FIn w0 Z P tv lv0 S s0 w lv s ks bs) (i : Nat) (hi : bs[i]? = some (b, Nd.mk k t a e v nks)) :
 w.cell? ⟨b, 0, none⟩ = some (.int .i64 k) ∧ w.cell? ⟨b, 1, none⟩ = some (.string t) ∧ w.cell? ⟨b, 2, none⟩ = some (.int .i64 a) ∧ w.cell? ⟨b, 3, none⟩ = some (.int .i64 e) ∧ w.cell? ⟨b, 4, none⟩ = some v ∧ b < w.heap.size ∧ ∀ i, w.frozen? ⟨b, i, none⟩ = false := by
 have hb := (h.boxes _ (List.mem_of_getElem? hi)).1
 refine ⟨?_, ?_, ?_, ?_, ?_, lt_of_block hb, fun i => ?_⟩ <;> simp [World.cell?, World.frozen?, hb, Nd.cells, Nd.kind, Nd.text, Nd.fr, Nd.to, Nd.kv]
theorem FIn.over {k k' : Int} {t t' : ByteArray} {a e a' e' : Int} {v v' : Value} {nks nks' : List Nd} {b : Nat} (h : FIn w0 Z P tv lv0 S s0 w lv s ks (bs ++ [(b, Nd.mk k t a e v nks)])) (j : Nat) :
 FIn w0 Z P tv lv0 S s0 (((((w.setCell ⟨b, 0, none⟩ (.int .i64 k')).setCell ⟨b, 1, none⟩ (.string t')).setCell ⟨b, 2, none⟩ (.int .i64 a')).setCell ⟨b, 3, none⟩ (.int .i64 e')).setCell ⟨b, 4, none⟩ v') lv s (ks.eraseIdx j) (bs ++ [(b, Nd.mk k' t' a' e' v' nks')]) := by
 have hb := h.boxes _ (List.mem_append_right _ (List.mem_singleton.2 rfl))
 obtain ⟨b1, b2, b3⟩ := hb
 have hpw := List.pairwise_append.1 h.dist
 have hd : ∀ p ∈ bs, p.1 ≠ b := fun p hp e => by have := hpw.2.2 p hp _ (List.mem_singleton.2 rfl); simp only at this; omega
 have hks : ∀ p ∈ ks.eraseIdx j, p ∈ ks := fun p hp => List.mem_of_mem_eraseIdx hp
 have hK : Kept (fun i => i = b) w (((((w.setCell ⟨b, 0, none⟩ (.int .i64 k')).setCell ⟨b, 1, none⟩ (.string t')).setCell ⟨b, 2, none⟩ (.int .i64 a')).setCell ⟨b, 3, none⟩ (.int .i64 e')).setCell ⟨b, 4, none⟩ v') :=
  ((((Kept.setCell (F := fun i => i = b) w (a := ⟨b, 0, none⟩) rfl _).trans (Kept.setCell (F := fun i => i = b) _ (a := ⟨b, 1, none⟩) rfl _)).trans (Kept.setCell (F := fun i => i = b) _ (a := ⟨b, 2, none⟩) rfl _)).trans (Kept.setCell (F := fun i => i = b) _ (a := ⟨b, 3, none⟩) rfl _)).trans (Kept.setCell (F := fun i => i = b) _ (a := ⟨b, 4, none⟩) rfl _)
 have hT : tokBlock tv ≠ some b := fun e2 => by have := h.tlt b e2; omega
 have hZ := h.hZ
 refine ⟨h.pin.same hK (fun i hi => by rw [hi]; exact ⟨b2, hT⟩), h.kept.trans' hK (fun i hi e2 => by omega), h.fresh, (hK.block Z (lt_of_block h.box) (by omega)).trans h.box, h.hZ, h.far, h.mono, h.tlt, fun p hp => ?_, fun p hp => ?_, List.pairwise_append.2 ⟨hpw.1, List.pairwise_singleton _ _, fun p hp q hq => by rw [List.mem_singleton.1 hq]; exact hpw.2.2 p hp (b, Nd.mk k t a e v nks) (List.mem_singleton.2 rfl)⟩⟩
 ·have h1 := h.kids p (hks p hp)
  refine ⟨h1.1.same (fun i hi hq => hK.block i hi (fun e2 => hq.2.2 (b, Nd.mk k t a e v nks) (List.mem_append_right _ (List.mem_singleton.2 rfl)) e2.symm)) hK.size (fun i hi hq => ⟨hq.1, hq.2.1, fun q hq2 => ?_⟩), h1.2⟩
  rcases List.mem_append.1 hq2 with hq2 | hq2
  ·exact hq.2.2 q (List.mem_append_left _ hq2)
  ·rw [List.mem_singleton.1 hq2]
   exact hq.2.2 (b, Nd.mk k t a e v nks) (List.mem_append_right _ (List.mem_singleton.2 rfl))
 ·rcases List.mem_append.1 hp with hp | hp
  ·have h1 := h.boxes p (List.mem_append_left _ hp)
   exact ⟨(hK.block p.1 (lt_of_block h1.1) (hd p hp)).trans h1.1, h1.2⟩
  ·rw [List.mem_singleton.1 hp]
   refine ⟨?_, b2, b3⟩
   rw [heap_setCell_same _ _ _ _ _ _ (heap_setCell_same _ _ _ _ _ _ (heap_setCell_same _ _ _ _ _ _ (heap_setCell_same _ _ _ _ _ _ (heap_setCell_same _ _ _ _ _ _ b1))))]
   exact rfl
theorem FIn.cells (h : FIn w0 Z P tv lv0 S s0 w lv s ks bs) :
 w.cell? ⟨Z, 0, none⟩ = some (.int .i64 0) ∧ w.cell? ⟨Z, 1, none⟩ = some (.string ⟨#[]⟩) ∧ w.cell? ⟨Z, 2, none⟩ = some (.int .i64 0) ∧ w.cell? ⟨Z, 3, none⟩ = some (.int .i64 0) ∧ w.cell? ⟨Z, 4, none⟩ = some (.slice none 0 0) ∧ ∀ i, w.frozen? ⟨Z, i, none⟩ = false := by
 have hb := h.box
 refine ⟨?_, ?_, ?_, ?_, ?_, fun i => ?_⟩ <;> simp [World.cell?, World.frozen?, hb, zbox]
theorem FIn.done (h : FIn w0 Z P tv lv0 S s0 w lv s ks bs) (hk : Kept (fun b => b = Z) w w') (n : Nd) (t : PT) (ht : n.tr = S.tree t) (hn : NodeIn (NG Z P lv) w n) (v : Value) (hv : v = .agg n.cells) :
 NEnd w0 P tv lv0 S s0 (t, s) (.returned v) w' := by
 have hZ := h.hZ
 have hlt := h.zlt
 have hT : ∀ b, tokBlock tv = some b → b ≠ Z := fun b hb e => by have := h.tlt b hb; omega
 obtain ⟨k, te, a, e, kv, kk⟩ := n
 obtain ⟨⟨ao, cap, hkv, _⟩, _⟩ := hn.at_
 have hkv' : kv = .slice ao kk.length cap := hkv
 subst hkv'
 refine ⟨lv, k, te, a, e, ao, cap, kk, by rw [hv]; rfl, ht, ?_, h.pin.same hk (fun b hb => ⟨fun e => h.far (hb ▸ e), fun e => hT b e hb⟩), h.kept.trans' hk (fun i hi e => by omega), h.fresh, h.mono⟩
 exact hn.same (fun b hb hg => hk.block b hb (fun e => by have := hg.1; omega)) hk.size (fun b hb hg => ⟨by have := hg.1; omega, hg.2⟩)
end
theorem row_get (ns : List Nd) (i : Nat) (h : i < ns.length) (j : Nat) (u : Value) (hu : (ns[i].cells).toList[j]? = some u) : (ns.flatMap fun n => n.cells.toList)[i * 5 + j]? = some u := by
 induction ns generalizing i with
 | nil => simp at h
 | cons a l ih =>
  rw [List.flatMap_cons]
  have hl : a.cells.toList.length = 5 := rfl
  cases i with
  | zero =>
   have hj : j < 5 := by
    have := (List.getElem?_eq_some_iff.1 hu).1
    exact this
   rw [Nat.zero_mul, Nat.zero_add, List.getElem?_append_left (by omega)]
   exact hu
  | succ i =>
   rw [List.getElem?_append_right (by omega), hl]
   have e : (i + 1) * 5 + j - 5 = i * 5 + j := by omega
   rw [e]
   exact ih i (by simpa using h) (by simpa using hu)
theorem kids_new {G : Nat → Prop} (W : World) (ns : List Nd) (n : Nat) (hn : n = ns.length) (hl : n ≤ 140737488355328) (hG : G W.heap.size) (cs : Array Value) (hc : cs = (ns.flatMap fun n => n.cells.toList).toArray) : KidsAt G (W.alloc (.cells cs 25)) (.slice (some ⟨W.heap.size, 0, none⟩) n n) ns := by
 subst hn hc
 refine ⟨_, _, rfl, hl, fun _ => ⟨W.heap.size, 0, rfl, hG, by simp, fun i hi j u hu => ?_⟩⟩
 rw [cell_of_row _ _ _ _ _ _ (heap_alloc_new W _)]
 have := row_get ns i hi j u hu
 simpa using this
theorem kids_none {G : Nat → Prop} (w : World) : KidsAt G w (.slice none 0 0) [] := ⟨none, 0, rfl, by simp, by simp⟩
theorem kept5 (w : World) (Z : Nat) (a b c d e : Value) : Kept (fun b => b = Z) w (((((w.setCell ⟨Z, 0, none⟩ a).setCell ⟨Z, 1, none⟩ b).setCell ⟨Z, 2, none⟩ c).setCell ⟨Z, 3, none⟩ d).setCell ⟨Z, 4, none⟩ e) :=
 ((((Kept.setCell (F := fun b => b = Z) w (a := ⟨Z, 0, none⟩) rfl a).trans (Kept.setCell (F := fun b => b = Z) _ (a := ⟨Z, 1, none⟩) rfl b)).trans (Kept.setCell (F := fun b => b = Z) _ (a := ⟨Z, 2, none⟩) rfl c)).trans (Kept.setCell (F := fun b => b = Z) _ (a := ⟨Z, 3, none⟩) rfl d)).trans (Kept.setCell (F := fun b => b = Z) _ (a := ⟨Z, 4, none⟩) rfl e)
theorem leaf_in {G : Nat → Prop} {w : World} (k : Int) (t : ByteArray) (a e : Int) : NodeIn G w (.mk k t a e (.slice none 0 0) []) := .mk ⟨none, 0, rfl, by simp, by simp⟩ (by simp)
set_option maxRecDepth 100000 in
set_option maxHeartbeats 1000000 in
theorem missing_walk {w : World} {P : Nat} {tv lv : Value} {S : Src} {s : Ps} (h : PIn w P tv lv S s) (kind : Int) :
 Calls Tryz.prog 122 #[.pointer (some ⟨P, 0, none⟩), .int .i64 kind] w (NEnd w P tv lv S s (missing kind s, s)) := by
 have f0 := Lib.hid (FIn.start h)
 have hna : S.at_ s.at_ s.at_ = S.last s.at_ := by unfold Src.at_; rw [if_neg (by omega)]
 have hN := node_walk f0.out.pin kind s.at_ ⟨#[]⟩ none 0 0 (Nat.le_refl _)
 rw [hna] at hN
 have hN' := Lib.hid hN
 have c2 := h.cell.2.2.1
 have hP := lt_of_block h.box
 have hm : Hid (S.tree (missing kind s) = .mk kind ⟨#[]⟩ (S.last s.at_) (S.last s.at_) []) := by unfold missing node; rw [Src.tree, hna]; exact rfl
 generalize missing kind s = m at *
 clear h hna hN
 go_enter Tryz.func122, Tryz.ntmps122
 go_wp2_with (go_at_call 63; refine hN'.out.mono ?_; rintro e w1 ⟨rfl, hb1⟩; have f1 := Lib.hid (f0.out.below hb1); obtain ⟨x0, x1, x2, x3, x4, x5⟩ := f1.out.cells)
 refine bodyPost_ret (v := .agg #[.int .i64 kind, .string ⟨#[]⟩, .int .i64 (S.last s.at_), .int .i64 (S.last s.at_), .slice none 0 0]) (by simp [results, Tryz.results122, go_sem, x0, x1, x2, x3, x4]) rfl ?_
 exact f1.out.done (kept5 _ _ _ _ _ _ _) (.mk kind ⟨#[]⟩ (S.last s.at_) (S.last s.at_) (.slice none 0 0) []) _ hm.out.symm (leaf_in _ _ _ _) _ rfl
end Go.Proofs.YthggagophcnkfaaGreatDoor.px
