/- The walk of the parser's report. -/
import Derived.Test.YthggagophcnkfaaGreatDoorM2
import Derived.Outline
namespace Go.Proofs.YthggagophcnkfaaGreatDoor.px
open Go.RowKit Go.Proofs.YthggagophcnkfaaGreatDoor.agg Go.Proofs.YthggagophcnkfaaGreatDoor.sx
set_option linter.unusedSimpArgs false
set_option linter.unusedVariables false
theorem info_dg : (Tryz.prog.info? 34).map (fun i => (i.zero, i.size, i.bytes)) = some (some (.agg #[.int .i64 0, .int .i64 0, .int .i64 0, .string ⟨#[]⟩]), 4, 40) := by kernel_rfl
theorem dg_one (d : Dg) : ∀ u ∈ d.cells.toList, u.oneCell' = true := by
 intro u hu
 simp only [Dg.cells, List.mem_cons, List.not_mem_nil, or_false] at hu
 rcases hu with rfl | rfl | rfl | rfl <;> rfl
theorem PAt.add {W W0 w' : World} {P : Nat} {tv lv : Value} {S : Src} {s : Ps} (h : PIn W P tv lv S s) (hb : Below W.heap.size W W0) (code : Int) (text : ByteArray) (hr : RpOk code text) {g' cap' : Nat} (hgrow : W0.grownBy w' lv.ownBlock)
 (hown : w'.ownsRow 0 34 4 (.slice (some ⟨g', 0, none⟩) ((S.list s).length + 1) cap') ((S.list s).length + 1) (dgV (S.list s) ++ (Dg.mk code (S.tk s).at_ (S.tk s).to text).cells.toList)) (hnew : lv.ownBlock = some g' ∨ g' = W0.heap.size) :
 ((w'.setCell ⟨P, 5, none⟩ (.slice (some ⟨g', 0, none⟩) ((S.list s).length + 1) cap')).cell? ⟨P, 4, none⟩ = some (.int .i64 (S.found s)) ∧ (w'.setCell ⟨P, 5, none⟩ (.slice (some ⟨g', 0, none⟩) ((S.list s).length + 1) cap')).frozen? ⟨P, 4, none⟩ = false) ∧
 Kept (pfoot P lv) W (w'.setCell ⟨P, 5, none⟩ (.slice (some ⟨g', 0, none⟩) ((S.list s).length + 1) cap')) ∧
 Fresh W lv (.slice (some ⟨g', 0, none⟩) ((S.list s).length + 1) cap') ∧
 (told s = false → PIn ((w'.setCell ⟨P, 5, none⟩ (.slice (some ⟨g', 0, none⟩) ((S.list s).length + 1) cap')).setCell ⟨P, 4, none⟩ (.int .i64 (S.tk s).at_)) P tv (.slice (some ⟨g', 0, none⟩) ((S.list s).length + 1) cap') S { s with reps := s.reps ++ [⟨code, s.at_, text⟩] }) := by
 have hP := lt_of_block h.box
 have hz := hb.size
 have hP0 : W0.heap[P]? = some (.cells (pcells S.T tv lv s.at_ (S.last s.at_) (S.found s)) 79 (0, 0)) := (hb.block P hP).trans h.box
 have hP1 : w'.heap[P]? = some (.cells (pcells S.T tv lv s.at_ (S.last s.at_) (S.found s)) 79 (0, 0)) := (hgrow.block P (lt_of_block hP0) (fun e => h.apart e.symm)).trans hP0
 have n1 : g' ≠ P := by
  rcases hnew with e | e
  ·exact fun e2 => h.apart (e2 ▸ e)
  ·omega
 have hbox : (w'.setCell ⟨P, 5, none⟩ (.slice (some ⟨g', 0, none⟩) ((S.list s).length + 1) cap')).heap[P]? = some (.cells (pcells S.T tv (.slice (some ⟨g', 0, none⟩) ((S.list s).length + 1) cap') s.at_ (S.last s.at_) (S.found s)) 79 (0, 0)) := by
  rw [heap_setCell_same _ _ _ _ _ _ hP1]
  exact rfl
 have hK : Kept (pfoot P lv) W (w'.setCell ⟨P, 5, none⟩ (.slice (some ⟨g', 0, none⟩) ((S.list s).length + 1) cap')) :=
  ((Kept.of_below hb).trans (Kept.grown hgrow (fun k hk => .inr hk))).trans (kept_set 5 _)
 have hF : Fresh W lv (.slice (some ⟨g', 0, none⟩) ((S.list s).length + 1) cap') := fun k hk => by
  have e : g' = k := by simpa [Value.ownBlock] using hk
  rcases hnew with e1 | e1
  ·exact .inl (e ▸ e1)
  ·exact .inr (by omega)
 refine ⟨⟨by simp only [World.cell?, hbox]; rfl, by simp only [World.frozen?, hbox]; rfl⟩, hK, hF, fun hne => ?_⟩
 obtain ⟨_, r2, r3, r4⟩ := h.rng
 have hgt : tokBlock tv ≠ some g' := fun e => by
  rcases hnew with e1 | e1
  ·exact (h.far g' e).2 e1
  ·have := h.toks.lt g' e; omega
 unfold PIn
 rw [found_last]
 refine ⟨?_, ?_, fun b hb' => ⟨(h.far b hb').1, fun e => ?_⟩, ?_, ?_, h.ok, ⟨h.sok.lt, ?_, ?_⟩, h.lab, ⟨by omega, by omega⟩⟩
 ·rw [heap_setCell_same _ _ _ _ _ _ hbox]
  exact rfl
 ·refine (h.toks.same (fun b hb' => hK.block b (h.toks.lt b hb') ?_) hK.size).same (fun b hb' => heap_setCell_other _ _ _ _ (fun e => (h.far b hb').1 e)) (by simp)
  rintro (e | e)
  ·exact (h.far b hb').1 e
  ·exact (h.far b hb').2 e
 ·have e2 : g' = b := by simpa [Value.ownBlock] using e
  exact hgt (e2 ▸ hb')
 ·rw [list_last, dgV_app, List.length_append]
  have e1 : dgV [⟨code, (S.tk s).at_, (S.tk s).to, text⟩] = (Dg.mk code (S.tk s).at_ (S.tk s).to text).cells.toList := by simp [dgV]
  rw [e1]
  have h1 := ownsRow_same (w' := w'.setCell ⟨P, 5, none⟩ (.slice (some ⟨g', 0, none⟩) ((S.list s).length + 1) cap')) hown (fun k hk => heap_setCell_other _ _ _ _ (fun e => by simp [Value.ownBlock] at hk; exact n1 (hk.trans e)))
  exact ownsRow_same h1 (fun k hk => heap_setCell_other _ _ _ _ (fun e => by simp [Value.ownBlock] at hk; exact n1 (hk.trans e)))
 ·simpa [Value.ownBlock] using n1
 ·have hc := h.sok.cnt
  rw [hne] at hc
  rw [told_last]
  simp only [List.length_append, List.length_cons, List.length_nil]
  simp at hc ⊢
  omega
 ·intro r hm
  rcases List.mem_append.1 hm with hm | hm
  ·exact h.sok.reps r hm
  ·rw [List.mem_singleton.1 hm]
   exact ⟨Nat.le_refl _, hr⟩
theorem bl_drew {B : Nat} {w w' : World} (h : Below B w w') : Below B w w'.drew := h.drew
theorem bl_alloc {w w' : World} (h : Below w.heap.size w w') (o : Obj) : Below w.heap.size w (w'.alloc o) := h.alloc h.size o
theorem grown_block {W W0 w' : World} {v : Value} (hb : Below W.heap.size W W0) (hgrow : W0.grownBy w' v.ownBlock) {k : Nat} {o : Obj} (h : W.heap[k]? = some o) (hk : v.ownBlock ≠ some k) : w'.heap[k]? = some o := by
 have hlt := lt_of_block h
 have hz := hb.size
 exact (hgrow.block k (by omega) (fun e => hk e.symm)).trans ((hb.block k hlt).trans h)
theorem PAt.grown {W W0 w' : World} {P : Nat} {tv lv : Value} {S : Src} {s : Ps} {la fo : Int} (h : PAt W P tv lv S s la fo) (hb : Below W.heap.size W W0) (hgrow : W0.grownBy w' lv.ownBlock) : w'.cell? ⟨P, 5, none⟩ = some lv ∧ w'.frozen? ⟨P, 5, none⟩ = false := by
 have h1 := grown_block hb hgrow h.box h.apart
 exact ⟨(cell_of_row _ _ _ _ _ _ h1).trans rfl, by simp [World.frozen?, h1]⟩
theorem PAt.setFound {w : World} {P : Nat} {tv lv : Value} {S : Src} {s : Ps} (h : PIn w P tv lv S s) (x : Int) (hx : x = S.found s) : PIn (w.setCell ⟨P, 4, none⟩ (.int .i64 x)) P tv lv S s := by
 subst hx
 refine h.put (Kept.setCell (F := fun b => b = P) w (a := ⟨P, _, none⟩) rfl _) ?_ rfl h.sok h.lab h.fob
 rw [heap_setCell_same _ _ _ _ _ _ h.box]
 exact rfl
set_option maxRecDepth 100000 in
set_option maxHeartbeats 1000000 in
theorem report_walk {w : World} {P : Nat} {tv lv : Value} {S : Src} {s : Ps} (h : PIn w P tv lv S s) (code : Int) (text : ByteArray) (hr : RpOk code text) :
 Calls Tryz.prog 44 #[.pointer (some ⟨P, 0, none⟩), .int .i64 code, .string text] w (SEnd w P tv lv S s (.tuple #[]) (report code text s)) := by
 obtain ⟨r1, r2, r3, r4⟩ := h.rng
 have hT := Lib.hid (token_lit h)
 have hh := Lib.hid h
 have hti := told_iff h.sok h.ok
 have hll := list_len h.sok h.ok
 have hadd := Lib.hid (fun (W W0 w' : World) (q : PIn W P tv lv S s) => PAt.add (W := W) (W0 := W0) (w' := w') q)
 obtain ⟨t, ht⟩ : ∃ t, t = S.tk s := ⟨_, rfl⟩
 have ht' := Lib.hid ht
 rw [← ht] at r1 r2 r3 hT hti hadd
 generalize (tok S.A s).kind = tk at *
 clear ht h
 go_enter Tryz.func44, Tryz.ntmps44
 go_upto_region 1 with (go_at_call 60; refine hT.out.mono ?_; rintro e w1 ⟨rfl, hb1⟩)
 have hbW := hb1.alloc hb1.size (.cells #[.int .i64 tk, .int .i64 t.fr, .int .i64 t.at_, .int .i64 t.to] 39)
 have hpW := Lib.hid (hh.out.below hbW)
 have hbx : (w1.alloc (.cells #[.int .i64 tk, .int .i64 t.fr, .int .i64 t.at_, .int .i64 t.to] 39)).heap[w1.heap.size]? = some (.cells #[.int .i64 tk, .int .i64 t.fr, .int .i64 t.at_, .int .i64 t.to] 39 (0, 0)) := heap_alloc_new _ _
 have hZ : w.heap.size ≤ w1.heap.size := hb1.size
 have hbx' := Lib.hid hbx
 have hbW' := Lib.hid hbW
 clear hT hb1 hbx hbW
 generalize w1.alloc _ = W at *
 generalize w1.heap.size = Z at *
 obtain ⟨_, _, _, _, d4, d5, d6⟩ := hpW.out.cell
 have y2 : W.cell? ⟨Z, 2, none⟩ = some (.int .i64 t.at_) := (cell_of_row _ _ _ _ _ _ hbx'.out).trans rfl
 have y3 : W.cell? ⟨Z, 3, none⟩ = some (.int .i64 t.to) := (cell_of_row _ _ _ _ _ _ hbx'.out).trans rfl
 by_cases hf : (t.at_ : Int) = S.found s
 ·have hse : Hid (report code text s = s) := by
   have := hti.1 hf
   unfold report
   rw [if_pos this]
   exact rfl
  have hff : ((t.at_ : Int) != S.found s) = false := by simpa using hf
  have hp2 : Hid (PIn (W.drew.setCell ⟨P, 4, none⟩ (.int .i64 t.at_)) P tv lv S s) := hpW.out.drew'.setFound _ hf
  clear hf hti d5 hadd
  go_region
  all_goals
   go_wp2
   go_end0
   rw [hse.out]
   exact ⟨lv, rfl, hp2.out, ((Kept.of_below hbW'.out).trans (.drew _)).trans (kept_set 4 _), fresh_same _ _, Nat.le_refl _⟩
 ·have hto : told s = false := by
   cases htt : told s with
   | false => rfl
   | true => exact absurd (hti.2 htt) hf
  have hse : Hid (report code text s = { s with reps := s.reps ++ [⟨code, s.at_, text⟩] }) := by
   unfold report
   rw [hto]
   rfl
  have hto' := Lib.hid hto
  have hff : ((t.at_ : Int) != S.found s) = true := by simpa using hf
  obtain ⟨i0, hi, hz0, hz1, hz2⟩ := info_parts info_dg
  have hown := hpW.out.list
  have hPW := lt_of_block hpW.out.box
  have hZW := lt_of_block hbx'.out
  have hZl : lv.ownBlock ≠ some Z := fun e => by have := (hh.out.list.lt Z e).2; omega
  have hap : lv.ownBlock ≠ some P := hpW.out.apart
  have d6' := d6 5
  clear hf hti hto d6
  go_region
  all_goals
   clear d4
   go_upto_region 2 with fail
   have hp1 := Lib.hid hpW.out.drew'
   have hownD : W.drew.ownsRow 0 34 4 lv (S.list s).length (dgV (S.list s)) := hown.drew
   go_region_law (refine step_append_mine rfl (.tmp 20) (.tmp 28) 26 rfl 0 34 i0 _ 4 40 Tryz.underlying26 hi hz0 hz1 hz2 (by decide) lv _ _ rfl (hownD.alloc _) ⟨W.drew.heap.size, 0, none⟩ 1 1 (Dg.mk code t.at_ t.to text).cells.toList rfl rfl (by omega) (cells_new W.drew (Dg.mk code t.at_ t.to text).cells _) (dg_one _) (by unfold maxLen; omega) (by omega) (Nat.zero_le _) ?_; intro g' cap' w' hown' hgrow hnew; obtain ⟨hc', hf'⟩ := hpW.out.grown (by (repeat (first | exact Below.refl _ _ | apply bl_drew | apply bl_alloc))) hgrow; have hbZ := grown_block (by (repeat (first | exact Below.refl _ _ | apply bl_drew | apply bl_alloc))) hgrow hbx'.out hZl; have yZ : w'.cell? ⟨Z, 2, none⟩ = some (.int .i64 t.at_) := (cell_of_row _ _ _ _ _ _ hbZ).trans rfl)
   all_goals
    obtain ⟨z1, z2, z3, z4⟩ := hadd.out _ _ _ hpW.out (by (repeat (first | exact Below.refl _ _ | apply bl_drew | apply bl_alloc))) code text hr hgrow hown' hnew
    have z4' := Lib.hid (z4 hto'.out)
    have z2' := Lib.hid z2
    have z3' := Lib.hid z3
    obtain ⟨c4, f4⟩ := z1
    have hPZ : P ≠ Z := by have := lt_of_block hh.out.box; omega
    have yZ2 : (w'.setCell ⟨P, 5, none⟩ (.slice (some ⟨g', 0, none⟩) ((S.list s).length + 1) cap')).cell? ⟨Z, 2, none⟩ = some (.int .i64 t.at_) := by
     refine (World.cell?_of_block (w := w') (a := ⟨Z, 2, none⟩) (heap_setCell_other _ _ _ _ (fun e => hPZ e.symm))).trans yZ
    clear z2 z3 z4 hown' hgrow hnew hbZ yZ hc' hf'
    generalize w'.setCell ⟨P, 5, none⟩ _ = w9 at *
    go_wp2
    go_end0
    rw [hse.out]
    exact ⟨_, rfl, z4'.out, ((Kept.of_below hbW'.out).trans z2'.out).trans (kept_set 4 _), fun k hk => by
     rcases z3'.out k hk with e | e
     ·exact .inl e
     ·exact .inr (Nat.le_trans hbW'.out.size e), Nat.le_refl _⟩
end Go.Proofs.YthggagophcnkfaaGreatDoor.px
