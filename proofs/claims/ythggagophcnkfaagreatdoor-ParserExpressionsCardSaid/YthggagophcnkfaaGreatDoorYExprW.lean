/- The walk of the reference's Expression for a text that is not too large. -/
import Derived.Test.YthggagophcnkfaaGreatDoorTk
import Derived.Test.YthggagophcnkfaaGreatDoorM38
import Derived.Test.YthggagophcnkfaaGreatDoorM26
import Derived.Test.YthggagophcnkfaaGreatDoorPExprW
namespace Go.Proofs.YthggagophcnkfaaGreatDoor.py
open Go.RowKit Go.Proofs.YthggagophcnkfaaGreatDoor.agg Go.Proofs.YthggagophcnkfaaGreatDoor.sx Go.Proofs.YthggagophcnkfaaGreatDoor.lx Go.Proofs.YthggagophcnkfaaGreatDoor.px Go.Proofs.YthggagophcnkfaaGreatDoor.so
set_option linter.unusedSimpArgs false
set_option linter.unusedVariables false
theorem added {W W0 w' : World} {P : Nat} {tv lv : Value} {S : px.Src} {s : Ps} (h : PIn W P tv lv S s) (hb : Below W.heap.size W W0) (d : Dg) {g' cap' : Nat} (hgrow : W0.grownBy w' lv.ownBlock)
 (hown : w'.ownsRow 0 34 4 (.slice (some ⟨g', 0, none⟩) ((S.list s).length + 1) cap') ((S.list s).length + 1) (dgV (S.list s) ++ d.cells.toList)) (hnew : lv.ownBlock = some g' ∨ g' = W0.heap.size) :
 (w'.setCell ⟨P, 4, none⟩ (.slice (some ⟨g', 0, none⟩) ((S.list s).length + 1) cap')).cell? ⟨P, 4, none⟩ = some (.slice (some ⟨g', 0, none⟩) ((S.list s).length + 1) cap') ∧
 (w'.setCell ⟨P, 4, none⟩ (.slice (some ⟨g', 0, none⟩) ((S.list s).length + 1) cap')).ownsRow 0 34 4 (.slice (some ⟨g', 0, none⟩) ((S.list s).length + 1) cap') (S.list s ++ [d]).length (dgV (S.list s ++ [d])) ∧
 Kept (pfoot P lv) W (w'.setCell ⟨P, 4, none⟩ (.slice (some ⟨g', 0, none⟩) ((S.list s).length + 1) cap')) ∧
 P < (w'.setCell ⟨P, 4, none⟩ (.slice (some ⟨g', 0, none⟩) ((S.list s).length + 1) cap')).heap.size := by
 have hP := lt_of_block h.box
 have hz := hb.size
 have hP0 : W0.heap[P]? = some (.cells (pcells S.T tv lv s.at_ (S.last s.at_) (S.found s)) 70 (0, 0)) := (hb.block P hP).trans h.box
 have hP1 : w'.heap[P]? = some (.cells (pcells S.T tv lv s.at_ (S.last s.at_) (S.found s)) 70 (0, 0)) := (hgrow.block P (lt_of_block hP0) (fun e => h.apart e.symm)).trans hP0
 have n1 : g' ≠ P := by
  rcases hnew with e | e
  ·exact fun e2 => h.apart (e2 ▸ e)
  ·omega
 have hbox : (w'.setCell ⟨P, 4, none⟩ (.slice (some ⟨g', 0, none⟩) ((S.list s).length + 1) cap')).heap[P]? = some (.cells (pcells S.T tv (.slice (some ⟨g', 0, none⟩) ((S.list s).length + 1) cap') s.at_ (S.last s.at_) (S.found s)) 70 (0, 0)) := by
  rw [heap_setCell_same _ _ _ _ _ _ hP1]
  exact rfl
 refine ⟨by simp only [World.cell?, hbox]; rfl, ?_, ((Kept.of_below hb).trans (Kept.grown hgrow (fun k hk => .inr hk))).trans (kept_set 4 _), lt_of_block hbox⟩
 rw [dgV_app, List.length_append]
 have e1 : dgV [d] = d.cells.toList := by simp [dgV]
 rw [e1]
 exact ownsRow_same (w' := w'.setCell ⟨P, 4, none⟩ (.slice (some ⟨g', 0, none⟩) ((S.list s).length + 1) cap')) hown (fun k hk => heap_setCell_other _ _ _ _ (fun e => by simp [Value.ownBlock] at hk; exact n1 (hk.trans e)))
set_option maxRecDepth 100000 in
set_option maxHeartbeats 4000000 in
theorem rexpr_walk (w : World) (T : ByteArray) (hs : T.size ≤ 4096) : Calls Tryz.prog 17 #[.string T] w (RParseEnd w (parseE T)) := by
 obtain ⟨S, hS⟩ : ∃ S, srcR T = S := ⟨_, rfl⟩
 have hB := Lib.hid (fun (W : World) => start_walk W T hs)
 unfold StartEnd at hB
 obtain ⟨R, hR⟩ : ∃ R, expression (src T).A ⟨0, []⟩ = R := ⟨_, rfl⟩
 obtain ⟨r1, r2⟩ := R
 obtain ⟨ld, hld⟩ : ∃ ld, (toks T).flatMap (lexDg T) = ld := ⟨_, rfl⟩
 have hm : Hid (parseE T = (S.tree r1, sortD (ld ++ (if atEnd S.A r2 then S.list r2 else S.list r2 ++ [⟨4, (S.tk r2).at_, (S.tk r2).to, (ByteArray.mk #[101, 110, 100])⟩])))) := by
  unfold parseE
  rw [hR]
  subst hS hld
  unfold Hid
  simp only
  rw [tree_src]
  have e0 : (srcR T).A = (src T).A := rfl
  rw [e0]
  cases atEnd (src T).A r2 with
  | true => rfl
  | false => 
   simp only [Bool.false_eq_true, if_false]
   rw [px.list_last, ← List.append_assoc]
   rfl
 have hR' : Hid (expression S.A ⟨0, []⟩ = (r1, r2)) := by subst hS; exact hR
 have hE := Lib.hid (fun (W : World) (P : Nat) (tv lv : Value) (q : PIn W P tv lv S ⟨0, []⟩) => expression_all q)
 rw [hR'.out] at hE
 rw [hS, hld] at hB
 generalize parseE T = m at *
 have hldl : ld.length ≤ 20001 := by
  have h1 := lexDgs_len T (toks T)
  have h2 := toks_len' T
  rw [hld] at h1
  omega
 clear hR hR' hS hld
 have hT0 : (0 : Int) ≤ T.size := Int.natCast_nonneg _
 go_enter Tryz.func17, Tryz.ntmps17
 go_upto_region 5 with (first
  | (go_at_call 45; refine (hE.out _ _ _ _ p1'.out).mono ?_; rintro e w2 ⟨lv2, nk, nt, na, ne, nao, ncap, nks, rfl, t1, t2, t3, t4, t5, t6⟩; have t1' := Lib.hid t1; have t2' := Lib.hid t2; have t3' := Lib.hid t3; have t4' := Lib.hid t4; have t5' := Lib.hid t5; clear t1 t2 t3 t4 t5 t6)
  | (go_at_call 31; refine (hB.out _).mono ?_; rintro e w1 ⟨P, tv, lw, rfl, p1, p2, p3, p4, p5, p6⟩; have p1' := Lib.hid p1; have p2' := Lib.hid p2; have p6' := Lib.hid p6; clear p1 p2 p6))
 have hzb : (w.alloc zbox).heap.size = w.heap.size + 1 := by simp
 have hpP : w.heap.size + 1 ≤ P := by rw [← hzb]; exact p3
 rw [hzb] at p2' p5 p6'
 have hlwP : Hid (lw.ownBlock ≠ some P) := p4
 clear p3
 have hw1 : w.heap.size + 1 ≤ w1.heap.size := by have := p6'.out.size; rw [hzb] at this; exact this
 have hlw1 : Hid (∀ k, lw.ownBlock = some k → w.heap.size + 1 ≤ k ∧ k < w1.heap.size) := p2'.out.lt
 have hbz : Hid (Below (w.heap.size + 1) (w.alloc zbox) w2) := p6'.out.trans (t4'.out.below _ hw1 (fun i hi => by
  rcases hi with rfl | e
  ·exact hpP
  ·simp [Value.ownBlock] at e))
 have hlw2 : Hid (w2.ownsRow (w.heap.size + 1) 34 4 lw ld.length (dgV ld)) := Lib.hid (ownsRow_same p2'.out (fun k hk => t4'.out.block k (p2'.out.lt k hk).2 (fun e => by
  rcases e with rfl | e
  ·exact p4 hk
  ·simp [Value.ownBlock] at e)))
 have hnd2 : Hid (NodeIn (fun b => w1.heap.size ≤ b ∧ ¬ pfoot P lv2 b) w2 (Nd.mk nk nt na ne (.slice nao nks.length ncap) nks)) := t2'.out
 have hlv2 : Hid (∀ k, lv2.ownBlock = some k → w1.heap.size ≤ k) := fun k hk => by
  rcases t5'.out k hk with e | e
  ·simp [Value.ownBlock] at e
  ·exact e
 have hP1 : Hid (P < w1.heap.size) := lt_of_block p1'.out.box
 have hw12 : w1.heap.size ≤ w2.heap.size := t4'.out.size
 clear t2' t5' t4' p1' p2' p6' hB hE p5 p4
 obtain ⟨W2, hW2⟩ : ∃ W2, w2.alloc (.cells #[.int .i64 nk, .string nt, .int .i64 na, .int .i64 ne, .slice nao nks.length ncap] 25) = W2 := ⟨_, rfl⟩
 rw [hW2]
 have hb2 : Hid (Below w2.heap.size w2 W2) := by unfold Hid; rw [← hW2]; exact (Below.refl _ _).alloc (Nat.le_refl _) _
 have hx2 : Hid (W2.heap[w2.heap.size]? = some (.cells #[.int .i64 nk, .string nt, .int .i64 na, .int .i64 ne, .slice nao nks.length ncap] 25 (0, 0))) := by unfold Hid; rw [← hW2]; exact block_new _ _ _
 clear hW2
 have hN2 : Hid (¬ pfoot P lv2 w2.heap.size) := fun e => by have := t3'.out.lt _ e; omega
 have hq2 := Lib.hid (t3'.out.below hb2.out)
 have hT2 := Lib.hid (token_lit hq2.out)
 obtain ⟨N, hNe⟩ : ∃ N, w2.heap.size = N := ⟨_, rfl⟩
 have hNs := Lib.hid hNe
 rw [hNe] at hx2 hN2 ⊢
 clear hNe t3'
 obtain ⟨_, r2', r3', r4'⟩ := hq2.out.rng
 have hlen2 : (S.list r2).length ≤ 20001 := list_len hq2.out.sok hq2.out.ok
 have hae : Hid (∀ b, ((tok S.A r2).kind == 0) = b → atEnd S.A r2 = b) := fun b hb => hb
 obtain ⟨tq, htk⟩ : ∃ tq, (tok S.A r2).kind = tq := ⟨_, rfl⟩
 obtain ⟨t, ht⟩ : ∃ t, S.tk r2 = t := ⟨_, rfl⟩
 rw [htk] at hT2 hae
 rw [ht] at hT2 hm r2' r3'
 clear htk ht
 go_upto_region 6 with (go_at_call 46; refine hT2.out.mono ?_; rintro e w3 ⟨rfl, b3⟩; have b3' := Lib.hid b3; clear b3)
 obtain ⟨W3, hW3⟩ : ∃ W3, w3.alloc (.cells #[.int .i64 tq, .int .i64 t.fr, .int .i64 t.at_, .int .i64 t.to] 39) = W3 := ⟨_, rfl⟩
 rw [hW3]
 have hb3 : Hid (Below W2.heap.size W2 W3) := by unfold Hid; rw [← hW3]; exact b3'.out.alloc b3'.out.size _
 have hx3 : Hid (W3.heap[w3.heap.size]? = some (.cells #[.int .i64 tq, .int .i64 t.fr, .int .i64 t.at_, .int .i64 t.to] 39 (0, 0))) := by unfold Hid; rw [← hW3]; exact block_new _ _ _
 have hZw : W2.heap.size ≤ w3.heap.size := b3'.out.size
 clear hW3 b3' hT2
 generalize w3.heap.size = Z at *
 have hq3 := Lib.hid (hq2.out.below hb3.out)
 have hN3 : Hid (W3.heap[N]? = some (.cells #[.int .i64 nk, .string nt, .int .i64 na, .int .i64 ne, .slice nao nks.length ncap] 25 (0, 0))) := (hb3.out.block N (lt_of_block hx2.out)).trans hx2.out
 have hb23 : Hid (Below w2.heap.size w2 W3) := bel_then hb2.out hb2.out.size hb3.out
 have hlw3 : Hid (W3.ownsRow (w.heap.size + 1) 34 4 lw ld.length (dgV ld)) := ownsRow_same hlw2.out (fun k hk => hb23.out.block k (hlw2.out.lt k hk).2)
 have hbz3 : Hid (Below (w.heap.size + 1) (w.alloc zbox) W3) := hbz.out.trans (hb23.out.mono (by have := hNs.out; omega))
 have hnd3 : Hid (NodeIn (fun b => w1.heap.size ≤ b ∧ ¬ pfoot P lv2 b) W3 (Nd.mk nk nt na ne (.slice nao nks.length ncap) nks)) := hnd2.out.later hb23.out
 have hNP : Hid (¬ pfoot P lv2 N) := hN2.out
 have hNw : w1.heap.size ≤ N := by have := hNs.out; omega
 have y0 : W3.cell? ⟨Z, 0, none⟩ = some (.int .i64 tq) := (cell_of_row _ _ _ _ _ _ hx3.out).trans rfl
 have y2 : W3.cell? ⟨Z, 2, none⟩ = some (.int .i64 t.at_) := (cell_of_row _ _ _ _ _ _ hx3.out).trans rfl
 have y3 : W3.cell? ⟨Z, 3, none⟩ = some (.int .i64 t.to) := (cell_of_row _ _ _ _ _ _ hx3.out).trans rfl
 have hZP : Hid (¬ pfoot P lv2 Z) := fun e => by have := hq2.out.lt Z e; omega
 clear hb2 hx2 hq2 hb3 hb23 hlw2 hnd2 hbz hN2 hNs
 by_cases hk0 : tq = 0
 ·have hend := hae.out true (by simpa using hk0)
  have f0 : ((tq : Int) != 0) = false := by simp [hk0]
  rw [hend, if_pos rfl] at hm
  have hD : Hid (ReadsAt W3 lv2 (S.list r2).length (dgV (S.list r2))) := RowB.reads (.inr hq3.out.list)
  have hDl : (S.list r2).length ≤ 20002 := by omega
  have c4 : W3.cell? ⟨P, 4, none⟩ = some lv2 := hq3.out.cell.2.2.2.2.2.1
  have hPz : P < W3.heap.size := lt_of_block hq3.out.box
  have hnd4 : Hid (NodeIn (fun b => w1.heap.size ≤ b) W3 (Nd.mk nk nt na ne (.slice nao nks.length ncap) nks)) := hnd3.out.mono (fun b _ h => h.1)
  generalize S.list r2 = D at *
  clear hq3 hx3 hnd3 hae hend hk0 hNP hZP y2 y3
  go_upto_region 8 with fail
  have hN6 : Hid (W3.drew.heap[N]? = some (.cells #[.int .i64 nk, .string nt, .int .i64 na, .int .i64 ne, .slice nao nks.length ncap] 25 (0, 0))) := hN3.out
  have c6 : W3.drew.cell? ⟨P, 4, none⟩ = some lv2 := c4
  have hrl : Hid (W3.drew.ownsRow (w.heap.size + 1) 34 4 lw ld.length (dgV ld)) := hlw3.out.drew
  have hrd : Hid (ReadsAt W3.drew lv2 D.length (dgV D)) := hD.out.below (Below.refl _ _).drew
  obtain ⟨i1, hi, hz0, hz1, hz2⟩ := info_parts info_dg
  refine wp_region_held_drew (S := fun u => u.heap[N]? = some (.cells #[.int .i64 nk, .string nt, .int .i64 na, .int .i64 ne, .slice nao nks.length ncap] 25 (0, 0))) (by kernel_rfl) hN6.out (fun hHeld => ?_)
  refine tk (i := 0) (v := .agg #[.int .i64 nk, .string nt, .int .i64 na, .int .i64 ne, .slice nao nks.length ncap]) (hy := yieldsIf_load_mid (by rfl) _ _ rfl _ _ rfl [.int .i64 nk, .string nt, .int .i64 na, .int .i64 ne, .slice nao nks.length ncap] _ (fun _ h => rangeAt_whole h) Tryz.underlying25 rfl info_nds) rfl hHeld ?_
  try simp only [Act.put, kA, kB, kC, kD, kE, kF]
  refine tk (i := 1) (v := lw) rfl hHeld ?_
  try simp only [Act.put, kA, kB, kC, kD, kE, kF]
  refine tk (i := 2) (v := .pointer (some ⟨P, 0, none⟩)) rfl hHeld ?_
  try simp only [Act.put, kA, kB, kC, kD, kE, kF]
  refine tk (i := 3) (v := .pointer (some ⟨P, 0, none⟩)) rfl hHeld ?_
  try simp only [Act.put, kA, kB, kC, kD, kE, kF]
  refine tk (i := 4) (v := .pointer (some ⟨P, 4, none⟩)) rfl hHeld ?_
  try simp only [Act.put, kA, kB, kC, kD, kE, kF]
  refine wpAnyH_ready (rs := [5]) (by kernel_rfl) (by simp) ?_
  refine AllReadyH.cons rfl (fun K hK => ?_) AllReadyH.nil
  rw [if_pos (by rfl)]
  go_simp
  refine hK.out _ _ hN6.out (fun hHeld => ?_)
  clear hK K
  try simp only [Act.put, kA, kB, kC, kD, kE, kF]
  refine wpAnyH_ready (rs := [6]) (by kernel_rfl) (by simp) ?_
  refine AllReadyH.cons rfl (fun K hK => ?_) AllReadyH.nil
  rw [if_pos (by rfl)]
  have hB6 : w.heap.size + 1 ≤ W3.drew.heap.size := by have := hbz3.out.size; rw [hzb] at this; exact this
  refine wp_append_reads (.tmp 40) (.tmp 44) 26 rfl (w.heap.size + 1) 34 i1 _ 4 40 Tryz.underlying26 hi hz0 hz1 hz2 (by decide) lw ld.length (dgV ld) rfl (.inr hrl.out) lv2 D.length (dgV D) rfl hrd.out (dgV_len _) (dgV_ones _) (by unfold maxLen; omega) (by omega) hB6 ?_
  intro ao7 c7 w7 hown7 hb7 hk7 _
  have hN7 : Hid (w7.heap[N]? = some (.cells #[.int .i64 nk, .string nt, .int .i64 na, .int .i64 ne, .slice nao nks.length ncap] 25 (0, 0))) := (hk7.block N (lt_of_block hN6.out) (fun e => by have h1 := (hlw1.out N e).2; omega)).trans hN6.out
  refine hK.out _ _ hN7.out (fun hHeld => ?_)
  clear hK K
  try simp only [Act.put, kA, kB, kC, kD, kE, kF]
  have hb7' := Lib.hid hb7
  have hk7' := Lib.hid hk7
  have hdg : DgsIn w7 (.slice ao7 (ld.length + D.length) c7) (ld ++ D) := RowB.dgs (by rw [dgV_app]; exact hown7) (by simp)
  have hSo := Lib.hid (rsorted_walk w7 _ (ld ++ D) hdg (by rw [List.length_append]; omega))
  clear hdg hown7 hb7 hk7 hi hz0 hz1 hz2
  refine wpAnyH_ready (rs := [7]) (by kernel_rfl) (by simp) ?_
  refine AllReadyH.cons rfl (fun K hK => ?_) AllReadyH.nil
  rw [if_pos (by rfl)]
  go_simp
  go_at_call 39
  refine hSo.out.mono ?_
  rintro e w8 ⟨b8, cap8, rfl, hb8, hb8z, g1, g2⟩
  obtain ⟨n8, hn8⟩ : ∃ n, (sortD (ld ++ D)).length = n := ⟨_, rfl⟩
  rw [hn8]
  obtain ⟨v8, hv8⟩ : ∃ v, Value.slice (some ⟨b8, 0, none⟩) n8 cap8 = v := ⟨_, rfl⟩
  rw [hv8]
  have hv8' := Lib.hid hv8
  have hn8' := Lib.hid hn8
  clear hv8 hn8
  have g1' := Lib.hid g1
  have g2' := Lib.hid g2
  clear g1 g2
  have hz1 : Hid (Below (w.heap.size + 1) (w.alloc zbox) w8) := (hbz3.out.trans (Below.refl _ _).drew).trans (hb7'.out.trans (g2'.out.mono (Nat.le_trans hB6 hk7'.out.size)))
  have hz2 : Hid (w8.heap[w.heap.size]? = some zbox) := (hz1.out.block _ (Nat.lt_succ_self _)).trans (block_new _ _ _)
  have hz3 : Hid (w8.heap[N]? = some (.cells #[.int .i64 nk, .string nt, .int .i64 na, .int .i64 ne, .slice nao nks.length ncap] 25 (0, 0))) := (g2'.out.block N (lt_of_block hN7.out)).trans hN7.out
  have hZN : w.heap.size + 1 ≤ N := Nat.le_trans hw1 hNw
  obtain ⟨z0, z1, z2, z3, z4, z5⟩ : w8.cell? ⟨w.heap.size, 0, none⟩ = some (.int .i64 0) ∧ w8.cell? ⟨w.heap.size, 1, none⟩ = some (.string ⟨#[]⟩) ∧ w8.cell? ⟨w.heap.size, 2, none⟩ = some (.int .i64 0) ∧ w8.cell? ⟨w.heap.size, 3, none⟩ = some (.int .i64 0) ∧ w8.cell? ⟨w.heap.size, 4, none⟩ = some (.slice none 0 0) ∧ ∀ i, w8.frozen? ⟨w.heap.size, i, none⟩ = false := by
   have hb := hz2.out
   refine ⟨?_, ?_, ?_, ?_, ?_, fun i => ?_⟩ <;> simp [World.cell?, World.frozen?, hb, zbox]
  refine hK.out _ _ hz3.out (fun hHeld => ?_)
  clear hK K
  try simp only [Act.put, kA, kB, kC, kD, kE, kF]
  refine wpAnyH_ready (rs := [8]) (by kernel_rfl) (by simp) ?_
  refine AllReadyH.cons rfl (fun K hK => ?_) AllReadyH.nil
  rw [if_pos (by rfl)]
  go_simp
  refine hK.out _ _ (((kept5 _ _ _ _ _ _ _).block N (lt_of_block hz3.out) (fun e => by omega)).trans hz3.out) (fun hHeld => ?_)
  clear hK K
  try simp only [Act.put, kA, kB, kC, kD, kE, kF]
  refine tk (i := 9) (v := v8) rfl hHeld ?_
  try simp only [Act.put, kA, kB, kC, kD, kE, kF]
  refine tk (i := 10) (v := .int .i64 0) rfl hHeld ?_
  try simp only [Act.put, kA, kB, kC, kD, kE, kF]
  refine wpAnyH_done (by kernel_rfl) ?_ _
  clear hHeld
  go_wp2
  refine bodyPost_ret (v := .tuple #[.agg #[.int .i64 nk, .string nt, .int .i64 na, .int .i64 ne, .slice nao nks.length ncap], v8, .int .i64 0]) (by simp [results, Tryz.results17, go_sem, z0, z1, z2, z3, z4] <;> rfl) rfl ?_
  rw [hm.out]
  have hKz := kept5 w8 w.heap.size (.int .i64 nk) (.string nt) (.int .i64 na) (.int .i64 ne) (.slice nao nks.length ncap)
  have hsz78 : w7.heap.size ≤ w8.heap.size := g2'.out.size
  have hsz67 : W3.heap.size ≤ w7.heap.size := hk7'.out.size
  refine ⟨v8, nk, nt, na, ne, nao, ncap, nks, rfl, t1'.out, ?_, ?_, ?_, ?_⟩
  ·exact NodeIn.same (w := W3) (G := fun b => w1.heap.size ≤ b) (fun b hb hq => (hKz.block b (by omega) (fun e => by omega)).trans ((g2'.out.block b (by omega)).trans (hk7'.out.block b hb (fun e => by have h1 := (hlw1.out b e).2; omega)))) (Nat.le_trans hsz67 (Nat.le_trans hsz78 hKz.size)) (fun b hb hq => by omega) hnd4.out
  ·rw [← hv8'.out]
   have hb9 : b8 ≠ w.heap.size := by omega
   refine ⟨some ⟨b8, 0, none⟩, cap8, by rw [hn8'.out], fun i hi => ⟨b8, 0, rfl, Nat.lt_of_lt_of_le hb8z hKz.size, fun q u hu => ?_⟩⟩
   rw [Nat.zero_add]
   exact (World.cell?_of_block (a := ⟨b8, _, none⟩) (hKz.block b8 hb8z hb9)).trans (g1'.out.get hi q u hu)
  ·exact ((Below.refl _ w).alloc (Nat.le_refl _) zbox).trans ((hz1.out.mono (Nat.le_succ _)).trans (hKz.below _ (by have := hz1.out.size; simp at this; omega) (fun i hi => Nat.le_of_eq hi.symm)))
  ·simp only
   rw [sortD_len, List.length_append]
   omega
 ·have hend := hae.out false (by simpa using hk0)
  have f0 : ((tq : Int) != 0) = true := by simp; omega
  rw [hend, if_neg (by decide)] at hm
  clear hae hend hk0
  go_upto_region 7 with fail
  obtain ⟨i0, hi, hz0, hz1, hz2⟩ := info_parts info_dg
  have hown : W3.ownsRow 0 34 4 lv2 (S.list r2).length (dgV (S.list r2)) := hq3.out.list
  obtain ⟨_, _, _, _, _, d4, d6⟩ := hq3.out.cell
  have hPW := lt_of_block hq3.out.box
  have hZW := lt_of_block hx3.out
  have hZl : lv2.ownBlock ≠ some Z := fun e => hZP.out (.inr e)
  have hap : lv2.ownBlock ≠ some P := hq3.out.apart
  have hownD : W3.drew.ownsRow 0 34 4 lv2 (S.list r2).length (dgV (S.list r2)) := hown.drew
  go_region_law (refine step_append_mine rfl (.tmp 29) (.tmp 35) 26 rfl 0 34 i0 _ 4 40 Tryz.underlying26 hi hz0 hz1 hz2 (by decide) lv2 _ _ rfl (hownD.alloc _) ⟨W3.drew.heap.size, 0, none⟩ 1 1 (Dg.mk 4 t.at_ t.to ((ByteArray.mk #[101, 110, 100]))).cells.toList rfl rfl (by omega) (cells_new W3.drew (Dg.mk 4 t.at_ t.to ((ByteArray.mk #[101, 110, 100]))).cells _) (dg_one _) (by unfold maxLen; omega) (by omega) (Nat.zero_le _) ?_; intro g' cap' w' hown' hgrow hnew; obtain ⟨hc', hf'⟩ := hq3.out.grown (by first | exact ((Below.refl _ _).alloc (Nat.le_refl _) _).drew | exact (Below.refl _ _).drew.alloc (Nat.le_refl _) _) hgrow)
  all_goals
   obtain ⟨c4, hl4, hK4, hPz⟩ := added hq3.out (by first | exact ((Below.refl _ _).alloc (Nat.le_refl _) _).drew | exact (Below.refl _ _).drew.alloc (Nat.le_refl _) _) (Dg.mk 4 t.at_ t.to ((ByteArray.mk #[101, 110, 100]))) hgrow hown' hnew
   obtain ⟨lv4, hlv4⟩ : ∃ v, Value.slice (some ⟨g', 0, none⟩) ((S.list r2).length + 1) cap' = v := ⟨_, rfl⟩
   rw [hlv4] at c4 hl4 hK4 hPz ⊢
   have hD : Hid (ReadsAt _ lv4 (S.list r2 ++ [Dg.mk 4 t.at_ t.to ((ByteArray.mk #[101, 110, 100]))]).length (dgV (S.list r2 ++ [Dg.mk 4 t.at_ t.to ((ByteArray.mk #[101, 110, 100]))]))) := RowB.reads (.inr hl4)
   have hDl : (S.list r2 ++ [Dg.mk 4 t.at_ t.to ((ByteArray.mk #[101, 110, 100]))]).length ≤ 20002 := by rw [List.length_append]; simp only [List.length_singleton]; omega
   have hK4' := Lib.hid hK4
   clear hl4 hown' hgrow hnew hc' hf' hlv4 hK4
   generalize w'.setCell ⟨P, 4, none⟩ lv4 = W4 at *
   generalize S.list r2 ++ [Dg.mk 4 t.at_ t.to ((ByteArray.mk #[101, 110, 100]))] = D at *
   have hN4 : Hid (W4.heap[N]? = some (.cells #[.int .i64 nk, .string nt, .int .i64 na, .int .i64 ne, .slice nao nks.length ncap] 25 (0, 0))) := (hK4'.out.block N (lt_of_block hN3.out) hNP.out).trans hN3.out
   have hbz4 : Hid (Below (w.heap.size + 1) (w.alloc zbox) W4) := hbz3.out.trans (hK4'.out.below _ (by have := hbz3.out.size; rw [hzb] at this; exact this) (fun i hi => by
    rcases hi with rfl | e
    ·exact hpP
    ·exact Nat.le_trans hw1 (hlv2.out i e)))
   have hlw4 : Hid (W4.ownsRow (w.heap.size + 1) 34 4 lw ld.length (dgV ld)) := ownsRow_same hlw3.out (fun k hk => hK4'.out.block k (hlw3.out.lt k hk).2 (fun e => by
    rcases e with rfl | e
    ·exact hlwP.out hk
    ·have h1 := hlv2.out k e; have h2 := (hlw1.out k hk).2; omega))
   have hnd4 : Hid (NodeIn (fun b => w1.heap.size ≤ b) W4 (Nd.mk nk nt na ne (.slice nao nks.length ncap) nks)) := NodeIn.same (w := W3) (G := fun b => w1.heap.size ≤ b ∧ ¬ pfoot P lv2 b) (fun b hb hq => hK4'.out.block b hb hq.2) hK4'.out.size (fun b _ hq => hq.1) hnd3.out
   clear hq3 hx3 hnd3 hNP hZP y0 y2 y3 hK4' d4 d6 hPW hZW hZl hap hown hownD hN3 hbz3 hlw3 hi hz0 hz1 hz2
   go_upto_region 8 with fail
   have hN6 : Hid (W4.drew.heap[N]? = some (.cells #[.int .i64 nk, .string nt, .int .i64 na, .int .i64 ne, .slice nao nks.length ncap] 25 (0, 0))) := hN4.out
   have c6 : W4.drew.cell? ⟨P, 4, none⟩ = some lv4 := c4
   have hrl : Hid (W4.drew.ownsRow (w.heap.size + 1) 34 4 lw ld.length (dgV ld)) := hlw4.out.drew
   have hrd : Hid (ReadsAt W4.drew lv4 D.length (dgV D)) := hD.out.below (Below.refl _ _).drew
   obtain ⟨i1, hi, hz0, hz1, hz2⟩ := info_parts info_dg
   refine wp_region_held_drew (S := fun u => u.heap[N]? = some (.cells #[.int .i64 nk, .string nt, .int .i64 na, .int .i64 ne, .slice nao nks.length ncap] 25 (0, 0))) (by kernel_rfl) hN6.out (fun hHeld => ?_)
   refine tk (i := 0) (v := .agg #[.int .i64 nk, .string nt, .int .i64 na, .int .i64 ne, .slice nao nks.length ncap]) (hy := yieldsIf_load_mid (by rfl) _ _ rfl _ _ rfl [.int .i64 nk, .string nt, .int .i64 na, .int .i64 ne, .slice nao nks.length ncap] _ (fun _ h => rangeAt_whole h) Tryz.underlying25 rfl info_nds) rfl hHeld ?_
   try simp only [Act.put, kA, kB, kC, kD, kE, kF]
   refine tk (i := 1) (v := lw) rfl hHeld ?_
   try simp only [Act.put, kA, kB, kC, kD, kE, kF]
   refine tk (i := 2) (v := .pointer (some ⟨P, 0, none⟩)) rfl hHeld ?_
   try simp only [Act.put, kA, kB, kC, kD, kE, kF]
   refine tk (i := 3) (v := .pointer (some ⟨P, 0, none⟩)) rfl hHeld ?_
   try simp only [Act.put, kA, kB, kC, kD, kE, kF]
   refine tk (i := 4) (v := .pointer (some ⟨P, 4, none⟩)) rfl hHeld ?_
   try simp only [Act.put, kA, kB, kC, kD, kE, kF]
   refine wpAnyH_ready (rs := [5]) (by kernel_rfl) (by simp) ?_
   refine AllReadyH.cons rfl (fun K hK => ?_) AllReadyH.nil
   rw [if_pos (by rfl)]
   go_simp
   refine hK.out _ _ hN6.out (fun hHeld => ?_)
   clear hK K
   try simp only [Act.put, kA, kB, kC, kD, kE, kF]
   refine wpAnyH_ready (rs := [6]) (by kernel_rfl) (by simp) ?_
   refine AllReadyH.cons rfl (fun K hK => ?_) AllReadyH.nil
   rw [if_pos (by rfl)]
   have hB6 : w.heap.size + 1 ≤ W4.drew.heap.size := by have := hbz4.out.size; rw [hzb] at this; exact this
   refine wp_append_reads (.tmp 40) (.tmp 44) 26 rfl (w.heap.size + 1) 34 i1 _ 4 40 Tryz.underlying26 hi hz0 hz1 hz2 (by decide) lw ld.length (dgV ld) rfl (.inr hrl.out) lv4 D.length (dgV D) rfl hrd.out (dgV_len _) (dgV_ones _) (by unfold maxLen; omega) (by omega) hB6 ?_
   intro ao7 c7 w7 hown7 hb7 hk7 _
   have hN7 : Hid (w7.heap[N]? = some (.cells #[.int .i64 nk, .string nt, .int .i64 na, .int .i64 ne, .slice nao nks.length ncap] 25 (0, 0))) := (hk7.block N (lt_of_block hN6.out) (fun e => by have h1 := (hlw1.out N e).2; omega)).trans hN6.out
   refine hK.out _ _ hN7.out (fun hHeld => ?_)
   clear hK K
   try simp only [Act.put, kA, kB, kC, kD, kE, kF]
   have hb7' := Lib.hid hb7
   have hk7' := Lib.hid hk7
   have hdg : DgsIn w7 (.slice ao7 (ld.length + D.length) c7) (ld ++ D) := RowB.dgs (by rw [dgV_app]; exact hown7) (by simp)
   have hSo := Lib.hid (rsorted_walk w7 _ (ld ++ D) hdg (by rw [List.length_append]; omega))
   clear hdg hown7 hb7 hk7 hi hz0 hz1 hz2
   refine wpAnyH_ready (rs := [7]) (by kernel_rfl) (by simp) ?_
   refine AllReadyH.cons rfl (fun K hK => ?_) AllReadyH.nil
   rw [if_pos (by rfl)]
   go_simp
   go_at_call 39
   refine hSo.out.mono ?_
   rintro e w8 ⟨b8, cap8, rfl, hb8, hb8z, g1, g2⟩
   obtain ⟨n8, hn8⟩ : ∃ n, (sortD (ld ++ D)).length = n := ⟨_, rfl⟩
   rw [hn8]
   obtain ⟨v8, hv8⟩ : ∃ v, Value.slice (some ⟨b8, 0, none⟩) n8 cap8 = v := ⟨_, rfl⟩
   rw [hv8]
   have hv8' := Lib.hid hv8
   have hn8' := Lib.hid hn8
   clear hv8 hn8
   have g1' := Lib.hid g1
   have g2' := Lib.hid g2
   clear g1 g2
   have hz1 : Hid (Below (w.heap.size + 1) (w.alloc zbox) w8) := (hbz4.out.trans (Below.refl _ _).drew).trans (hb7'.out.trans (g2'.out.mono (Nat.le_trans hB6 hk7'.out.size)))
   have hz2 : Hid (w8.heap[w.heap.size]? = some zbox) := (hz1.out.block _ (Nat.lt_succ_self _)).trans (block_new _ _ _)
   have hz3 : Hid (w8.heap[N]? = some (.cells #[.int .i64 nk, .string nt, .int .i64 na, .int .i64 ne, .slice nao nks.length ncap] 25 (0, 0))) := (g2'.out.block N (lt_of_block hN7.out)).trans hN7.out
   have hZN : w.heap.size + 1 ≤ N := Nat.le_trans hw1 hNw
   obtain ⟨z0, z1, z2, z3, z4, z5⟩ : w8.cell? ⟨w.heap.size, 0, none⟩ = some (.int .i64 0) ∧ w8.cell? ⟨w.heap.size, 1, none⟩ = some (.string ⟨#[]⟩) ∧ w8.cell? ⟨w.heap.size, 2, none⟩ = some (.int .i64 0) ∧ w8.cell? ⟨w.heap.size, 3, none⟩ = some (.int .i64 0) ∧ w8.cell? ⟨w.heap.size, 4, none⟩ = some (.slice none 0 0) ∧ ∀ i, w8.frozen? ⟨w.heap.size, i, none⟩ = false := by
    have hb := hz2.out
    refine ⟨?_, ?_, ?_, ?_, ?_, fun i => ?_⟩ <;> simp [World.cell?, World.frozen?, hb, zbox]
   refine hK.out _ _ hz3.out (fun hHeld => ?_)
   clear hK K
   try simp only [Act.put, kA, kB, kC, kD, kE, kF]
   refine wpAnyH_ready (rs := [8]) (by kernel_rfl) (by simp) ?_
   refine AllReadyH.cons rfl (fun K hK => ?_) AllReadyH.nil
   rw [if_pos (by rfl)]
   go_simp
   refine hK.out _ _ (((kept5 _ _ _ _ _ _ _).block N (lt_of_block hz3.out) (fun e => by omega)).trans hz3.out) (fun hHeld => ?_)
   clear hK K
   try simp only [Act.put, kA, kB, kC, kD, kE, kF]
   refine tk (i := 9) (v := v8) rfl hHeld ?_
   try simp only [Act.put, kA, kB, kC, kD, kE, kF]
   refine tk (i := 10) (v := .int .i64 0) rfl hHeld ?_
   try simp only [Act.put, kA, kB, kC, kD, kE, kF]
   refine wpAnyH_done (by kernel_rfl) ?_ _
   clear hHeld
   go_wp2
   refine bodyPost_ret (v := .tuple #[.agg #[.int .i64 nk, .string nt, .int .i64 na, .int .i64 ne, .slice nao nks.length ncap], v8, .int .i64 0]) (by simp [results, Tryz.results17, go_sem, z0, z1, z2, z3, z4] <;> rfl) rfl ?_
   rw [hm.out]
   have hKz := kept5 w8 w.heap.size (.int .i64 nk) (.string nt) (.int .i64 na) (.int .i64 ne) (.slice nao nks.length ncap)
   have hsz78 : w7.heap.size ≤ w8.heap.size := g2'.out.size
   have hsz67 : W4.heap.size ≤ w7.heap.size := hk7'.out.size
   refine ⟨v8, nk, nt, na, ne, nao, ncap, nks, rfl, t1'.out, ?_, ?_, ?_, ?_⟩
   ·exact NodeIn.same (w := W4) (G := fun b => w1.heap.size ≤ b) (fun b hb hq => (hKz.block b (by omega) (fun e => by omega)).trans ((g2'.out.block b (by omega)).trans (hk7'.out.block b hb (fun e => by have h1 := (hlw1.out b e).2; omega)))) (Nat.le_trans hsz67 (Nat.le_trans hsz78 hKz.size)) (fun b hb hq => by omega) hnd4.out
   ·rw [← hv8'.out]
    have hb9 : b8 ≠ w.heap.size := by omega
    refine ⟨some ⟨b8, 0, none⟩, cap8, by rw [hn8'.out], fun i hi => ⟨b8, 0, rfl, Nat.lt_of_lt_of_le hb8z hKz.size, fun q u hu => ?_⟩⟩
    rw [Nat.zero_add]
    exact (World.cell?_of_block (a := ⟨b8, _, none⟩) (hKz.block b8 hb8z hb9)).trans (g1'.out.get hi q u hu)
   ·exact ((Below.refl _ w).alloc (Nat.le_refl _) zbox).trans ((hz1.out.mono (Nat.le_succ _)).trans (hKz.below _ (by have := hz1.out.size; simp at this; omega) (fun i hi => Nat.le_of_eq hi.symm)))
   ·simp only
    rw [sortD_len, List.length_append]
    omega
end Go.Proofs.YthggagophcnkfaaGreatDoor.py
