/- The walk of Expression for a text that is not too large. -/
import Derived.Test.YthggagophcnkfaaGreatDoorTk
import Derived.Test.YthggagophcnkfaaGreatDoorM12
namespace Go.Proofs.YthggagophcnkfaaGreatDoor.px
open Go.RowKit Go.Proofs.YthggagophcnkfaaGreatDoor.agg Go.Proofs.YthggagophcnkfaaGreatDoor.sx Go.Proofs.YthggagophcnkfaaGreatDoor.lx Go.Proofs.YthggagophcnkfaaGreatDoor.so
set_option linter.unusedSimpArgs false
set_option linter.unusedVariables false
def Src.upto (S : Src) (s : Ps) : Src := ⟨S.T, S.L, S.list s⟩
theorem upto_list (S : Src) (s : Ps) : (S.upto s).list ⟨s.at_, []⟩ = S.list s := by
 unfold Src.upto Src.list
 simp
theorem PAt.upto {w : World} {P : Nat} {tv lv : Value} {S : Src} {s : Ps} {la fo : Int} (h : PAt w P tv lv S s la fo) (hl : (S.list s).length ≤ 15000) : PAt w P tv lv (S.upto s) ⟨s.at_, []⟩ la fo :=
 ⟨h.box, h.toks, h.far, by rw [upto_list]; exact h.list, h.apart, ⟨h.ok.size, h.ok.len, h.ok.pos, h.ok.rng, h.ok.fin, h.ok.mono, hl⟩, ⟨h.sok.lt, by simp, by simp⟩, h.lab, h.fob⟩
theorem list_small {T : ByteArray} (hT : T.size ≤ 4096) {s : Ps} (hs : PsOk (src T) s) : ((src T).list s).length ≤ 15000 := by
 unfold Src.list
 rw [List.length_append, List.length_map]
 have h1 := hs.cnt
 have h2 := hs.lt
 have h3 : (src T).D.length ≤ 4098 := by
  have h4 := lexDgs_len T (toks T)
  have h5 := toks_len' T
  show ((toks T).flatMap (lexDg T)).length ≤ 4098
  omega
 have h6 := (src_ok T hT).len
 split at h1 <;> omega
set_option maxRecDepth 100000 in
set_option maxHeartbeats 4000000 in
theorem expr_walk (w : World) (hT : TabIn w) (T : ByteArray) (hs : T.size ≤ 4096) : Calls Tryz.prog 16 #[.string T] w (PEnd w (parseE T)) := by
 obtain ⟨S, hS⟩ : ∃ S, src T = S := ⟨_, rfl⟩
 have hB := Lib.hid (fun (W : World) (hb : Below w.heap.size w W) => begin_walk W (hT.below hb) T hs)
 unfold BeginEnd at hB
 obtain ⟨R, hR⟩ : ∃ R, expression (src T).A ⟨0, []⟩ = R := ⟨_, rfl⟩
 obtain ⟨r1, r2⟩ := R
 have hm : Hid (parseE T = ((src T).tree r1, sortD ((src T).list (if atEnd (src T).A r2 then r2 else { r2 with reps := r2.reps ++ [⟨4, r2.at_, (ByteArray.mk #[101, 110, 100])⟩] })))) := by
  unfold parseE
  rw [hR]
  exact rfl
 have hlo : Hid (∀ s, PsOk (src T) s → OkD ((src T).list s) ∧ ((src T).list s).length ≤ 15000) := fun s h => ⟨list_ok hs h, list_small hs h⟩
 have hE := Lib.hid (fun (W : World) (P : Nat) (tv lv : Value) (q : PIn W P tv lv (src T) ⟨0, []⟩) => expression_all q)
 rw [hR] at hE
 rw [hS] at hB hm hlo hE
 generalize parseE T = m at *
 clear hR hT hS
 go_enter Tryz.func16, Tryz.ntmps16
 go_upto_region 5 with (first
  | (go_at_call 43; refine (hE.out _ _ _ _ p1'.out).mono ?_; rintro e w2 ⟨lv2, nk, nt, na, ne, nao, ncap, nks, rfl, t1, t2, t3, t4, t5, t6⟩; have t1' := Lib.hid t1; have t2' := Lib.hid t2; have t3' := Lib.hid t3; have t4' := Lib.hid t4; have t5' := Lib.hid t5; clear t1 t2 t3 t4 t5 t6)
  | (go_at_call 27; refine (hB.out _ (by repeat (first | exact Below.refl _ _ | apply bl_drew | apply bl_alloc))).mono ?_; rintro e w1 ⟨P, tv, lv, rfl, p1, p2, p3⟩; have p1' := Lib.hid p1; have p2' := Lib.hid p2; have p3' := Lib.hid p3; clear p1 p2 p3))
 obtain ⟨W2, hW2⟩ : ∃ W2, w2.alloc (.cells #[.int .i64 nk, .string nt, .int .i64 na, .int .i64 ne, .slice nao nks.length ncap] 25) = W2 := ⟨_, rfl⟩
 rw [hW2]
 have hb2 : Hid (Below w2.heap.size w2 W2) := by unfold Hid; rw [← hW2]; exact (Below.refl _ _).alloc (Nat.le_refl _) _
 have hx2 : Hid (W2.heap[w2.heap.size]? = some (.cells #[.int .i64 nk, .string nt, .int .i64 na, .int .i64 ne, .slice nao nks.length ncap] 25 (0, 0))) := by unfold Hid; rw [← hW2]; exact block_new _ _ _
 clear hW2
 have hN2 : Hid (¬ pfoot P lv2 w2.heap.size) := fun e => by have := t3'.out.lt _ e; omega
 have hen := Lib.hid (end_walk (t3'.out.below hb2.out))
 have hq2 := Lib.hid (t3'.out.below hb2.out)
 obtain ⟨N, hNe⟩ : ∃ N, w2.heap.size = N := ⟨_, rfl⟩
 have hNs := Lib.hid hNe
 rw [hNe] at hx2 hN2 ⊢
 clear hNe
 have hpf : Hid (∀ i, pfoot P lv i → w.heap.size + 1 ≤ i) := fun i hi => by have := p2'.out i (.inl hi); simpa using this
 cases hat : atEnd S.A r2 with
 | true =>
  rw [hat] at hen hm
  have hm5 : Hid (m = (S.tree r1, sortD (S.list r2))) := by have := hm.out; rw [if_pos rfl] at this; exact this
  have hok := hlo.out _ t3'.out.sok
  go_upto_region 8 with (go_at_call 28; refine hen.out.mono ?_; rintro e w3 ⟨rfl, b3⟩; have b3' := Lib.hid b3; clear b3)
  have q5 := hq2.out.below b3'.out
  have hDg := Lib.hid (diag_walk (q5.below (Below.refl _ _).drew) hok.1 (by omega))
  unfold DiagsEnd at hDg
  generalize S.list r2 = D at *
  have hK5 : Hid (Kept (pfoot P lv2) w2 w3) := (Kept.of_below hb2.out).trans (.of_below b3'.out)
  have hF5 : Hid (Fresh w2 lv2 lv2) := fresh_same _ _
  have hx5 : Hid (w3.heap[N]? = some (.cells #[.int .i64 nk, .string nt, .int .i64 na, .int .i64 ne, .slice nao nks.length ncap] 25 (0, 0))) := (b3'.out.block N (lt_of_block hx2.out)).trans hx2.out
  have hN5 : Hid (¬ pfoot P lv2 N) := hN2
  clear hat hen hm hok hlo hb2 hx2 hq2 q5 b3' hB hE p1' t3'
  have hz1 : Hid (Below (w.heap.size + 1) (w.alloc zbox) w3) := by
   have a1 := p3'.out
   have ez : (w.alloc zbox).heap.size = w.heap.size + 1 := by simp
   rw [ez] at a1
   have a0 := a1.size
   rw [ez] at a0
   have a2 := t4'.out.below (w.heap.size + 1) a0 hpf.out
   have a3 := hK5.out.below (w.heap.size + 1) (Nat.le_trans a0 t4'.out.size) (fun i hi => by
    rcases hi with rfl | hi
    ·exact hpf.out _ (.inl rfl)
    ·rcases t5'.out i hi with e | e
     ·exact hpf.out i (.inr e)
     ·omega)
   exact a1.trans (a2.trans a3)
  have hlo5 : Hid (∀ i, lv2.ownBlock = some i → w.heap.size + 1 ≤ i) := fun i hi => by
   rcases hF5.out i hi with e | e
   ·rcases t5'.out i e with e2 | e2
    ·exact hpf.out i (.inr e2)
    ·have := p3'.out.size
     simp at this
     omega
   ·have e3 := p3'.out.size
    have e4 := t4'.out.size
    simp at e3
    omega
  have hw1 : w.heap.size + 1 ≤ w1.heap.size := by have := p3'.out.size; simpa using this
  refine wp_region_held_drew (S := fun u => u.heap[N]? = some (.cells #[.int .i64 nk, .string nt, .int .i64 na, .int .i64 ne, .slice nao nks.length ncap] 25 (0, 0))) (by kernel_rfl) hx5.out (fun hHeld => ?_)
  refine tk (i := 0) (v := .agg #[.int .i64 nk, .string nt, .int .i64 na, .int .i64 ne, .slice nao nks.length ncap]) (hy := yieldsIf_load_mid (by rfl) _ _ rfl _ _ rfl [.int .i64 nk, .string nt, .int .i64 na, .int .i64 ne, .slice nao nks.length ncap] _ (fun _ h => rangeAt_whole h) Tryz.underlying25 rfl info_nds) rfl hHeld ?_
  try simp only [Act.put, kA, kB, kC, kD, kE, kF]
  refine tk (i := 1) (v := .pointer (some ⟨P, 0, none⟩)) rfl hHeld ?_
  try simp only [Act.put, kA, kB, kC, kD, kE, kF]
  refine wpAnyH_ready (rs := [2]) (by kernel_rfl) (by simp) ?_
  refine AllReadyH.cons rfl (fun K hK => ?_) AllReadyH.nil
  rw [if_pos (by rfl)]
  go_simp
  go_at_call 30
  refine hDg.out.mono ?_
  rintro e w7 ⟨rfl, g1, g2⟩
  have g1' := Lib.hid g1
  have g2' := Lib.hid g2
  clear g1 g2
  have hz7 : Hid (Below (w.heap.size + 1) (w.alloc zbox) w7) := hz1.out.trans ((Below.refl _ _).drew.trans (g2'.out.below (w.heap.size + 1) (by have := hz1.out.size; simp at this; exact this) (fun i hi => hlo5.out i hi)))
  have hz2 : Hid (w7.heap[w.heap.size]? = some zbox) := (hz7.out.block _ (Nat.lt_succ_self _)).trans (block_new _ _ _)
  have hz3 : Hid (w7.heap[N]? = some (.cells #[.int .i64 nk, .string nt, .int .i64 na, .int .i64 ne, .slice nao nks.length ncap] 25 (0, 0))) := (g2'.out.block N (lt_of_block hx5.out) (fun e => hN5.out (.inr e))).trans hx5.out
  have hZN : w.heap.size + 1 ≤ N := by have := hNs.out; have := t4'.out.size; omega
  obtain ⟨z0, z1, z2, z3, z4, z5⟩ : w7.cell? ⟨w.heap.size, 0, none⟩ = some (.int .i64 0) ∧ w7.cell? ⟨w.heap.size, 1, none⟩ = some (.string ⟨#[]⟩) ∧ w7.cell? ⟨w.heap.size, 2, none⟩ = some (.int .i64 0) ∧ w7.cell? ⟨w.heap.size, 3, none⟩ = some (.int .i64 0) ∧ w7.cell? ⟨w.heap.size, 4, none⟩ = some (.slice none 0 0) ∧ ∀ i, w7.frozen? ⟨w.heap.size, i, none⟩ = false := by
   have hb := hz2.out
   refine ⟨?_, ?_, ?_, ?_, ?_, fun i => ?_⟩ <;> simp [World.cell?, World.frozen?, hb, zbox]
  refine hK.out _ _ hz3.out (fun hHeld => ?_)
  clear hK K
  try simp only [Act.put, kA, kB, kC, kD, kE, kF]
  refine wpAnyH_ready (rs := [3]) (by kernel_rfl) (by simp) ?_
  refine AllReadyH.cons rfl (fun K hK => ?_) AllReadyH.nil
  rw [if_pos (by rfl)]
  go_simp
  refine hK.out _ _ (((kept5 _ _ _ _ _ _ _).block N (lt_of_block hz3.out) (fun e => by omega)).trans hz3.out) (fun hHeld => ?_)
  clear hK K
  try simp only [Act.put, kA, kB, kC, kD, kE, kF]
  refine tk (i := 4) (v := lv2) rfl hHeld ?_
  try simp only [Act.put, kA, kB, kC, kD, kE, kF]
  refine tk (i := 5) (v := .int .i64 0) rfl hHeld ?_
  try simp only [Act.put, kA, kB, kC, kD, kE, kF]
  refine wpAnyH_done (by kernel_rfl) ?_ _
  clear hHeld
  go_wp2
  refine bodyPost_ret (v := .tuple #[.agg #[.int .i64 nk, .string nt, .int .i64 na, .int .i64 ne, .slice nao nks.length ncap], lv2, .int .i64 0]) (by simp [results, Tryz.results16, go_sem, z0, z1, z2, z3, z4] <;> rfl) rfl ?_
  rw [hm5.out]
  have hKz := kept5 w7 w.heap.size (.int .i64 nk) (.string nt) (.int .i64 na) (.int .i64 ne) (.slice nao nks.length ncap)
  have hl : (S.tree r1).kids.length = nks.length := by
   have := t1'.out
   rw [← this, Nd.tr_kids, List.length_map]
   rfl
  have hnode : NodeIn (fun b => w1.heap.size ≤ b ∧ ¬ pfoot P lv2 b) w2 (Nd.mk nk nt na ne (.slice nao nks.length ncap) nks) := t2'.out
  have hsz2 : w2.heap.size ≤ w7.heap.size := Nat.le_trans hK5.out.size (show w3.heap.size ≤ w7.heap.size from g2'.out.size)
  have hn7 : NodeIn (fun b => w1.heap.size ≤ b) (((((w7.setCell ⟨w.heap.size, 0, none⟩ (.int .i64 nk)).setCell ⟨w.heap.size, 1, none⟩ (.string nt)).setCell ⟨w.heap.size, 2, none⟩ (.int .i64 na)).setCell ⟨w.heap.size, 3, none⟩ (.int .i64 ne)).setCell ⟨w.heap.size, 4, none⟩ (.slice nao nks.length ncap)) (Nd.mk nk nt na ne (.slice nao nks.length ncap) nks) :=
   NodeIn.same (w := w2) (G := fun b => w1.heap.size ≤ b ∧ ¬ pfoot P lv2 b) (fun b hb hq => by
    have e1 := hK5.out.block b hb hq.2
    have e2 := g2'.out.block b (show b < w3.heap.size from Nat.lt_of_lt_of_le hb hK5.out.size) (fun e => pfoot_fresh hF5.out hb hq.2 (.inr e))
    have e3 := hKz.block b (Nat.lt_of_lt_of_le hb hsz2) (fun e => by have := hq.1; omega)
    exact e3.trans (e2.trans e1)) (Nat.le_trans hsz2 hKz.size) (fun b _ hq => hq.1) hnode
  refine ⟨nao, ncap, lv2, ?_, ?_, ?_, ?_⟩
  ·rw [hl]
   have h9 := t1'.out
   simp only
   rw [← h9]
   rfl
  ·rw [hl]
   cases hn7 with
   | mk k1 k2 => exact ⟨_, nks, k1, k2, by have h9 := t1'.out; simp only; rw [← h9]; rfl⟩
  ·refine .of_row (B := 0) ?_
   have h1 : (sortD D).length = D.length := sortD_len _
   rw [h1]
   exact ownsRow_same g1'.out (fun b hb => hKz.block b (g1'.out.lt b hb).2 (fun e => by have := hlo5.out b hb; omega))
  ·exact ((Below.refl _ w).alloc (Nat.le_refl _) zbox).trans ((hz7.out.mono (Nat.le_succ _)).trans (hKz.below _ (by have := hz7.out.size; simp at this; omega) (fun i hi => Nat.le_of_eq hi.symm)))
 | false =>
  rw [hat] at hen hm
  go_upto_region 6 with (go_at_call 28; refine hen.out.mono ?_; rintro e w3 ⟨rfl, b3⟩; have b3' := Lib.hid b3; clear b3)
  have q3 := hq2.out.below b3'.out
  obtain ⟨_, _, _, _, c4, _, cf⟩ := q3.cell
  have hok := hlo.out _ t3'.out.sok
  have q4 : Hid (PIn (w3.setCell ⟨P, 4, none⟩ (.int .i64 (-1))) P tv lv2 (S.upto r2) ⟨r2.at_, []⟩) := by
   refine (q3.upto hok.2).put (Kept.setCell (F := fun b => b = P) w3 (a := ⟨P, _, none⟩) rfl _) ?_ rfl (q3.upto hok.2).sok q3.lab (by unfold Src.found; simp)
   rw [heap_setCell_same _ _ _ _ _ _ q3.box]
   exact rfl
  have hR := Lib.hid (report_walk q4.out 4 ((ByteArray.mk #[101, 110, 100])) ⟨by decide, by decide, by decide⟩)
  have hrep : Hid (report 4 ((ByteArray.mk #[101, 110, 100])) ⟨r2.at_, []⟩ = ⟨r2.at_, [⟨4, r2.at_, (ByteArray.mk #[101, 110, 100])⟩]⟩) := rfl
  rw [hrep.out] at hR
  have hm5 : Hid (m = (S.tree r1, sortD ((S.upto r2).list ⟨r2.at_, [⟨4, r2.at_, (ByteArray.mk #[101, 110, 100])⟩]⟩))) := by
   have h1 := hm.out
   rw [if_neg (by simp), list_last] at h1
   have h2 : (S.upto r2).list ⟨r2.at_, [⟨4, r2.at_, (ByteArray.mk #[101, 110, 100])⟩]⟩ = S.list r2 ++ [⟨4, (S.tk r2).at_, (S.tk r2).to, (ByteArray.mk #[101, 110, 100])⟩] := rfl
   rw [h2]
   exact h1
  have hD5 : Hid (OkD ((S.upto r2).list ⟨r2.at_, [⟨4, r2.at_, (ByteArray.mk #[101, 110, 100])⟩]⟩) ∧ ((S.upto r2).list ⟨r2.at_, [⟨4, r2.at_, (ByteArray.mk #[101, 110, 100])⟩]⟩).length ≤ 100000) := by
   have h2 : (S.upto r2).list ⟨r2.at_, [⟨4, r2.at_, (ByteArray.mk #[101, 110, 100])⟩]⟩ = S.list r2 ++ [⟨4, (S.tk r2).at_, (S.tk r2).to, (ByteArray.mk #[101, 110, 100])⟩] := rfl
   unfold Hid
   rw [h2]
   obtain ⟨g1, g2, g3, g4⟩ := q3.rng
   refine ⟨fun d hd => ?_, by rw [List.length_append]; have := hok.2; simp only [List.length_singleton]; omega⟩
   rcases List.mem_append.1 hd with hd | hd
   ·exact hok.1 d hd
   ·rw [List.mem_singleton.1 hd]
    exact ⟨Int.natCast_nonneg _, by simp only; omega⟩
  have hK4 : Hid (Kept (pfoot P lv2) w2 (w3.setCell ⟨P, 4, none⟩ (.int .i64 (-1)))) := ((Kept.of_below hb2.out).trans (.of_below b3'.out)).trans (kept_set 4 _)
  have hx3 := (b3'.out.block N (lt_of_block hx2.out)).trans hx2.out
  have hNP : N ≠ P := fun e => hN2.out (.inl e)
  have hx4 : Hid ((w3.setCell ⟨P, 4, none⟩ (.int .i64 (-1))).heap[N]? = some (.cells #[.int .i64 nk, .string nt, .int .i64 na, .int .i64 ne, .slice nao nks.length ncap] 25 (0, 0))) := (heap_setCell_other _ _ _ _ (fun e => hNP e)).trans hx3
  have hfz := cf 4
  clear hat hen hm hok hlo hb2 hx2 hq2 hx3 cf hrep hB hE p1' t3' q3
  go_upto_region 8 with (go_at_call 44; refine hR.out.mono ?_; rintro e w5 ⟨lv5, rfl, u1, u2, u3, _⟩; have u1' := Lib.hid u1; have u2' := Lib.hid u2; have u3' := Lib.hid u3; clear u1 u2 u3)
  have hDg := Lib.hid (diag_walk (u1'.out.below (Below.refl _ _).drew) hD5.out.1 hD5.out.2)
  unfold DiagsEnd at hDg
  generalize (S.upto r2).list ⟨r2.at_, [⟨4, r2.at_, (ByteArray.mk #[101, 110, 100])⟩]⟩ = D at *
  have hst := step2 hK4.out (fresh_same _ _) u2'.out (fun i hi => (u3'.out i hi))
  have hK5 : Hid (Kept (pfoot P lv2) w2 w5) := hst.1
  have hF5 : Hid (Fresh w2 lv2 lv5) := hst.2
  have hx5 : Hid (w5.heap[N]? = some (.cells #[.int .i64 nk, .string nt, .int .i64 na, .int .i64 ne, .slice nao nks.length ncap] 25 (0, 0))) := (u2'.out.block N (lt_of_block hx4.out) hN2.out).trans hx4.out
  have hN5 : Hid (¬ pfoot P lv5 N) := pfoot_fresh u3'.out (lt_of_block hx4.out) hN2.out
  clear hst hD5 hK4 hx4 hfz c4 q4 hR u1' u2' u3' b3'
  have hz1 : Hid (Below (w.heap.size + 1) (w.alloc zbox) w5) := by
   have a1 := p3'.out
   have ez : (w.alloc zbox).heap.size = w.heap.size + 1 := by simp
   rw [ez] at a1
   have a0 := a1.size
   rw [ez] at a0
   have a2 := t4'.out.below (w.heap.size + 1) a0 hpf.out
   have a3 := hK5.out.below (w.heap.size + 1) (Nat.le_trans a0 t4'.out.size) (fun i hi => by
    rcases hi with rfl | hi
    ·exact hpf.out _ (.inl rfl)
    ·rcases t5'.out i hi with e | e
     ·exact hpf.out i (.inr e)
     ·omega)
   exact a1.trans (a2.trans a3)
  have hlo5 : Hid (∀ i, lv5.ownBlock = some i → w.heap.size + 1 ≤ i) := fun i hi => by
   rcases hF5.out i hi with e | e
   ·rcases t5'.out i e with e2 | e2
    ·exact hpf.out i (.inr e2)
    ·have := p3'.out.size
     simp at this
     omega
   ·have e3 := p3'.out.size
    have e4 := t4'.out.size
    simp at e3
    omega
  have hw1 : w.heap.size + 1 ≤ w1.heap.size := by have := p3'.out.size; simpa using this
  refine wp_region_held_drew (S := fun u => u.heap[N]? = some (.cells #[.int .i64 nk, .string nt, .int .i64 na, .int .i64 ne, .slice nao nks.length ncap] 25 (0, 0))) (by kernel_rfl) hx5.out (fun hHeld => ?_)
  refine tk (i := 0) (v := .agg #[.int .i64 nk, .string nt, .int .i64 na, .int .i64 ne, .slice nao nks.length ncap]) (hy := yieldsIf_load_mid (by rfl) _ _ rfl _ _ rfl [.int .i64 nk, .string nt, .int .i64 na, .int .i64 ne, .slice nao nks.length ncap] _ (fun _ h => rangeAt_whole h) Tryz.underlying25 rfl info_nds) rfl hHeld ?_
  try simp only [Act.put, kA, kB, kC, kD, kE, kF]
  refine tk (i := 1) (v := .pointer (some ⟨P, 0, none⟩)) rfl hHeld ?_
  try simp only [Act.put, kA, kB, kC, kD, kE, kF]
  refine wpAnyH_ready (rs := [2]) (by kernel_rfl) (by simp) ?_
  refine AllReadyH.cons rfl (fun K hK => ?_) AllReadyH.nil
  rw [if_pos (by rfl)]
  go_simp
  go_at_call 30
  refine hDg.out.mono ?_
  rintro e w7 ⟨rfl, g1, g2⟩
  have g1' := Lib.hid g1
  have g2' := Lib.hid g2
  clear g1 g2
  have hz7 : Hid (Below (w.heap.size + 1) (w.alloc zbox) w7) := hz1.out.trans ((Below.refl _ _).drew.trans (g2'.out.below (w.heap.size + 1) (by have := hz1.out.size; simp at this; exact this) (fun i hi => hlo5.out i hi)))
  have hz2 : Hid (w7.heap[w.heap.size]? = some zbox) := (hz7.out.block _ (Nat.lt_succ_self _)).trans (block_new _ _ _)
  have hz3 : Hid (w7.heap[N]? = some (.cells #[.int .i64 nk, .string nt, .int .i64 na, .int .i64 ne, .slice nao nks.length ncap] 25 (0, 0))) := (g2'.out.block N (lt_of_block hx5.out) (fun e => hN5.out (.inr e))).trans hx5.out
  have hZN : w.heap.size + 1 ≤ N := by have := hNs.out; have := t4'.out.size; omega
  obtain ⟨z0, z1, z2, z3, z4, z5⟩ : w7.cell? ⟨w.heap.size, 0, none⟩ = some (.int .i64 0) ∧ w7.cell? ⟨w.heap.size, 1, none⟩ = some (.string ⟨#[]⟩) ∧ w7.cell? ⟨w.heap.size, 2, none⟩ = some (.int .i64 0) ∧ w7.cell? ⟨w.heap.size, 3, none⟩ = some (.int .i64 0) ∧ w7.cell? ⟨w.heap.size, 4, none⟩ = some (.slice none 0 0) ∧ ∀ i, w7.frozen? ⟨w.heap.size, i, none⟩ = false := by
   have hb := hz2.out
   refine ⟨?_, ?_, ?_, ?_, ?_, fun i => ?_⟩ <;> simp [World.cell?, World.frozen?, hb, zbox]
  refine hK.out _ _ hz3.out (fun hHeld => ?_)
  clear hK K
  try simp only [Act.put, kA, kB, kC, kD, kE, kF]
  refine wpAnyH_ready (rs := [3]) (by kernel_rfl) (by simp) ?_
  refine AllReadyH.cons rfl (fun K hK => ?_) AllReadyH.nil
  rw [if_pos (by rfl)]
  go_simp
  refine hK.out _ _ (((kept5 _ _ _ _ _ _ _).block N (lt_of_block hz3.out) (fun e => by omega)).trans hz3.out) (fun hHeld => ?_)
  clear hK K
  try simp only [Act.put, kA, kB, kC, kD, kE, kF]
  refine tk (i := 4) (v := lv5) rfl hHeld ?_
  try simp only [Act.put, kA, kB, kC, kD, kE, kF]
  refine tk (i := 5) (v := .int .i64 0) rfl hHeld ?_
  try simp only [Act.put, kA, kB, kC, kD, kE, kF]
  refine wpAnyH_done (by kernel_rfl) ?_ _
  clear hHeld
  go_wp2
  refine bodyPost_ret (v := .tuple #[.agg #[.int .i64 nk, .string nt, .int .i64 na, .int .i64 ne, .slice nao nks.length ncap], lv5, .int .i64 0]) (by simp [results, Tryz.results16, go_sem, z0, z1, z2, z3, z4] <;> rfl) rfl ?_
  rw [hm5.out]
  have hKz := kept5 w7 w.heap.size (.int .i64 nk) (.string nt) (.int .i64 na) (.int .i64 ne) (.slice nao nks.length ncap)
  have hl : (S.tree r1).kids.length = nks.length := by
   have := t1'.out
   rw [← this, Nd.tr_kids, List.length_map]
   rfl
  have hnode : NodeIn (fun b => w1.heap.size ≤ b ∧ ¬ pfoot P lv2 b) w2 (Nd.mk nk nt na ne (.slice nao nks.length ncap) nks) := t2'.out
  have hsz2 : w2.heap.size ≤ w7.heap.size := Nat.le_trans hK5.out.size (show w5.heap.size ≤ w7.heap.size from g2'.out.size)
  have hn7 : NodeIn (fun b => w1.heap.size ≤ b) (((((w7.setCell ⟨w.heap.size, 0, none⟩ (.int .i64 nk)).setCell ⟨w.heap.size, 1, none⟩ (.string nt)).setCell ⟨w.heap.size, 2, none⟩ (.int .i64 na)).setCell ⟨w.heap.size, 3, none⟩ (.int .i64 ne)).setCell ⟨w.heap.size, 4, none⟩ (.slice nao nks.length ncap)) (Nd.mk nk nt na ne (.slice nao nks.length ncap) nks) :=
   NodeIn.same (w := w2) (G := fun b => w1.heap.size ≤ b ∧ ¬ pfoot P lv2 b) (fun b hb hq => by
    have e1 := hK5.out.block b hb hq.2
    have e2 := g2'.out.block b (show b < w5.heap.size from Nat.lt_of_lt_of_le hb hK5.out.size) (fun e => pfoot_fresh hF5.out hb hq.2 (.inr e))
    have e3 := hKz.block b (Nat.lt_of_lt_of_le hb hsz2) (fun e => by have := hq.1; omega)
    exact e3.trans (e2.trans e1)) (Nat.le_trans hsz2 hKz.size) (fun b _ hq => hq.1) hnode
  refine ⟨nao, ncap, lv5, ?_, ?_, ?_, ?_⟩
  ·rw [hl]
   have h9 := t1'.out
   simp only
   rw [← h9]
   rfl
  ·rw [hl]
   cases hn7 with
   | mk k1 k2 => exact ⟨_, nks, k1, k2, by have h9 := t1'.out; simp only; rw [← h9]; rfl⟩
  ·refine .of_row (B := 0) ?_
   have h1 : (sortD D).length = D.length := sortD_len _
   rw [h1]
   exact ownsRow_same g1'.out (fun b hb => hKz.block b (g1'.out.lt b hb).2 (fun e => by have := hlo5.out b hb; omega))
  ·exact ((Below.refl _ w).alloc (Nat.le_refl _) zbox).trans ((hz7.out.mono (Nat.le_succ _)).trans (hKz.below _ (by have := hz7.out.size; simp at this; omega) (fun i hi => Nat.le_of_eq hi.symm)))
end Go.Proofs.YthggagophcnkfaaGreatDoor.px
