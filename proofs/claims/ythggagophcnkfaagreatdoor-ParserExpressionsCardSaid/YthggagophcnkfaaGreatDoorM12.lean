/- Trees that are read. No function of the program is walked here. The examples that the parser's statements check first: what is read of them. No function of the program is walked here. The walk of the examples that the parser's statements check first. -/
import Derived.Test.YthggagophcnkfaaGreatDoorM34
import Derived.Test.YthggagophcnkfaaGreatDoorM45
import Derived.Test.YthggagophcnkfaaGreatDoorM1
import Derived.Test.YthggagophcnkfaaGreatDoorTk
namespace Go.Proofs.YthggagophcnkfaaGreatDoor.px
open Go.RowKit Go.Proofs.YthggagophcnkfaaGreatDoor.agg Go.Proofs.YthggagophcnkfaaGreatDoor.sx Go.Proofs.YthggagophcnkfaaGreatDoor.lx Go.Proofs.YthggagophcnkfaaGreatDoor.so
set_option linter.unusedSimpArgs false
set_option linter.unusedVariables false
def TreesIn (w : World) (kv : Value) (ts : List Tr) : Prop := ∃ (G : Nat → Prop) (ks : List Nd), KidsAt G w kv ks ∧ (∀ n ∈ ks, NodeIn G w n) ∧ trs ks = ts
theorem TreesIn.below {w w' : World} {kv : Value} {ts : List Tr} (h : TreesIn w kv ts) (hb : Below w.heap.size w w') : TreesIn w' kv ts := by
 obtain ⟨G, ks, h1, h2, h3⟩ := h
 exact ⟨G, ks, h1.same (fun b hb' _ => hb.block b hb') hb.size (fun _ _ h => h), fun n hn => (h2 n hn).later hb, h3⟩
def trow (t : Tr) (kv : Value) : List Value := [.int .i64 t.kind, .string t.text, .int .i64 t.fr, .int .i64 t.to, kv]
theorem TreesIn.at_ {w : World} {kv : Value} {ts : List Tr} (h : TreesIn w kv ts) : ∃ ao cap, kv = .slice ao ts.length cap ∧ ts.length ≤ 140737488355328 ∧ ∀ i (hi : i < ts.length), ∃ b o kv', ao = some ⟨b, o, none⟩ ∧ b < w.heap.size ∧ w.rangeAt b (o + i * 5) (trow ts[i] kv') ∧ TreesIn w kv' ts[i].kids := by
 obtain ⟨G, ks, ⟨ao, cap, rfl, hl, hc⟩, h2, rfl⟩ := h
 have e : (trs ks).length = ks.length := by rw [trs_map, List.length_map]
 refine ⟨ao, cap, by rw [e], by rw [e]; exact hl, fun i hi => ?_⟩
 rw [e] at hi
 obtain ⟨b, o, rfl, hG, hlt, hcj⟩ := hc (by omega)
 have hi2 : (trs ks)[i]'(by rw [e]; exact hi) = ks[i].tr := by simp [trs_map]
 have hn := h2 _ (List.getElem_mem hi)
 have hcj' := hcj i hi
 rw [hi2]
 generalize ks[i] = n at *
 cases hn with
 | @mk k t a e' kv' ks' h1' h2' =>
  refine ⟨b, o, kv', rfl, hlt, fun j u hu => hcj' j u ?_, ?_⟩
  ·simpa [trow, Nd.cells, Nd.tr, Tr.kind, Tr.text, Tr.fr, Tr.to, Nd.kind, Nd.text, Nd.fr, Nd.to, Nd.kv] using hu
  ·exact ⟨G, ks', h1', h2', by simp [Nd.tr, Tr.kids]⟩
def PEnd (w : World) (r : Tr × List Dg) (e : Ending) (w' : World) : Prop :=
 ∃ ao cap lv, e = .returned (.tuple #[.agg #[.int .i64 r.1.kind, .string r.1.text, .int .i64 r.1.fr, .int .i64 r.1.to, .slice ao r.1.kids.length cap], lv, .int .i64 0]) ∧ TreesIn w' (.slice ao r.1.kids.length cap) r.1.kids ∧ DgsIn w' lv r.2 ∧ Below w.heap.size w w'
theorem ParseEnd.read {w : World} {T : ByteArray} {r : Tr × List Dg} {e : Ending} {w' : World} (h : ParseEnd w T r e w') : PEnd w r e w' := by
 obtain ⟨lv, nk, nt, na, ne, nao, ncap, nks, rfl, h1, h2, h3, h4, _⟩ := h
 have hl : r.1.kids.length = nks.length := by
  rw [← h1, Nd.tr_kids, List.length_map]
  rfl
 cases h2 with
 | mk k1 k2 =>
  refine ⟨nao, ncap, lv, ?_, ?_, .of_row h3, h4⟩
  ·rw [hl, ← h1]
   rfl
  ·rw [hl]
   exact ⟨_, nks, k1, k2, by rw [← h1]; rfl⟩
theorem parse_read (w : World) (hT : TabIn w) (T : ByteArray) (hs : T.size ≤ 4096) : Calls Tryz.prog 10 #[.string T] w (PEnd w (parse T)) :=
 (parse_walk w hT T hs).mono fun _ _ h => h.read
theorem range_cell {w : World} {b o : Nat} {cs : List Value} (h : w.rangeAt b o cs) (j : Nat) {v : Value} (hv : cs[j]? = some v) : w.cell? ⟨b, o + j, none⟩ = some v := h j v hv
end Go.Proofs.YthggagophcnkfaaGreatDoor.px
namespace Go.Proofs.YthggagophcnkfaaGreatDoor.px
open Go.RowKit Go.Proofs.YthggagophcnkfaaGreatDoor.agg Go.Proofs.YthggagophcnkfaaGreatDoor.sx
set_option linter.unusedSimpArgs false
set_option linter.unusedVariables false
def ex1 : ByteArray := (ByteArray.mk #[115, 111, 114, 116, 32, 115, 32, 48, 50, 59, 32, 99, 111, 117, 110, 116, 101, 114, 32, 99, 40, 97, 58, 32, 115, 41, 32, 105, 110, 32, 45, 49, 46, 46, 51, 59])
def ex2 : ByteArray := (ByteArray.mk #[111, 112, 101, 114, 97, 116, 105, 111, 110, 32, 111, 40, 120, 32, 105, 110, 32, 48, 46, 46, 49, 41, 32, 123, 32, 114, 101, 113, 117, 105, 114, 101, 32, 120, 32, 60, 59, 32, 125])
def ex3 : ByteArray := (ByteArray.mk #[115, 111, 114, 116, 32, 115, 32, 50])
def tr1 : Tr := .mk 2 ⟨#[]⟩ 0 36 [.mk 3 ((ByteArray.mk #[115])) 0 10 [.mk 36 ((ByteArray.mk #[50])) 7 9 []], .mk 5 ((ByteArray.mk #[99])) 11 36 [.mk 10 ⟨#[]⟩ 20 26 [.mk 11 ((ByteArray.mk #[97])) 21 25 [.mk 35 ((ByteArray.mk #[115])) 24 25 []]], .mk 12 ⟨#[]⟩ 30 35 [.mk 37 ((ByteArray.mk #[45, 49])) 30 32 [], .mk 37 ((ByteArray.mk #[51])) 34 35 []]]]
theorem parse_ex1 : parse ex1 = (tr1, []) := by kernel_rfl
theorem parse_ex2 : (parse ex2).2 = [⟨5, 36, 37, ⟨#[]⟩⟩] := by kernel_rfl
theorem parse_ex3 : (parse ex3).2 = [⟨4, 8, 8, (ByteArray.mk #[59])⟩] := by kernel_rfl
end Go.Proofs.YthggagophcnkfaaGreatDoor.px
namespace Go.Proofs.YthggagophcnkfaaGreatDoor.px
open Go.RowKit Go.Proofs.YthggagophcnkfaaGreatDoor.agg Go.Proofs.YthggagophcnkfaaGreatDoor.sx Go.Proofs.YthggagophcnkfaaGreatDoor.lx Go.Proofs.YthggagophcnkfaaGreatDoor.so
set_option linter.unusedSimpArgs false
set_option linter.unusedVariables false
def BelA (B : Nat) (w u : World) : Prop := ∀ o, Below B w (u.alloc o)
theorem BelA.of {w u : World} (h : Below w.heap.size w u) : Hid (BelA w.heap.size w u) := fun o => h.alloc h.size o
theorem BelA.next {w u v : World} (h : BelA w.heap.size w u) {o : Obj} (k : Below (u.alloc o).heap.size (u.alloc o) v) : Hid (BelA w.heap.size w v) := fun o' => by
 have h1 := (h o).trans (k.mono (h o).size)
 exact h1.alloc h1.size o'
theorem BelA.get {B : Nat} {w u : World} (h : BelA B w u) (o : Obj) : Below B w (u.alloc o) := h o
theorem bel_alloc {u v : World} {o : Obj} (k : Below (u.alloc o).heap.size (u.alloc o) v) : Below u.heap.size u v := ((Below.refl _ u).alloc (Nat.le_refl _) o).trans (k.mono (by simp))
theorem bel_then {B : Nat} {w u v : World} (h : Below B w u) (hB : B ≤ u.heap.size) (k : Below u.heap.size u v) : Below B w v := h.trans (k.mono hB)
theorem two_new (W : World) (a b : Array Value) (t u : TypeId) : ((W.alloc (.cells a t)).alloc (.cells b u)).drew.heap[W.heap.size]? = some (.cells a t (0, 0)) ∧ ((W.alloc (.cells a t)).alloc (.cells b u)).drew.heap[W.heap.size + 1]? = some (.cells b u (0, 0)) := by
 constructor
 ·exact (Below.heap_alloc _ _ _ (by simp)).trans (block_new _ _ _)
 ·have h := block_new (W.alloc (.cells a t)) b u
  have e : (W.alloc (.cells a t)).heap.size = W.heap.size + 1 := by simp
  rw [e] at h
  exact h
theorem range_ext {w : World} {b o o' : Nat} {cs : List Value} (h : w.rangeAt b o cs) (e : o = o') : w.rangeAt b o' cs := e ▸ h
set_option maxRecDepth 100000 in
set_option maxHeartbeats 4000000 in
theorem awake_walk (w : World) (hT : TabIn w) : Calls Tryz.prog 9 #[] w fun e w' => e = .returned (.bool true) ∧ Below w.heap.size w w' := by
 have h1 := Lib.hid (parse_read w hT ex1 (by decide +kernel))
 have h2 := Lib.hid (fun (W : World) (hb : Below w.heap.size w W) => parse_read W (hT.below hb) ex2 (by decide +kernel))
 have h3 := Lib.hid (fun (W : World) (hb : Below w.heap.size w W) => parse_read W (hT.below hb) ex3 (by decide +kernel))
 rw [parse_ex1] at h1
 have h1a : Hid (Calls Tryz.prog 10 #[.string ex1] w fun e w' => ∃ ao cap lv, e = .returned (.tuple #[.agg #[.int .i64 2, .string ⟨#[]⟩, .int .i64 0, .int .i64 36, .slice ao 2 cap], lv, .int .i64 0]) ∧ TreesIn w' (.slice ao 2 cap) tr1.kids ∧ DgsIn w' lv [] ∧ Below w.heap.size w w') := h1.out
 clear h1
 have h1 := h1a
 clear h1a
 have p2 := parse_ex2
 have p3 := parse_ex3
 obtain ⟨m2, hm2⟩ : ∃ m, parse ex2 = m := ⟨_, rfl⟩
 obtain ⟨m3, hm3⟩ : ∃ m, parse ex3 = m := ⟨_, rfl⟩
 rw [hm2] at h2 p2
 rw [hm3] at h3 p3
 have p2' := Lib.hid p2
 have p3' := Lib.hid p3
 clear p2 p3 hm2 hm3 hT
 unfold ex1 at h1
 unfold ex2 at h2
 unfold ex3 at h3
 go_enter Tryz.func9, Tryz.ntmps9
 go_upto_region 4 with (first
  | (go_at_call 10; ((with_reducible refine (h3.out _ (q2.out.get _)).mono ?_); rintro e w3 ⟨ao3, cp3, lv3, rfl, t3, d3, b3⟩; have t3' := Lib.hid t3; have d3' := Lib.hid d3; have b3' := Lib.hid b3; clear t3 d3 b3))
  | (go_at_call 10; ((with_reducible refine (h2.out _ (q1.out.get _)).mono ?_); rintro e w2 ⟨ao2, cp2, lv2, rfl, t2, d2, b2⟩; have t2' := Lib.hid t2; have d2' := Lib.hid d2; have b2' := Lib.hid b2; clear t2 d2 b2; have q2 := q1.out.next b2'.out))
  | (go_at_call 10; ((with_reducible refine h1.out.mono ?_); rintro e w1 ⟨ao1, cp1, lv1, rfl, t1, d1, b1⟩; have t1' := Lib.hid t1; have d1' := Lib.hid d1; have b1' := Lib.hid b1; clear t1 d1 b1; have q1 := BelA.of b1'.out)))
 obtain ⟨W, hW⟩ : ∃ W, w3.alloc (.cells #[.int .i64 m3.1.kind, .string m3.1.text, .int .i64 m3.1.fr, .int .i64 m3.1.to, .slice ao3 m3.1.kids.length cp3] 25) = W := ⟨_, rfl⟩
 rw [hW]
 have k3 : Below w3.heap.size w3 W := by rw [← hW]; exact (Below.refl _ _).alloc (Nat.le_refl _) _
 have k2 : Below w2.heap.size w2 W := bel_then (bel_alloc b3'.out) (bel_alloc b3'.out).size k3
 have k1 : Below w1.heap.size w1 W := bel_then (bel_alloc b2'.out) (bel_alloc b2'.out).size k2
 have hBW : Hid (Below w.heap.size w W) := bel_then b1'.out b1'.out.size k1
 have hbox : Hid (W.heap[w1.heap.size]? = some (.cells #[.int .i64 2, .string ⟨#[]⟩, .int .i64 0, .int .i64 36, .slice ao1 2 cp1] 25 (0, 0))) :=
  (k2.block _ (by have := b2'.out.size; simp at this; omega)).trans ((b2'.out.block _ (by simp)).trans (block_new _ _ _))
 have T1 := Lib.hid (t1'.out.below k1)
 have D2 := Lib.hid (d2'.out.below k2)
 have D3 := Lib.hid (d3'.out.below k3)
 obtain ⟨a4, c4, rfl, _⟩ := d1'.out
 rw [p2'.out] at D2
 rw [p3'.out] at D3
 clear h1 h2 h3 q1 q2 b1' b2' b3' d1' d2' d3' t1' t2' t3' p2' p3' hW k1 k2 k3
 generalize w1.heap.size = A1 at *
 obtain ⟨ao, cp, e0, _, hc⟩ := T1.out.at_
 obtain ⟨rfl, rfl⟩ : ao1 = ao ∧ cp1 = cp := by simpa [tr1, Tr.kids] using e0
 obtain ⟨b, o, kv0, rfl, hb1, r1, U1⟩ := hc 0 (by decide)
 obtain ⟨b', o', kv1, e1, _, r2, U2⟩ := hc 1 (by decide)
 obtain ⟨rfl, rfl⟩ : b = b' ∧ o = o' := by simpa using e1
 clear e0 e1 hc T1
 obtain ⟨ao, cp, rfl, _, hc⟩ := U1.at_
 obtain ⟨b0, o0, kvx, rfl, hb0, r3, V1⟩ := hc 0 (by decide)
 clear hc U1
 obtain ⟨ao, cp', rfl, _, hc⟩ := U2.at_
 obtain ⟨b1, o1, kv2, rfl, hb1', r4, U3⟩ := hc 1 (by decide)
 clear hc U2
 obtain ⟨ao, cp2', rfl, _, hc⟩ := U3.at_
 obtain ⟨b2, o2, kvy, rfl, hb2', r5, V2⟩ := hc 0 (by decide)
 clear hc U3
 have ca : W.cell? ⟨A1, 4, none⟩ = some (.slice (some ⟨b, o, none⟩) 2 cp1) := (cell4 hbox.out).1
 have cb : W.cell? ⟨b, o + 4, none⟩ = some (.slice (some ⟨b0, o0, none⟩) 1 cp) := range_cell r1 4 rfl
 have cc : W.cell? ⟨b, o + 5 + 4, none⟩ = some (.slice (some ⟨b1, o1, none⟩) 2 cp') := range_cell r2 4 rfl
 have cd : W.cell? ⟨b1, o1 + 5 + 4, none⟩ = some (.slice (some ⟨b2, o2, none⟩) 2 cp2') := range_cell r4 4 rfl
 have r3' := Lib.hid (range_ext r3 (show o0 + 0 * 5 = o0 by omega))
 have r5' := Lib.hid (range_ext r5 (show o2 + 0 * 5 = o2 by omega))
 clear r1 r2 r3 r4 r5
 obtain ⟨aox, cpx, rfl, _, _⟩ := V1.at_
 obtain ⟨aoy, cpy, rfl, _, _⟩ := V2.at_
 clear V1 V2
 have hA1 := lt_of_block hbox.out
 go_upto_region 6 with (fail)
 go_cut [10, 11] (fun s10 s11 wx => ∃ B1 B2, s10 = .pointer (some ⟨B1, 0, none⟩) ∧ s11 = .pointer (some ⟨B2, 0, none⟩) ∧ Hid (wx.heap[B1]? = some (.cells #[.int .i64 36, .string ((ByteArray.mk #[50])), .int .i64 7, .int .i64 9, .slice aox 0 cpx] 25 (0, 0))) ∧ Hid (wx.heap[B2]? = some (.cells #[.int .i64 37, .string ((ByteArray.mk #[45, 49])), .int .i64 30, .int .i64 32, .slice aoy 0 cpy] 25 (0, 0))) ∧ Hid (Below W.heap.size W wx))
 case first =>
  have hSS : Hid (∀ u, Below W.heap.size W u → u.cell? ⟨A1, 4, none⟩ = some (.slice (some ⟨b, o, none⟩) 2 cp1) ∧ u.cell? ⟨b, o + 4, none⟩ = some (.slice (some ⟨b0, o0, none⟩) 1 cp) ∧ u.cell? ⟨b, o + 5 + 4, none⟩ = some (.slice (some ⟨b1, o1, none⟩) 2 cp') ∧ u.cell? ⟨b1, o1 + 5 + 4, none⟩ = some (.slice (some ⟨b2, o2, none⟩) 2 cp2') ∧ u.rangeAt b0 o0 [.int .i64 36, .string ((ByteArray.mk #[50])), .int .i64 7, .int .i64 9, .slice aox 0 cpx] ∧ u.rangeAt b2 o2 [.int .i64 37, .string ((ByteArray.mk #[45, 49])), .int .i64 30, .int .i64 32, .slice aoy 0 cpy]) := fun u hu =>
   ⟨(hu.cell (p := ⟨A1, 4, none⟩) hA1).trans ca, (hu.cell (p := ⟨b, o + 4, none⟩) hb1).trans cb, (hu.cell (p := ⟨b, o + 5 + 4, none⟩) hb1).trans cc, (hu.cell (p := ⟨b1, o1 + 5 + 4, none⟩) hb1').trans cd, range_below r3'.out hb0 hu, range_below r5'.out hb2' hu⟩
  clear ca cb cc cd
  refine wp_region_held_drew (S := fun u => u.cell? ⟨A1, 4, none⟩ = some (.slice (some ⟨b, o, none⟩) 2 cp1) ∧ u.cell? ⟨b, o + 4, none⟩ = some (.slice (some ⟨b0, o0, none⟩) 1 cp) ∧ u.cell? ⟨b, o + 5 + 4, none⟩ = some (.slice (some ⟨b1, o1, none⟩) 2 cp') ∧ u.cell? ⟨b1, o1 + 5 + 4, none⟩ = some (.slice (some ⟨b2, o2, none⟩) 2 cp2') ∧ u.rangeAt b0 o0 [.int .i64 36, .string ((ByteArray.mk #[50])), .int .i64 7, .int .i64 9, .slice aox 0 cpx] ∧ u.rangeAt b2 o2 [.int .i64 37, .string ((ByteArray.mk #[45, 49])), .int .i64 30, .int .i64 32, .slice aoy 0 cpy]) (by kernel_rfl) (hSS.out _ (Below.refl _ _).drew) (fun hHeld => ?_)
  refine tk (i := 0) (v := .pointer (some ⟨A1, 4, none⟩)) rfl hHeld ?_
  try simp only [Act.put, kA, kB, kC, kD, kE, kF]
  refine tk (i := 1) (v := .slice (some ⟨b, o, none⟩) 2 cp1) rfl hHeld ?_
  try simp only [Act.put, kA, kB, kC, kD, kE, kF]
  refine tk (i := 2) (v := .pointer (some ⟨b, o, none⟩)) rfl hHeld ?_
  try simp only [Act.put, kA, kB, kC, kD, kE, kF]
  refine tk (i := 3) (v := .pointer (some ⟨b, o + 4, none⟩)) rfl hHeld ?_
  try simp only [Act.put, kA, kB, kC, kD, kE, kF]
  refine tk (i := 4) (v := .slice (some ⟨b0, o0, none⟩) 1 cp) rfl hHeld ?_
  try simp only [Act.put, kA, kB, kC, kD, kE, kF]
  refine tk (i := 5) (v := .pointer (some ⟨b0, o0, none⟩)) rfl hHeld ?_
  try simp only [Act.put, kA, kB, kC, kD, kE, kF]
  refine tk (i := 6) (v := .agg #[.int .i64 36, .string ((ByteArray.mk #[50])), .int .i64 7, .int .i64 9, .slice aox 0 cpx]) (hy := yieldsIf_load_mid (by rfl) _ _ rfl _ _ rfl [.int .i64 36, .string ((ByteArray.mk #[50])), .int .i64 7, .int .i64 9, .slice aox 0 cpx] _ (fun _ h => h.2.2.2.2.1) Tryz.underlying25 rfl info_nds) rfl hHeld ?_
  try simp only [Act.put, kA, kB, kC, kD, kE, kF]
  refine tk (i := 7) (v := .pointer (some ⟨A1, 4, none⟩)) rfl hHeld ?_
  try simp only [Act.put, kA, kB, kC, kD, kE, kF]
  refine tk (i := 8) (v := .slice (some ⟨b, o, none⟩) 2 cp1) rfl hHeld ?_
  try simp only [Act.put, kA, kB, kC, kD, kE, kF]
  refine tk (i := 9) (v := .pointer (some ⟨b, o + 5, none⟩)) rfl hHeld ?_
  try simp only [Act.put, kA, kB, kC, kD, kE, kF]
  refine tk (i := 10) (v := .pointer (some ⟨b, o + 5 + 4, none⟩)) rfl hHeld ?_
  try simp only [Act.put, kA, kB, kC, kD, kE, kF]
  refine tk (i := 11) (v := .slice (some ⟨b1, o1, none⟩) 2 cp') rfl hHeld ?_
  try simp only [Act.put, kA, kB, kC, kD, kE, kF]
  refine tk (i := 12) (v := .pointer (some ⟨b1, o1 + 5, none⟩)) rfl hHeld ?_
  try simp only [Act.put, kA, kB, kC, kD, kE, kF]
  refine tk (i := 13) (v := .pointer (some ⟨b1, o1 + 5 + 4, none⟩)) rfl hHeld ?_
  try simp only [Act.put, kA, kB, kC, kD, kE, kF]
  refine tk (i := 14) (v := .slice (some ⟨b2, o2, none⟩) 2 cp2') rfl hHeld ?_
  try simp only [Act.put, kA, kB, kC, kD, kE, kF]
  refine tk (i := 15) (v := .pointer (some ⟨b2, o2, none⟩)) rfl hHeld ?_
  try simp only [Act.put, kA, kB, kC, kD, kE, kF]
  refine tk (i := 16) (v := .agg #[.int .i64 37, .string ((ByteArray.mk #[45, 49])), .int .i64 30, .int .i64 32, .slice aoy 0 cpy]) (hy := yieldsIf_load_mid (by rfl) _ _ rfl _ _ rfl [.int .i64 37, .string ((ByteArray.mk #[45, 49])), .int .i64 30, .int .i64 32, .slice aoy 0 cpy] _ (fun _ h => h.2.2.2.2.2) Tryz.underlying25 rfl info_nds) rfl hHeld ?_
  try simp only [Act.put, kA, kB, kC, kD, kE, kF]
  refine wpAnyH_ready (rs := [17, 18]) (by kernel_rfl) (by simp) ?_
  refine AllReadyH.cons rfl (fun K hK => ?_) (AllReadyH.cons rfl (fun K hK => ?_) AllReadyH.nil)
  ·rw [if_pos (by rfl)]
   go_simp
   refine hK.out _ _ (hSS.out _ (by repeat (first | exact Below.refl _ _ | apply bl_drew | apply bl_alloc))) (fun hHeld => ?_)
   clear hK K
   try simp only [Act.put, kA, kB, kC, kD, kE, kF]
   refine wpAnyH_ready (rs := [18]) (by kernel_rfl) (by simp) ?_
   refine AllReadyH.cons rfl (fun K hK => ?_) AllReadyH.nil
   rw [if_pos (by rfl)]
   go_simp
   refine hK.out _ _ (hSS.out _ (by repeat (first | exact Below.refl _ _ | apply bl_drew | apply bl_alloc))) (fun hHeld => ?_)
   clear hK K
   try simp only [Act.put, kA, kB, kC, kD, kE, kF]
   refine wpAnyH_ready (rs := [19]) (by kernel_rfl) (by simp) ?_
   refine AllReadyH.cons rfl (fun K hK => ?_) AllReadyH.nil
   rw [if_pos (by rfl)]
   go_simp
   refine hK.out _ _ (hSS.out _ (by repeat (first | exact Below.refl _ _ | apply bl_drew | apply bl_alloc))) (fun hHeld => ?_)
   clear hK K
   try simp only [Act.put, kA, kB, kC, kD, kE, kF]
   refine wpAnyH_ready (rs := [20]) (by kernel_rfl) (by simp) ?_
   refine AllReadyH.cons rfl (fun K hK => ?_) AllReadyH.nil
   rw [if_pos (by rfl)]
   go_simp
   refine hK.out _ _ (hSS.out _ (by repeat (first | exact Below.refl _ _ | apply bl_drew | apply bl_alloc))) (fun hHeld => ?_)
   clear hK K
   try simp only [Act.put, kA, kB, kC, kD, kE, kF]
   refine wpAnyH_done (by kernel_rfl) ?_ _
   clear hHeld
   go_wp2
   go_meet
   exact ⟨_, _, rfl, rfl, (two_new _ _ _ _ _).1, (two_new _ _ _ _ _).2, (((Below.refl _ W).alloc (Nat.le_refl _) _).alloc (by simp) _).drew⟩
  ·rw [if_pos (by rfl)]
   go_simp
   refine hK.out _ _ (hSS.out _ (by repeat (first | exact Below.refl _ _ | apply bl_drew | apply bl_alloc))) (fun hHeld => ?_)
   clear hK K
   try simp only [Act.put, kA, kB, kC, kD, kE, kF]
   refine wpAnyH_ready (rs := [17]) (by kernel_rfl) (by simp) ?_
   refine AllReadyH.cons rfl (fun K hK => ?_) AllReadyH.nil
   rw [if_pos (by rfl)]
   go_simp
   refine hK.out _ _ (hSS.out _ (by repeat (first | exact Below.refl _ _ | apply bl_drew | apply bl_alloc))) (fun hHeld => ?_)
   clear hK K
   try simp only [Act.put, kA, kB, kC, kD, kE, kF]
   refine wpAnyH_ready (rs := [19]) (by kernel_rfl) (by simp) ?_
   refine AllReadyH.cons rfl (fun K hK => ?_) AllReadyH.nil
   rw [if_pos (by rfl)]
   go_simp
   refine hK.out _ _ (hSS.out _ (by repeat (first | exact Below.refl _ _ | apply bl_drew | apply bl_alloc))) (fun hHeld => ?_)
   clear hK K
   try simp only [Act.put, kA, kB, kC, kD, kE, kF]
   refine wpAnyH_ready (rs := [20]) (by kernel_rfl) (by simp) ?_
   refine AllReadyH.cons rfl (fun K hK => ?_) AllReadyH.nil
   rw [if_pos (by rfl)]
   go_simp
   refine hK.out _ _ (hSS.out _ (by repeat (first | exact Below.refl _ _ | apply bl_drew | apply bl_alloc))) (fun hHeld => ?_)
   clear hK K
   try simp only [Act.put, kA, kB, kC, kD, kE, kF]
   refine wpAnyH_done (by kernel_rfl) ?_ _
   clear hHeld
   go_wp2
   go_meet
   exact ⟨_, _, rfl, rfl, (two_new _ _ _ _ _).2, (two_new _ _ _ _ _).1, (((Below.refl _ W).alloc (Nat.le_refl _) _).alloc (by simp) _).drew⟩
 case rest =>
  obtain ⟨B1, B2, rfl, rfl, x1, x2, hWx⟩ := hcut
  have D2' := Lib.hid (D2.out.below hWx.out)
  have D3' := Lib.hid (D3.out.below hWx.out)
  have hBx := Lib.hid (bel_then hBW.out hBW.out.size hWx.out)
  obtain ⟨a1, a2, a3⟩ : wc.cell? ⟨B1, 1, none⟩ = some (.string ((ByteArray.mk #[50]))) ∧ wc.cell? ⟨B1, 2, none⟩ = some (.int .i64 7) ∧ wc.cell? ⟨B1, 3, none⟩ = some (.int .i64 9) := ⟨(cell_of_row _ _ _ _ _ _ x1.out).trans rfl, (cell_of_row _ _ _ _ _ _ x1.out).trans rfl, (cell_of_row _ _ _ _ _ _ x1.out).trans rfl⟩
  obtain ⟨a4, a5, a6⟩ : wc.cell? ⟨B2, 1, none⟩ = some (.string ((ByteArray.mk #[45, 49]))) ∧ wc.cell? ⟨B2, 2, none⟩ = some (.int .i64 30) ∧ wc.cell? ⟨B2, 3, none⟩ = some (.int .i64 32) := ⟨(cell_of_row _ _ _ _ _ _ x2.out).trans rfl, (cell_of_row _ _ _ _ _ _ x2.out).trans rfl, (cell_of_row _ _ _ _ _ _ x2.out).trans rfl⟩
  clear ca cb cc cd hbox x1 x2 D2 D3 hBW hWx
  have hS2 := Lib.hid (rsame_new wc [⟨5, 36, 37, ⟨#[]⟩⟩] lv2 D2'.out (by decide) (n := 1) rfl rfl rfl)
  have hS3 := Lib.hid (fun (u : World) (hu : Below wc.heap.size wc u) => rsame_new u [⟨4, 8, 8, (ByteArray.mk #[59])⟩] lv3 (D3'.out.below hu) (by decide) (n := 1) rfl rfl rfl)
  go_wp2_with (first
   | (go_at_call 13; refine (hS3.out _ k3'.out).mono ?_; rintro e wb ⟨rfl, k5⟩; have k5' := Lib.hid k5; clear k5)
   | (go_at_call 13; refine hS2.out.mono ?_; rintro e wa ⟨rfl, k3⟩; have k3' := Lib.hid k3; clear k3))
  go_ret
  exact ⟨rfl, bel_then hBx.out hBx.out.size (bel_then k3'.out k3'.out.size k5'.out)⟩
end Go.Proofs.YthggagophcnkfaaGreatDoor.px
