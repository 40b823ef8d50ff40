/- The walks of begin, Parse and Expression for a text that is too large. The walks of the reference's Parse and Expression for a text that is too large. The walk of the reference's Exact, where the trees are equal. -/
import Derived.Test.YthggagophcnkfaaGreatDoorPBegin
import Derived.Test.YthggagophcnkfaaGreatDoorTk
import Derived.Test.YthggagophcnkfaaGreatDoorM12
import Derived.Deep.RegionHeld3
namespace Go.Proofs.YthggagophcnkfaaGreatDoor.px
open Go.RowKit Go.Proofs.YthggagophcnkfaaGreatDoor.agg Go.Proofs.YthggagophcnkfaaGreatDoor.sx Go.Proofs.YthggagophcnkfaaGreatDoor.lx
set_option linter.unusedSimpArgs false
set_option linter.unusedVariables false
set_option maxHeartbeats 1000000 in
theorem begin_large (w : World) (T : ByteArray) (hT : 4096 < T.size) : Calls Tryz.prog 27 #[.string T] w fun e w' => e = .returned (.tuple #[.pointer none, .int .i64 8]) ∧ Below w.heap.size w w' := by
 have hS := Lib.hid (fun (W : World) => scan_large W T hT)
 go_enter Tryz.func27, Tryz.ntmps27
 go_wp2_with (go_at_call 57; refine (hS.out _).mono ?_; rintro e _ ⟨rfl, rfl⟩)
 go_ret2
 exact ⟨rfl, by repeat (first | exact Below.refl _ _ | apply bl_drew | apply bl_alloc)⟩
def LargeEnd (w : World) (e : Ending) (w' : World) : Prop := e = .returned (.tuple #[.agg #[.int .i64 0, .string ⟨#[]⟩, .int .i64 0, .int .i64 0, .slice none 0 0], .slice none 0 0, .int .i64 8]) ∧ Below w.heap.size w w'
set_option maxRecDepth 100000 in
set_option maxHeartbeats 1000000 in
theorem parse_large (w : World) (T : ByteArray) (hT : 4096 < T.size) : Calls Tryz.prog 10 #[.string T] w (LargeEnd w) := by
 have hB := Lib.hid (fun (W : World) => begin_large W T hT)
 go_enter Tryz.func10, Tryz.ntmps10
 go_wp2_with (go_at_call 27; refine (hB.out _).mono ?_; rintro e w1 ⟨rfl, b1⟩; have hy := (b1.block _ (by simp)).trans (MapKept.heap_alloc w zbox).1; have z0 : w1.cell? ⟨w.heap.size, 0, none⟩ = some (.int .i64 0) := (cell_of_row _ _ _ _ _ _ hy).trans rfl; have z1 : w1.cell? ⟨w.heap.size, 1, none⟩ = some (.string ⟨#[]⟩) := (cell_of_row _ _ _ _ _ _ hy).trans rfl; have z2 : w1.cell? ⟨w.heap.size, 2, none⟩ = some (.int .i64 0) := (cell_of_row _ _ _ _ _ _ hy).trans rfl; have z3 : w1.cell? ⟨w.heap.size, 3, none⟩ = some (.int .i64 0) := (cell_of_row _ _ _ _ _ _ hy).trans rfl; have z4 : w1.cell? ⟨w.heap.size, 4, none⟩ = some (.slice none 0 0) := (cell_of_row _ _ _ _ _ _ hy).trans rfl; have fz : ∀ i, w1.frozen? ⟨w.heap.size, i, none⟩ = false := (fun i => by simp [World.frozen?, hy, zbox]); have b1' := Lib.hid b1; clear b1 hy)
 refine bodyPost_ret (v := .tuple #[.agg #[.int .i64 0, .string ⟨#[]⟩, .int .i64 0, .int .i64 0, .slice none 0 0], .slice none 0 0, .int .i64 8]) (by simp [results, Tryz.results10, go_sem, z0, z1, z2, z3, z4] <;> rfl) rfl ⟨rfl, ?_⟩
 have h := ((Below.refl _ w).alloc (Nat.le_refl _) zbox).trans (b1'.out.mono (by simp))
 exact h.trans ((kept5 _ _ _ _ _ _ _).below _ h.size (fun i hi => Nat.le_of_eq hi.symm))
set_option maxRecDepth 100000 in
set_option maxHeartbeats 1000000 in
theorem expr_large (w : World) (T : ByteArray) (hT : 4096 < T.size) : Calls Tryz.prog 16 #[.string T] w (LargeEnd w) := by
 have hB := Lib.hid (fun (W : World) => begin_large W T hT)
 go_enter Tryz.func16, Tryz.ntmps16
 go_wp2_with (go_at_call 27; refine (hB.out _).mono ?_; rintro e w1 ⟨rfl, b1⟩; have hy := (b1.block _ (by simp)).trans (MapKept.heap_alloc w zbox).1; have z0 : w1.cell? ⟨w.heap.size, 0, none⟩ = some (.int .i64 0) := (cell_of_row _ _ _ _ _ _ hy).trans rfl; have z1 : w1.cell? ⟨w.heap.size, 1, none⟩ = some (.string ⟨#[]⟩) := (cell_of_row _ _ _ _ _ _ hy).trans rfl; have z2 : w1.cell? ⟨w.heap.size, 2, none⟩ = some (.int .i64 0) := (cell_of_row _ _ _ _ _ _ hy).trans rfl; have z3 : w1.cell? ⟨w.heap.size, 3, none⟩ = some (.int .i64 0) := (cell_of_row _ _ _ _ _ _ hy).trans rfl; have z4 : w1.cell? ⟨w.heap.size, 4, none⟩ = some (.slice none 0 0) := (cell_of_row _ _ _ _ _ _ hy).trans rfl; have fz : ∀ i, w1.frozen? ⟨w.heap.size, i, none⟩ = false := (fun i => by simp [World.frozen?, hy, zbox]); have b1' := Lib.hid b1; clear b1 hy)
 refine bodyPost_ret (v := .tuple #[.agg #[.int .i64 0, .string ⟨#[]⟩, .int .i64 0, .int .i64 0, .slice none 0 0], .slice none 0 0, .int .i64 8]) (by simp [results, Tryz.results16, go_sem, z0, z1, z2, z3, z4] <;> rfl) rfl ⟨rfl, ?_⟩
 have h := ((Below.refl _ w).alloc (Nat.le_refl _) zbox).trans (b1'.out.mono (by simp))
 exact h.trans ((kept5 _ _ _ _ _ _ _).below _ h.size (fun i hi => Nat.le_of_eq hi.symm))
end Go.Proofs.YthggagophcnkfaaGreatDoor.px
namespace Go.Proofs.YthggagophcnkfaaGreatDoor.py
open Go.RowKit Go.Proofs.YthggagophcnkfaaGreatDoor.agg Go.Proofs.YthggagophcnkfaaGreatDoor.sx Go.Proofs.YthggagophcnkfaaGreatDoor.lx Go.Proofs.YthggagophcnkfaaGreatDoor.px
set_option linter.unusedSimpArgs false
set_option linter.unusedVariables false
set_option maxRecDepth 100000 in
set_option maxHeartbeats 1000000 in
theorem rparse_large (w : World) (T : ByteArray) (hT : 4096 < T.size) : Calls Tryz.prog 11 #[.string T] w (LargeEnd w) := by
 have hb : decide (4096 < (T.size : Int)) = true := decide_eq_true (by omega)
 go_enter Tryz.func11, Tryz.ntmps11
 go_wp2_with fail
 have hy : (w.alloc zbox).heap[w.heap.size]? = some zbox := heap_alloc_new _ _
 have z0 : (w.alloc zbox).cell? ⟨w.heap.size, 0, none⟩ = some (.int .i64 0) := (cell_of_row _ _ _ _ _ _ hy).trans rfl
 have z1 : (w.alloc zbox).cell? ⟨w.heap.size, 1, none⟩ = some (.string ⟨#[]⟩) := (cell_of_row _ _ _ _ _ _ hy).trans rfl
 have z2 : (w.alloc zbox).cell? ⟨w.heap.size, 2, none⟩ = some (.int .i64 0) := (cell_of_row _ _ _ _ _ _ hy).trans rfl
 have z3 : (w.alloc zbox).cell? ⟨w.heap.size, 3, none⟩ = some (.int .i64 0) := (cell_of_row _ _ _ _ _ _ hy).trans rfl
 have z4 : (w.alloc zbox).cell? ⟨w.heap.size, 4, none⟩ = some (.slice none 0 0) := (cell_of_row _ _ _ _ _ _ hy).trans rfl
 change bodyPost _ _ _ _ _ (w.alloc zbox)
 refine bodyPost_ret (v := .tuple #[.agg #[.int .i64 0, .string ⟨#[]⟩, .int .i64 0, .int .i64 0, .slice none 0 0], .slice none 0 0, .int .i64 8]) (by simp [results, Tryz.results11, go_sem, z0, z1, z2, z3, z4] <;> rfl) rfl ⟨rfl, (Below.refl _ w).alloc (Nat.le_refl _) _⟩
set_option maxRecDepth 100000 in
set_option maxHeartbeats 1000000 in
theorem rexpr_large (w : World) (T : ByteArray) (hT : 4096 < T.size) : Calls Tryz.prog 17 #[.string T] w (LargeEnd w) := by
 have hb : decide (4096 < (T.size : Int)) = true := decide_eq_true (by omega)
 go_enter Tryz.func17, Tryz.ntmps17
 go_wp2_with fail
 have hy : (w.alloc zbox).heap[w.heap.size]? = some zbox := heap_alloc_new _ _
 have z0 : (w.alloc zbox).cell? ⟨w.heap.size, 0, none⟩ = some (.int .i64 0) := (cell_of_row _ _ _ _ _ _ hy).trans rfl
 have z1 : (w.alloc zbox).cell? ⟨w.heap.size, 1, none⟩ = some (.string ⟨#[]⟩) := (cell_of_row _ _ _ _ _ _ hy).trans rfl
 have z2 : (w.alloc zbox).cell? ⟨w.heap.size, 2, none⟩ = some (.int .i64 0) := (cell_of_row _ _ _ _ _ _ hy).trans rfl
 have z3 : (w.alloc zbox).cell? ⟨w.heap.size, 3, none⟩ = some (.int .i64 0) := (cell_of_row _ _ _ _ _ _ hy).trans rfl
 have z4 : (w.alloc zbox).cell? ⟨w.heap.size, 4, none⟩ = some (.slice none 0 0) := (cell_of_row _ _ _ _ _ _ hy).trans rfl
 change bodyPost _ _ _ _ _ (w.alloc zbox)
 refine bodyPost_ret (v := .tuple #[.agg #[.int .i64 0, .string ⟨#[]⟩, .int .i64 0, .int .i64 0, .slice none 0 0], .slice none 0 0, .int .i64 8]) (by simp [results, Tryz.results17, go_sem, z0, z1, z2, z3, z4] <;> rfl) rfl ⟨rfl, (Below.refl _ w).alloc (Nat.le_refl _) _⟩
end Go.Proofs.YthggagophcnkfaaGreatDoor.py
namespace Go.Proofs.YthggagophcnkfaaGreatDoor.py
open Go.RowKit Go.Proofs.YthggagophcnkfaaGreatDoor.agg Go.Proofs.YthggagophcnkfaaGreatDoor.sx Go.Proofs.YthggagophcnkfaaGreatDoor.lx Go.Proofs.YthggagophcnkfaaGreatDoor.px
set_option linter.unusedSimpArgs false
set_option linter.unusedVariables false
def ytagg (t : Tr) (kv : Value) : Value := .agg #[.int .i64 t.kind, .string t.text, .int .i64 t.fr, .int .i64 t.to, kv]
def ExactOk (n : Nat) : Prop := ∀ (W : World) (t : Tr) (ao bo : Option Addr) (cap cap2 : Nat), t.count ≤ n → TreesIn W (.slice ao t.kids.length cap) t.kids → TreesIn W (.slice bo t.kids.length cap2) t.kids → Calls Tryz.prog 12 #[ytagg t (.slice ao t.kids.length cap), ytagg t (.slice bo t.kids.length cap2)] W fun e w' => e = .returned (.bool true) ∧ Below W.heap.size W w'
set_option maxRecDepth 100000 in
set_option maxHeartbeats 4000000 in
theorem exact_step {n : Nat} (ih : ExactOk n) : ExactOk (n + 1) := by
 intro w t ao bo cap cap2 hc hT hU
 have hk := Lib.hid (fun (x : Tr) (hx : x ∈ t.kids) => (show x.count ≤ n by have := Tr.count_kid hx; omega))
 have hT' := Lib.hid hT
 have hU' := Lib.hid hU
 have ih' := Lib.hid ih
 clear hT hU ih hc
 unfold ytagg
 generalize t.kids = ks at *
 generalize t.fr = tf at *
 generalize t.to = te at *
 generalize t.kind = tq at *
 generalize t.text = tt at *
 go_enter Tryz.func12, Tryz.ntmps12
 go_wp2_with fail
 obtain ⟨W0, hW0⟩ : ∃ W0, (w.alloc (.cells #[.int .i64 tq, .string tt, .int .i64 tf, .int .i64 te, .slice ao ks.length cap] 25)).alloc (.cells #[.int .i64 tq, .string tt, .int .i64 tf, .int .i64 te, .slice bo ks.length cap2] 25) = W0 := ⟨_, rfl⟩
 rw [hW0]
 have hb0 : Hid (Below w.heap.size w W0) := by unfold Hid; rw [← hW0]; exact ((Below.refl _ _).alloc (Nat.le_refl _) _).alloc (by simp) _
 have hx0 : Hid (W0.heap[w.heap.size]? = some (.cells #[.int .i64 tq, .string tt, .int .i64 tf, .int .i64 te, .slice ao ks.length cap] 25 (0, 0)) ∧ W0.heap[w.heap.size + 1]? = some (.cells #[.int .i64 tq, .string tt, .int .i64 tf, .int .i64 te, .slice bo ks.length cap2] 25 (0, 0))) := by
  unfold Hid
  rw [← hW0]
  exact two_new w _ _ _ _
 clear hW0
 obtain ⟨Z, hZ⟩ : ∃ Z, w.heap.size = Z := ⟨_, rfl⟩
 have hZ' := Lib.hid hZ
 rw [hZ] at hx0 ⊢
 clear hZ
 have hlen : ks.length ≤ 140737488355328 := by
  obtain ⟨_, _, _, h, _⟩ := hT'.out.at_
  exact h
 go_loopw [5] (fun i wr => ∃ j : Nat, i = .int .i64 j ∧ j ≤ ks.length ∧ Hid (Below w.heap.size w wr) ∧ Hid (wr.heap[Z]? = some (.cells #[.int .i64 tq, .string tt, .int .i64 tf, .int .i64 te, .slice ao ks.length cap] 25 (0, 0)) ∧ wr.heap[Z + 1]? = some (.cells #[.int .i64 tq, .string tt, .int .i64 tf, .int .i64 te, .slice bo ks.length cap2] 25 (0, 0)))) (fun i _ => ks.length - (intOf i).toNat)
 case atStart => exact ⟨0, rfl, Nat.zero_le _, hb0, hx0⟩
 case round =>
  clear hb0 hx0
  obtain ⟨j, rfl, hj, hb, hx⟩ := hrel
  have cz : wr.cell? ⟨Z, 4, none⟩ = some (.slice ao ks.length cap) := (cell_of_row _ _ _ _ _ _ hx.out.1).trans rfl
  have cz2 : wr.cell? ⟨Z + 1, 4, none⟩ = some (.slice bo ks.length cap2) := (cell_of_row _ _ _ _ _ _ hx.out.2).trans rfl
  by_cases hlt : j < ks.length
  ·obtain ⟨ao3, cp3, e0, _, hc⟩ := (hT'.out.below hb.out).at_
   obtain ⟨rfl, rfl⟩ : ao = ao3 ∧ cap = cp3 := by simpa using e0
   obtain ⟨b, o, kv, rfl, hbl, r1, T1⟩ := hc j hlt
   obtain ⟨ak, ck, rfl, _, _⟩ := T1.at_
   obtain ⟨bo3, cp4, e1, _, hc2⟩ := (hU'.out.below hb.out).at_
   obtain ⟨rfl, rfl⟩ : bo = bo3 ∧ cap2 = cp4 := by simpa using e1
   obtain ⟨b2, o2, kv2, rfl, hbl2, r2, T2⟩ := hc2 j hlt
   obtain ⟨au, cu, rfl, _, _⟩ := T2.at_
   have hmem := hk.out _ (List.getElem_mem hlt)
   have T1' := Lib.hid T1
   have T2' := Lib.hid T2
   have q0 : wr.cell? ⟨b, o + j * 5, none⟩ = some (.int .i64 ks[j].kind) := range_cell r1 0 rfl
   have q1 : wr.cell? ⟨b, o + j * 5 + 1, none⟩ = some (.string ks[j].text) := range_cell r1 1 rfl
   have q2 : wr.cell? ⟨b, o + j * 5 + 2, none⟩ = some (.int .i64 ks[j].fr) := range_cell r1 2 rfl
   have q3 : wr.cell? ⟨b, o + j * 5 + 3, none⟩ = some (.int .i64 ks[j].to) := range_cell r1 3 rfl
   have q4 : wr.cell? ⟨b, o + j * 5 + 4, none⟩ = some (.slice ak ks[j].kids.length ck) := range_cell r1 4 rfl
   have p0 : wr.cell? ⟨b2, o2 + j * 5, none⟩ = some (.int .i64 ks[j].kind) := range_cell r2 0 rfl
   have p1 : wr.cell? ⟨b2, o2 + j * 5 + 1, none⟩ = some (.string ks[j].text) := range_cell r2 1 rfl
   have p2 : wr.cell? ⟨b2, o2 + j * 5 + 2, none⟩ = some (.int .i64 ks[j].fr) := range_cell r2 2 rfl
   have p3 : wr.cell? ⟨b2, o2 + j * 5 + 3, none⟩ = some (.int .i64 ks[j].to) := range_cell r2 3 rfl
   have p4 : wr.cell? ⟨b2, o2 + j * 5 + 4, none⟩ = some (.slice au ks[j].kids.length cu) := range_cell r2 4 rfl
   have hC := Lib.hid (fun (W : World) (h : TreesIn W (.slice ak ks[j].kids.length ck) ks[j].kids) (h2 : TreesIn W (.slice au ks[j].kids.length cu) ks[j].kids) => ih'.out W ks[j] ak au ck cu hmem h h2)
   unfold ytagg at hC
   have r1' : Hid (wr.rangeAt b (o + j * 5) [.int .i64 ks[j].kind, .string ks[j].text, .int .i64 ks[j].fr, .int .i64 ks[j].to, .slice ak ks[j].kids.length ck]) := r1
   have r2' : Hid (wr.rangeAt b2 (o2 + j * 5) [.int .i64 ks[j].kind, .string ks[j].text, .int .i64 ks[j].fr, .int .i64 ks[j].to, .slice au ks[j].kids.length cu]) := r2
   clear e0 e1 hc hc2 r1 r2 T1 T2 hmem hk
   generalize ks[j] = k at *
   generalize k.kids = kk at *
   generalize k.fr = kf at *
   generalize k.to = kt at *
   generalize k.kind = kkd at *
   generalize k.text = ktx at *
   have hZ1 : (⟨Z, 4, none⟩ : Addr).block < wr.heap.size := lt_of_block hx.out.1
   have hZ2 : (⟨Z + 1, 4, none⟩ : Addr).block < wr.heap.size := lt_of_block hx.out.2
   go_upto_region 6 with fail
   refine wp_region_held_drew (S := fun u => Below wr.heap.size wr u) (by kernel_rfl) (Below.refl _ _).drew (fun hHeld => ?_)
   refine tk (i := 0) (v := .pointer (some ⟨Z, 4, none⟩)) rfl hHeld ?_
   try simp only [Act.put, kA, kB, kC, kD, kE, kF]
   refine tk (i := 1) (v := .slice (some ⟨b, o, none⟩) ks.length cap) (hy := (Or.inl ⟨by rfl, by intro u hu; (try dsimp only at hu); have c := (hu.cell hZ1).trans cz; go_simp⟩)) rfl hHeld ?_
   try simp only [Act.put, kA, kB, kC, kD, kE, kF]
   refine tk (i := 2) (v := .int .i64 j) rfl hHeld ?_
   try simp only [Act.put, kA, kB, kC, kD, kE, kF]
   refine tk (i := 3) (v := .pointer (some ⟨b, o + j * 5, none⟩)) rfl hHeld ?_
   try simp only [Act.put, kA, kB, kC, kD, kE, kF]
   refine tk (i := 4) (v := .agg #[.int .i64 kkd, .string ktx, .int .i64 kf, .int .i64 kt, .slice ak kk.length ck]) (hy := yieldsIf_load_mid (by rfl) _ _ rfl _ _ rfl [.int .i64 kkd, .string ktx, .int .i64 kf, .int .i64 kt, .slice ak kk.length ck] _ (fun _ h => range_below r1'.out hbl h) Tryz.underlying25 rfl info_nds) rfl hHeld ?_
   try simp only [Act.put, kA, kB, kC, kD, kE, kF]
   refine tk (i := 5) (v := .pointer (some ⟨Z + 1, 4, none⟩)) rfl hHeld ?_
   try simp only [Act.put, kA, kB, kC, kD, kE, kF]
   refine tk (i := 6) (v := .slice (some ⟨b2, o2, none⟩) ks.length cap2) (hy := (Or.inl ⟨by rfl, by intro u hu; (try dsimp only at hu); have c := (hu.cell hZ2).trans cz2; go_simp⟩)) rfl hHeld ?_
   try simp only [Act.put, kA, kB, kC, kD, kE, kF]
   refine tk (i := 7) (v := .int .i64 j) rfl hHeld ?_
   try simp only [Act.put, kA, kB, kC, kD, kE, kF]
   refine tk (i := 8) (v := .pointer (some ⟨b2, o2 + j * 5, none⟩)) rfl hHeld ?_
   try simp only [Act.put, kA, kB, kC, kD, kE, kF]
   refine tk (i := 9) (v := .agg #[.int .i64 kkd, .string ktx, .int .i64 kf, .int .i64 kt, .slice au kk.length cu]) (hy := yieldsIf_load_mid (by rfl) _ _ rfl _ _ rfl [.int .i64 kkd, .string ktx, .int .i64 kf, .int .i64 kt, .slice au kk.length cu] _ (fun _ h => range_below r2'.out hbl2 h) Tryz.underlying25 rfl info_nds) rfl hHeld ?_
   try simp only [Act.put, kA, kB, kC, kD, kE, kF]
   refine wpAnyH_ready (rs := [10]) (by kernel_rfl) (by simp) ?_
   refine AllReadyH.cons rfl (fun K hK => ?_) AllReadyH.nil
   rw [if_pos (by rfl)]
   go_simp
   go_at_call 12
   refine (hC.out _ (T1'.out.below (Below.refl _ _).drew) (T2'.out.below (Below.refl _ _).drew)).mono ?_
   rintro e w4 ⟨rfl, b4⟩
   have b4' := Lib.hid ((Below.refl _ wr).drew.trans b4)
   clear b4
   refine hK.out _ _ b4'.out (fun hHeld => ?_)
   clear hK K
   try simp only [Act.put, kA, kB, kC, kD, kE, kF]
   refine tk (i := 11) (v := .bool false) rfl hHeld ?_
   try simp only [Act.put, kA, kB, kC, kD, kE, kF]
   refine wpAnyH_done (by kernel_rfl) ?_ _
   clear hHeld
   go_wp2
   go_roundw
   case rel => exact ⟨j + 1, by go_num, by omega, Lib.hid (bel_then hb.out hb.out.size b4'.out), Lib.hid ⟨(b4'.out.block _ (lt_of_block hx.out.1)).trans hx.out.1, (b4'.out.block _ (lt_of_block hx.out.2)).trans hx.out.2⟩⟩
   case measure => simp [intOf]; omega
  ·obtain rfl : j = ks.length := by omega
   go_wp2_with fail
   go_ret
   exact ⟨rfl, hb.out⟩
theorem exact_ok : ∀ n, ExactOk n := by
 intro n
 induction n with
 | zero =>
  intro W t ao bo cap cap2 hc
  have := Tr.count_pos t
  omega
 | succ n ih => exact exact_step ih
theorem exact_walk (W : World) (t : Tr) (ao bo : Option Addr) (cap cap2 : Nat) (h : TreesIn W (.slice ao t.kids.length cap) t.kids) (h2 : TreesIn W (.slice bo t.kids.length cap2) t.kids) : Calls Tryz.prog 12 #[ytagg t (.slice ao t.kids.length cap), ytagg t (.slice bo t.kids.length cap2)] W fun e w' => e = .returned (.bool true) ∧ Below W.heap.size W w' :=
 exact_ok t.count W t ao bo cap cap2 (Nat.le_refl _) h h2
end Go.Proofs.YthggagophcnkfaaGreatDoor.py
