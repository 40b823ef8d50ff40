/- Slices of diagnostics that are read; the walks of the reference's Same and of slices.Contains on them. What the walk of the reference parser's start needs. -/
import Derived.Test.YthggagophcnkfaaGreatDoorTk
import Derived.Test.YthggagophcnkfaaGreatDoorSortC
import Derived.Test.YthggagophcnkfaaGreatDoorM8
import Derived.Test.YthggagophcnkfaaGreatDoorM30
import Derived.Test.YthggagophcnkfaaGreatDoorM20
import Derived.Deep.CutBlock
import Derived.Deep.RegionHeld3
namespace Go.Proofs.YthggagophcnkfaaGreatDoor.px
open Go.RowKit Go.Proofs.YthggagophcnkfaaGreatDoor.agg Go.Proofs.YthggagophcnkfaaGreatDoor.sx Go.Proofs.YthggagophcnkfaaGreatDoor.lx Go.Proofs.YthggagophcnkfaaGreatDoor.so
set_option linter.unusedSimpArgs false
set_option linter.unusedVariables false
def DgsIn (w : World) (v : Value) (l : List Dg) : Prop :=
 ∃ ao cap, v = .slice ao l.length cap ∧ ∀ i (h : i < l.length), ∃ b o, ao = some ⟨b, o, none⟩ ∧ b < w.heap.size ∧ w.rangeAt b (o + i * 4) l[i].cells.toList
theorem DgsIn.below {w w' : World} {v : Value} {l : List Dg} (h : DgsIn w v l) (hb : Below w.heap.size w w') : DgsIn w' v l := by
 obtain ⟨ao, cap, rfl, hc⟩ := h
 refine ⟨ao, cap, rfl, fun j hj => ?_⟩
 obtain ⟨b, o, e, hlt, hcj⟩ := hc j hj
 exact ⟨b, o, e, Nat.lt_of_lt_of_le hlt hb.size, fun k u hk => (hb.cell (p := ⟨b, _, none⟩) hlt).trans (hcj k u hk)⟩
theorem DgsIn.of_row {w : World} {B : Nat} {v : Value} {l : List Dg} (h : w.ownsRow B 34 4 v l.length (dgV l)) : DgsIn w v l := by
 rcases h.2 with ⟨rfl, h0⟩ | ⟨g, cap, cur, rfl, hg, hb, _⟩
 ·obtain rfl := List.eq_nil_of_length_eq_zero h0
  exact ⟨none, 0, rfl, fun i hi => by simp at hi⟩
 ·refine ⟨_, cap, rfl, fun i hi => ⟨g, 0, rfl, lt_of_block hb, fun j u hu => ?_⟩⟩
  have := h.cells (g := g) rfl (i * 4 + j) _ (dgV_get l hi hu)
  simpa [Addr.add_lit] using this
theorem range_below {w u : World} {b o : Nat} {cs : List Value} (h : w.rangeAt b o cs) (hb : b < w.heap.size) (hu : Below w.heap.size w u) : u.rangeAt b o cs := fun j v hv => (hu.cell (p := ⟨b, _, none⟩) hb).trans (h j v hv)
set_option maxRecDepth 100000 in
set_option maxHeartbeats 2000000 in
theorem rsame_walk (w : World) (v v2 : Value) (l : List Dg) (h : DgsIn w v l) (h2 : DgsIn w v2 l) (hl : l.length < 1000000) :
 Calls Tryz.prog 13 #[v, v2] w fun e w' => e = .returned (.bool true) ∧ Below w.heap.size w w' := by
 have hh := Lib.hid h
 have hh2 := Lib.hid h2
 obtain ⟨ao, ca, rfl, hc⟩ := h
 obtain ⟨ao2, ca2, rfl, hc2⟩ := h2
 clear hc hc2
 go_enter Tryz.func13, Tryz.ntmps13
 go_wp2_with fail
 go_loopw [5] (fun i wr => ∃ j : Nat, j ≤ l.length ∧ i = .int .i64 j ∧ Hid (Below w.heap.size w wr)) (fun i _ => l.length - (intOf i).toNat)
 case atStart => exact ⟨0, Nat.zero_le _, rfl, Below.refl _ _⟩
 case round =>
  obtain ⟨j, hj, rfl, hb⟩ := hrel
  by_cases hlt : j < l.length
  ·obtain ⟨ao3, cp3, e0, hc⟩ := hh.out.below hb.out
   obtain ⟨rfl, rfl⟩ : ao = ao3 ∧ ca = cp3 := by simpa using e0
   obtain ⟨ao4, cp4, e1, hc2⟩ := hh2.out.below hb.out
   obtain ⟨rfl, rfl⟩ : ao2 = ao4 ∧ ca2 = cp4 := by simpa using e1
   obtain ⟨b1, o1, rfl, hb1, r1⟩ := hc j hlt
   obtain ⟨b2, o2, rfl, hb2, r2⟩ := hc2 j hlt
   clear hc hc2 e0 e1
   generalize l[j] = d at *
   have r1' := Lib.hid r1
   have r2' := Lib.hid r2
   clear r1 r2
   go_upto_region 6 with fail
   refine wp_region_held_drew (S := fun u => Below wr.heap.size wr u) (by kernel_rfl) (Below.refl _ _).drew (fun hHeld => ?_)
   refine tk (i := 0) (v := .slice (some ⟨b1, o1, none⟩) l.length ca) rfl hHeld ?_
   try simp only [Act.put, kA, kB, kC, kD, kE, kF]
   refine tk (i := 1) (v := .int .i64 j) rfl hHeld ?_
   try simp only [Act.put, kA, kB, kC, kD, kE, kF]
   refine tk (i := 2) (v := .pointer (some ⟨b1, o1 + j * 4, none⟩)) rfl hHeld ?_
   try simp only [Act.put, kA, kB, kC, kD, kE, kF]
   refine tk (i := 3) (v := .agg #[.int .i64 d.code, .int .i64 d.at_, .int .i64 d.to, .string d.text]) (hy := yieldsIf_load_mid (by rfl) _ _ rfl _ _ rfl [.int .i64 d.code, .int .i64 d.at_, .int .i64 d.to, .string d.text] _ (fun _ h => range_below r1'.out hb1 h) Tryz.underlying34 rfl info_dg4) rfl hHeld ?_
   try simp only [Act.put, kA, kB, kC, kD, kE, kF]
   refine tk (i := 4) (v := .slice (some ⟨b2, o2, none⟩) l.length ca2) rfl hHeld ?_
   try simp only [Act.put, kA, kB, kC, kD, kE, kF]
   refine tk (i := 5) (v := .int .i64 j) rfl hHeld ?_
   try simp only [Act.put, kA, kB, kC, kD, kE, kF]
   refine tk (i := 6) (v := .pointer (some ⟨b2, o2 + j * 4, none⟩)) rfl hHeld ?_
   try simp only [Act.put, kA, kB, kC, kD, kE, kF]
   refine tk (i := 7) (v := .agg #[.int .i64 d.code, .int .i64 d.at_, .int .i64 d.to, .string d.text]) (hy := yieldsIf_load_mid (by rfl) _ _ rfl _ _ rfl [.int .i64 d.code, .int .i64 d.at_, .int .i64 d.to, .string d.text] _ (fun _ h => range_below r2'.out hb2 h) Tryz.underlying34 rfl info_dg4) rfl hHeld ?_
   try simp only [Act.put, kA, kB, kC, kD, kE, kF]
   refine tk (i := 8) (v := .bool false) rfl hHeld ?_
   try simp only [Act.put, kA, kB, kC, kD, kE, kF]
   refine wpAnyH_done (by kernel_rfl) ?_ _
   clear hHeld
   go_wp2
   go_roundw
   case rel => exact ⟨j + 1, by omega, by go_num, hb.out.drew⟩
   case measure => simp [intOf]; omega
  ·obtain rfl : j = l.length := by omega
   go_wp2_with fail
   go_ret
   exact ⟨rfl, hb.out⟩
theorem rsame_new (W : World) (l : List Dg) (v : Value) (h : DgsIn W v l) (hl : l.length < 1000000) {n a : Nat} (hn : n = l.length) (ha : a = W.heap.size) {cs : Array Value} (hc : cs = (dgV l).toArray) :
 Calls Tryz.prog 13 #[v, .slice (some ⟨a, 0, none⟩) n n] (W.alloc (.cells cs 34)) fun e w' => e = .returned (.bool true) ∧ Below W.heap.size W w' := by
 subst hn ha hc
 have hb := (Below.refl _ W).alloc (Nat.le_refl _) (.cells (dgV l).toArray 34)
 have h2 : DgsIn (W.alloc (.cells (dgV l).toArray 34)) (.slice (some ⟨W.heap.size, 0, none⟩) l.length l.length) l := by
  refine ⟨_, _, rfl, fun i hi => ⟨_, 0, rfl, by simp, fun j u hu => ?_⟩⟩
  refine (cell_of_row _ _ _ _ _ _ (MapKept.heap_alloc W _).1).trans ?_
  simpa using dgV_get l hi hu
 exact (rsame_walk _ _ _ l (h.below hb) h2 hl).mono fun e w' hw => ⟨hw.1, hb.trans (hw.2.mono hb.size)⟩
end Go.Proofs.YthggagophcnkfaaGreatDoor.px
namespace Go.Proofs.YthggagophcnkfaaGreatDoor.py
open Go.RowKit Go.Proofs.YthggagophcnkfaaGreatDoor.agg Go.Proofs.YthggagophcnkfaaGreatDoor.sx Go.Proofs.YthggagophcnkfaaGreatDoor.lx Go.Proofs.YthggagophcnkfaaGreatDoor.px
set_option linter.unusedSimpArgs false
set_option linter.unusedVariables false
def srcR (T : ByteArray) : Src := ⟨T, kept T, []⟩
structure SAt (B : Nat) (w : World) (P : Nat) (T : ByteArray) (tv lv : Value) (ks : List Tok) (ds : List Dg) : Prop where
 box : w.heap[P]? = some (.cells (pcells T tv (.slice none 0 0) 0 0 (-1)) 70 (0, 0))
 toks : w.ownsRow B 39 4 tv ks.length (tokV ks)
 list : w.ownsRow B 34 4 lv ds.length (dgV ds)
section
variable {B : Nat} {w W0 w' : World} {P : Nat} {T : ByteArray} {tv lv : Value} {ks : List Tok} {ds : List Dg}
theorem SAt.below (h : SAt B w P T tv lv ks ds) (hb : Below w.heap.size w w') : SAt B w' P T tv lv ks ds :=
 ⟨(hb.block P (lt_of_block h.box)).trans h.box, ownsRow_same h.toks (fun k e => hb.block k (h.toks.lt k e).2), ownsRow_same h.list (fun k e => hb.block k (h.list.lt k e).2)⟩
theorem SAt.cell (h : SAt B w P T tv lv ks ds) : w.cell? ⟨P, 1, none⟩ = some tv ∧ ∀ i, w.frozen? ⟨P, i, none⟩ = false := by
 refine ⟨?_, fun i => ?_⟩ <;> simp [World.cell?, World.frozen?, h.box, pcells]
theorem SAt.ne (h : SAt B w P T tv lv ks ds) : tv.ownBlock ≠ some P ∧ lv.ownBlock ≠ some P ∧ (∀ b, tv.ownBlock = some b → lv.ownBlock ≠ some b) :=
 ⟨row_ne h.box (by decide) h.toks, row_ne h.box (by decide) h.list, fun b hb => rows_ne (by decide) h.toks h.list hb⟩
theorem SAt.dg (h : SAt B w P T tv lv ks ds) (hb : Below w.heap.size w W0) (hgrow : W0.grownBy w' lv.ownBlock) {d : Dg} {v : Value} (hown : w'.ownsRow B 34 4 v (ds.length + 1) (dgV ds ++ d.cells.toList)) : SAt B w' P T tv v ks (ds ++ [d]) := by
 obtain ⟨n1, n2, n3⟩ := h.ne
 have hz := hb.size
 have hkeep : ∀ k, k < w.heap.size → lv.ownBlock ≠ some k → w'.heap[k]? = w.heap[k]? := fun k hk h2 =>
  (hgrow.block k (by omega) (fun e => h2 e.symm)).trans (hb.block _ hk)
 refine ⟨(hkeep _ (lt_of_block h.box) n2).trans h.box, ownsRow_same h.toks (fun k hk => hkeep k (h.toks.lt k hk).2 (n3 k hk)), ?_⟩
 have e1 : dgV (ds ++ [d]) = dgV ds ++ d.cells.toList := by rw [dgV_app]; simp [dgV]
 rw [e1, List.length_append]
 exact hown
theorem SAt.tk (h : SAt B w P T tv lv ks ds) (hb : Below w.heap.size w W0) (hgrow : W0.grownBy w' tv.ownBlock) {t : Tok} {g' cap' : Nat} (hown : w'.ownsRow B 39 4 (.slice (some ⟨g', 0, none⟩) (ks.length + 1) cap') (ks.length + 1) (tokV ks ++ t.cells.toList)) (hnew : tv.ownBlock = some g' ∨ g' = W0.heap.size) :
 SAt B (w'.setCell ⟨P, 1, none⟩ (.slice (some ⟨g', 0, none⟩) (ks.length + 1) cap')) P T (.slice (some ⟨g', 0, none⟩) (ks.length + 1) cap') lv (ks ++ [t]) ds := by
 obtain ⟨n1, n2, n3⟩ := h.ne
 have hz := hb.size
 have hkeep : ∀ k, k < w.heap.size → tv.ownBlock ≠ some k → w'.heap[k]? = w.heap[k]? := fun k hk h2 =>
  (hgrow.block k (by omega) (fun e => h2 e.symm)).trans (hb.block _ hk)
 have hP := lt_of_block h.box
 have hgP : g' ≠ P := by
  rcases hnew with e | e
  ·exact fun e2 => n1 (by rw [e, e2])
  ·omega
 refine ⟨?_, ?_, ?_⟩
 ·rw [heap_setCell_same _ _ _ _ _ _ ((hkeep _ hP n1).trans h.box)]
  exact rfl
 ·have e1 : tokV (ks ++ [t]) = tokV ks ++ t.cells.toList := by rw [tokV_app]; simp [tokV]
  rw [e1, List.length_append]
  exact ownsRow_same hown (fun k hk => heap_setCell_other _ _ _ _ (fun e => hgP ((show g' = k by simpa [Value.ownBlock] using hk).trans (show k = P from e))))
 ·refine ownsRow_same h.list (fun k hk => ?_)
  exact (heap_setCell_other _ _ _ _ (fun e => n2 (by rw [hk]; exact congrArg some (show k = P from e)))).trans (hkeep k (h.list.lt k hk).2 (fun e => n3 k e hk))
end
def StartEnd (w : World) (T : ByteArray) (e : Ending) (w' : World) : Prop :=
 ∃ P tv lv, e = .returned (.tuple #[.pointer (some ⟨P, 0, none⟩), lv]) ∧ PIn w' P tv (.slice none 0 0) (srcR T) ⟨0, []⟩ ∧ w'.ownsRow w.heap.size 34 4 lv ((toks T).flatMap (lexDg T)).length (dgV ((toks T).flatMap (lexDg T))) ∧ w.heap.size ≤ P ∧ lv.ownBlock ≠ some P ∧ (∀ b, tokBlock tv = some b → w.heap.size ≤ b ∧ lv.ownBlock ≠ some b) ∧ Below w.heap.size w w'
theorem scan_pos (n : Nat) : ∀ (l : List UInt8) (pos : Nat), ∀ t ∈ scan n l pos, t.kind ≠ 0 → t.at_ < t.to := by
 induction n with
 | zero =>
  intro l pos t ht hk
  simp only [scan, List.mem_singleton] at ht
  subst ht
  exact absurd rfl hk
 | succ n ih =>
  intro l pos t ht hk
  rw [scan] at ht
  split at ht
  ·simp only [List.mem_singleton] at ht
   subst ht
   exact absurd rfl hk
  ·rename_i c r e
   rcases List.mem_cons.1 ht with rfl | ht
   ·have := (tokB_pos (c := c) (r := r)).1
    simp only
    omega
   ·exact ih _ _ _ ht hk
theorem kept_num {T : ByteArray} : ∀ t ∈ kept T, t.kind = 3 → t.at_ < t.to := fun t ht h =>
 scan_pos _ _ _ t (List.mem_filter.1 ht).1 (by omega)
theorem srcR_ok (T : ByteArray) (hT : T.size ≤ 4096) : TokOk (srcR T) := by
 have h := px.src_ok T hT
 exact ⟨kept_num, h.size, h.len, h.pos, h.rng, h.fin, h.mono, Nat.zero_le _⟩
end Go.Proofs.YthggagophcnkfaaGreatDoor.py
