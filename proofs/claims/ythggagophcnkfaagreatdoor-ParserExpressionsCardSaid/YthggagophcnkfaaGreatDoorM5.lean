/- How the parser lies while begin fills it; the walk of begin's note. What is right of the tokens of a text. No function of the program is walked here. The walks of the parser's demand, optional, name, missing and node. -/
import Derived.Test.YthggagophcnkfaaGreatDoorTk
import Derived.Test.YthggagophcnkfaaGreatDoorM4
import Derived.Test.YthggagophcnkfaaGreatDoorPReport
import Derived.Deep.RegionHeld3
import Derived.Test.YthggagophcnkfaaGreatDoorM46
namespace Go.Proofs.YthggagophcnkfaaGreatDoor.px
open Go.RowKit Go.Proofs.YthggagophcnkfaaGreatDoor.agg Go.Proofs.YthggagophcnkfaaGreatDoor.sx Go.Proofs.YthggagophcnkfaaGreatDoor.lx
set_option linter.unusedSimpArgs false
set_option linter.unusedVariables false
theorem row_ne {w : World} {k : Nat} {c : Array Value} {t e : TypeId} (hk : w.heap[k]? = some (.cells c t (0, 0))) (hte : t ≠ e) {base size n : Nat} {v : Value} {xs : List Value} (h : w.ownsRow base e size v n xs) : v.ownBlock ≠ some k := by
 rcases h.2 with ⟨rfl, _⟩ | ⟨g, cap, cur, rfl, _, hg, _⟩
 ·simp [Value.ownBlock]
 ·intro e2
  have : g = k := by simpa [Value.ownBlock] using e2
  subst this
  rw [hg] at hk
  simp at hk
  exact hte hk.2.symm
theorem rows_ne {w : World} {e e' : TypeId} (hte : e ≠ e') {b b' s s' n n' : Nat} {v v' : Value} {xs xs' : List Value} (h : w.ownsRow b e s v n xs) (h' : w.ownsRow b' e' s' v' n' xs') {k : Nat} (hk : v.ownBlock = some k) : v'.ownBlock ≠ some k := by
 rcases h.2 with ⟨rfl, _⟩ | ⟨g, cap, cur, rfl, _, hg, _⟩
 ·simp [Value.ownBlock] at hk
 ·have : g = k := by simpa [Value.ownBlock] using hk
  subst this
  exact row_ne hg hte h'
structure BAt (B : Nat) (w : World) (P Pp : Nat) (T : ByteArray) (tv lv : Value) (ks : List Tok) (ds : List Dg) : Prop where
 box : w.heap[P]? = some (.cells (pcells T tv lv 0 0 (-1)) 79 (0, 0))
 ptr : w.heap[Pp]? = some (.cells #[.pointer (some ⟨P, 0, none⟩)] 56 (0, 0))
 toks : w.ownsRow B 39 4 tv ks.length (tokV ks)
 list : w.ownsRow B 34 4 lv ds.length (dgV ds)
def bfoot (P : Nat) (tv lv : Value) (k : Nat) : Prop := k = P ∨ tv.ownBlock = some k ∨ lv.ownBlock = some k
section
variable {B : Nat} {w w' : World} {P Pp : Nat} {T : ByteArray} {tv lv : Value} {ks : List Tok} {ds : List Dg}
theorem BAt.same (h : BAt B w P Pp T tv lv ks ds) (hk : ∀ k, k < w.heap.size → (k = Pp ∨ bfoot P tv lv k) → w'.heap[k]? = w.heap[k]?) : BAt B w' P Pp T tv lv ks ds :=
 ⟨(hk P (lt_of_block h.box) (.inr (.inl rfl))).trans h.box, (hk Pp (lt_of_block h.ptr) (.inl rfl)).trans h.ptr, ownsRow_same h.toks (fun k e => hk k (h.toks.lt k e).2 (.inr (.inr (.inl e)))), ownsRow_same h.list (fun k e => hk k (h.list.lt k e).2 (.inr (.inr (.inr e))))⟩
theorem BAt.below (h : BAt B w P Pp T tv lv ks ds) (hb : Below w.heap.size w w') : BAt B w' P Pp T tv lv ks ds := h.same fun k hk _ => hb.block k hk
theorem BAt.cell (h : BAt B w P Pp T tv lv ks ds) :
 w.cell? ⟨Pp, 0, none⟩ = some (.pointer (some ⟨P, 0, none⟩)) ∧ w.cell? ⟨P, 1, none⟩ = some tv ∧ w.cell? ⟨P, 5, none⟩ = some lv ∧ ∀ i, w.frozen? ⟨P, i, none⟩ = false := by
 refine ⟨?_, ?_, ?_, fun i => ?_⟩
 ·simp [World.cell?, h.ptr]
 ·simp [World.cell?, h.box, pcells]
 ·simp [World.cell?, h.box, pcells]
 ·simp [World.frozen?, h.box]
theorem BAt.ne (h : BAt B w P Pp T tv lv ks ds) : P ≠ Pp ∧ tv.ownBlock ≠ some P ∧ lv.ownBlock ≠ some P ∧ tv.ownBlock ≠ some Pp ∧ lv.ownBlock ≠ some Pp := by
 refine ⟨fun e => ?_, row_ne h.box (by decide) h.toks, row_ne h.box (by decide) h.list, row_ne h.ptr (by decide) h.toks, row_ne h.ptr (by decide) h.list⟩
 have h1 := h.box
 rw [e, h.ptr] at h1
 simp at h1
end
def NoteEnd (B : Nat) (w : World) (P Pp : Nat) (T : ByteArray) (tv lv : Value) (ks : List Tok) (ds : List Dg) (e : Ending) (w' : World) : Prop :=
 ∃ lv', e = .returned (.tuple #[]) ∧ BAt B w' P Pp T tv lv' ks ds ∧ Kept (bfoot P tv lv) w w'
theorem tok_cells {w : World} {b : Nat} {t : Tok} (h : w.heap[b]? = some (.cells t.cells 39 (0, 0))) :
 w.cell? ⟨b, 0, none⟩ = some (.int .i64 t.kind) ∧ w.cell? ⟨b, 1, none⟩ = some (.int .i64 t.fr) ∧ w.cell? ⟨b, 2, none⟩ = some (.int .i64 t.at_) ∧ w.cell? ⟨b, 3, none⟩ = some (.int .i64 t.to) := by
 refine ⟨?_, ?_, ?_, ?_⟩ <;> exact (cell_of_row _ _ _ _ _ _ h).trans rfl
theorem note_end {B : Nat} {w W0 w' : World} {P Pp : Nat} {T : ByteArray} {tv lv : Value} {ks : List Tok} {ds : List Dg} {d : Dg} {g' cap' : Nat} (h : BAt B w P Pp T tv lv ks ds) (hb : Below w.heap.size w W0) (hgrow : W0.grownBy w' lv.ownBlock)
 (hown : w'.ownsRow B 34 4 (.slice (some ⟨g', 0, none⟩) (ds.length + 1) cap') (ds.length + 1) (dgV ds ++ d.cells.toList)) (hnew : lv.ownBlock = some g' ∨ g' = W0.heap.size) :
 BAt B (w'.setCell ⟨P, 5, none⟩ (.slice (some ⟨g', 0, none⟩) (ds.length + 1) cap')) P Pp T tv (.slice (some ⟨g', 0, none⟩) (ds.length + 1) cap') ks (ds ++ [d]) ∧ Kept (bfoot P tv lv) w (w'.setCell ⟨P, 5, none⟩ (.slice (some ⟨g', 0, none⟩) (ds.length + 1) cap')) := by
 obtain ⟨n1, n2, n3, n4, n5⟩ := h.ne
 have hz := hb.size
 have hkeep : ∀ k o, w.heap[k]? = some o → lv.ownBlock ≠ some k → w'.heap[k]? = some o := fun k o hk h2 =>
  (hgrow.block k (by have := lt_of_block hk; omega) (fun e => h2 e.symm)).trans ((hb.block _ (lt_of_block hk)).trans hk)
 have hgP : g' ≠ P := by
  have hP := lt_of_block h.box
  rcases hnew with e | e
  ·exact fun e2 => n3 (by rw [e, e2])
  ·omega
 refine ⟨⟨?_, ?_, ?_, ?_⟩, ?_⟩
 ·rw [heap_setCell_same _ _ _ _ _ _ (hkeep _ _ h.box n3)]
  exact rfl
 ·exact (heap_setCell_other _ _ _ _ (fun e => n1 e.symm)).trans (hkeep _ _ h.ptr n5)
 ·refine ownsRow_same h.toks (fun k hk => ?_)
  have hk1 : lv.ownBlock ≠ some k := rows_ne (by decide) h.toks h.list hk
  have hk2 := (h.toks.lt k hk).2
  exact (heap_setCell_other _ _ _ _ (fun e => n2 (by rw [hk]; exact congrArg some (show k = P from e)))).trans ((hgrow.block k (by omega) (fun e => hk1 e.symm)).trans (hb.block k hk2))
 ·have e1 : dgV (ds ++ [d]) = dgV ds ++ d.cells.toList := by rw [dgV_app]; simp [dgV]
  rw [e1, List.length_append]
  exact ownsRow_same hown (fun k hk => heap_setCell_other _ _ _ _ (fun e => hgP ((show g' = k by simpa [Value.ownBlock] using hk).trans (show k = P from e))))
 ·exact ((Kept.of_below hb).trans (Kept.grown hgrow (fun k hk => .inr (.inr hk)))).trans (.setCell _ (.inl rfl) _)
set_option maxRecDepth 100000 in
set_option maxHeartbeats 2000000 in
theorem note_walk {B : Nat} {w : World} {P Pp : Nat} {T : ByteArray} {tv lv : Value} {ks : List Tok} {ds : List Dg} (h : BAt B w P Pp T tv lv ks ds) (hB : B ≤ w.heap.size) (hd : ds.length ≤ 5000) (Tb : Nat) (t : Tok) (ht : w.heap[Tb]? = some (.cells t.cells 39 (0, 0))) (code : Int) :
 Calls Tryz.prog 58 #[.int .i64 code, .pointer (some ⟨Pp, 0, none⟩), .pointer (some ⟨Tb, 0, none⟩)] w (NoteEnd B w P Pp T tv lv ks (ds ++ [⟨code, t.at_, t.to, ⟨#[]⟩⟩])) := by
 obtain ⟨i0, hi, hz0, hz1, hz2⟩ := info_parts info_dg
 obtain ⟨cp, _, c5, fP⟩ := h.cell
 obtain ⟨_, _, y2, y3⟩ := tok_cells ht
 have hh := Lib.hid h
 have hown := h.list
 have f5 := fP 5
 have hn := h.ne.2.2.1
 have hn2 := h.ne.2.2.2.2
 have hPW := lt_of_block h.box
 have hPpW := lt_of_block h.ptr
 have hTbW := lt_of_block ht
 have ht' := Lib.hid ht
 have hn3 := row_ne ht (by decide) h.list
 have hn5 := h.ne.1
 have hn4 : Tb ≠ P := by
  rintro rfl
  have h1 := h.box.symm.trans ht
  simp at h1
 clear fP h ht
 go_enter Tryz.func58, Tryz.ntmps58
 refine wp_region_held_drew (S := fun u => u.cell? ⟨Pp, 0, none⟩ = some (.pointer (some ⟨P, 0, none⟩)) ∧ u.cell? ⟨Tb, 2, none⟩ = some (.int .i64 t.at_) ∧ u.cell? ⟨Tb, 3, none⟩ = some (.int .i64 t.to)) (by kernel_rfl) ⟨cp, y2, y3⟩ (fun hHeld => ?_)
 have c5d : w.drew.cell? ⟨P, 5, none⟩ = some lv := c5
 have hz : w.drew.heap.size = w.heap.size := rfl
 refine tk (i := 0) (v := .pointer (some ⟨P, 0, none⟩)) rfl hHeld ?_
 try simp only [Act.put, kA, kB, kC, kD, kE, kF]
 refine tk (i := 1) (v := .pointer (some ⟨P, 0, none⟩)) rfl hHeld ?_
 try simp only [Act.put, kA, kB, kC, kD, kE, kF]
 refine tk (i := 2) (v := .pointer (some ⟨P, 0, none⟩)) rfl hHeld ?_
 try simp only [Act.put, kA, kB, kC, kD, kE, kF]
 refine tk (i := 3) (v := .pointer (some ⟨P, 5, none⟩)) rfl hHeld ?_
 try simp only [Act.put, kA, kB, kC, kD, kE, kF]
 refine tk (i := 5) (v := .int .i64 code) rfl hHeld ?_
 try simp only [Act.put, kA, kB, kC, kD, kE, kF]
 refine tk (i := 6) (v := .pointer (some ⟨Tb, 2, none⟩)) rfl hHeld ?_
 try simp only [Act.put, kA, kB, kC, kD, kE, kF]
 refine tk (i := 7) (v := .int .i64 t.at_) rfl hHeld ?_
 try simp only [Act.put, kA, kB, kC, kD, kE, kF]
 refine tk (i := 8) (v := .pointer (some ⟨Tb, 3, none⟩)) rfl hHeld ?_
 try simp only [Act.put, kA, kB, kC, kD, kE, kF]
 refine tk (i := 9) (v := .int .i64 t.to) rfl hHeld ?_
 try simp only [Act.put, kA, kB, kC, kD, kE, kF]
 refine tk (i := 10) (v := .agg #[.int .i64 code, .int .i64 t.at_, .int .i64 t.to, .string ⟨#[]⟩]) rfl hHeld ?_
 try simp only [Act.put, kA, kB, kC, kD, kE, kF]
 have hal : ∀ o, (w.alloc o).drew.cell? ⟨Pp, 0, none⟩ = some (.pointer (some ⟨P, 0, none⟩)) ∧ (w.alloc o).drew.cell? ⟨Tb, 2, none⟩ = some (.int .i64 t.at_) ∧ (w.alloc o).drew.cell? ⟨Tb, 3, none⟩ = some (.int .i64 t.to) := fun o =>
  ⟨(((Below.refl _ w).alloc (Nat.le_refl _) o).cell (p := ⟨Pp, 0, none⟩) hPpW).trans cp, (((Below.refl _ w).alloc (Nat.le_refl _) o).cell (p := ⟨Tb, 2, none⟩) hTbW).trans y2, (((Below.refl _ w).alloc (Nat.le_refl _) o).cell (p := ⟨Tb, 3, none⟩) hTbW).trans y3⟩
 refine wpAnyH_ready (rs := [4, 11]) (by kernel_rfl) (by simp) ?_
 refine AllReadyH.cons rfl (fun K hK => ?_) (AllReadyH.cons rfl (fun K hK => ?_) AllReadyH.nil)
 ·rw [if_pos (by rfl)]
  go_simp
  refine hK.out _ _ hHeld (fun hHeld => ?_)
  clear hK K
  try simp only [Act.put, kA, kB, kC, kD, kE, kF]
  refine wpAnyH_ready (rs := [11]) (by kernel_rfl) (by simp) ?_
  refine AllReadyH.cons rfl (fun K hK => ?_) AllReadyH.nil
  rw [if_pos (by rfl)]
  go_simp
  refine hK.out _ _ (hal _) (fun hHeld => ?_)
  clear hK K
  try simp only [Act.put, kA, kB, kC, kD, kE, kF]
  refine wpAnyH_ready (rs := [12]) (by kernel_rfl) (by simp) ?_
  refine AllReadyH.cons rfl (fun K hK => ?_) AllReadyH.nil
  rw [if_pos (by rfl)]
  refine wp_append_mine (.tmp 8) (.tmp 15) 26 rfl B 34 i0 _ 4 40 Tryz.underlying26 hi hz0 hz1 hz2 (by decide) lv _ _ rfl ((hown.alloc _).drew) ⟨w.heap.size, 0, none⟩ 1 1 (Dg.mk code t.at_ t.to ⟨#[]⟩).cells.toList rfl rfl (by omega) (cells_new w (Dg.mk code t.at_ t.to ⟨#[]⟩).cells _) (dg_one _) (by unfold maxLen; omega) (by omega) (by simp; omega) ?_
  intro g' cap' w' hown' hgrow hnew
  have hkW : ∀ k o, w.heap[k]? = some o → lv.ownBlock ≠ some k → w'.heap[k]? = some o := fun k o hk h2 => (hgrow.block k (by have := lt_of_block hk; simp; omega) (fun e => h2 e.symm)).trans ((Below.heap_alloc _ _ _ (lt_of_block hk)).trans hk)
  have hbx' := hkW _ _ hh.out.box hn
  have hpx' := hkW _ _ hh.out.ptr hn2
  have htx' := hkW _ _ ht'.out hn3
  refine hK.out _ _ ⟨(cell_of_row _ _ _ _ _ _ hpx').trans rfl, (tok_cells htx').2.2.1, (tok_cells htx').2.2.2⟩ (fun hHeld => ?_)
  clear hK K
  try simp only [Act.put, kA, kB, kC, kD, kE, kF]
  refine tk (i := 13) (v := .pointer (some ⟨P, 0, none⟩)) rfl hHeld ?_
  try simp only [Act.put, kA, kB, kC, kD, kE, kF]
  refine tk (i := 14) (v := .pointer (some ⟨P, 5, none⟩)) rfl hHeld ?_
  try simp only [Act.put, kA, kB, kC, kD, kE, kF]
  have c5' : w'.cell? ⟨P, 5, none⟩ = some lv := (cell_of_row _ _ _ _ _ _ hbx').trans rfl
  have f5' : w'.frozen? ⟨P, 5, none⟩ = false := by simp [World.frozen?, hbx']
  refine wpAnyH_ready (rs := [15]) (by kernel_rfl) (by simp) ?_
  refine AllReadyH.cons rfl (fun K hK => ?_) AllReadyH.nil
  rw [if_pos (by rfl)]
  go_simp
  have hP2 : ∀ k o, w.heap[k]? = some o → lv.ownBlock ≠ some k → k ≠ P → (w'.setCell ⟨P, 5, none⟩ (.slice (some ⟨g', 0, none⟩) (ds.length + 1) cap')).heap[k]? = some o := fun k o hk h2 h3 => (heap_setCell_other _ _ _ _ (fun e => h3 e)).trans (hkW k o hk h2)
  have htx2 := hP2 _ _ ht'.out hn3 hn4
  have hpx2 := hP2 _ _ hh.out.ptr hn2 (fun e => hn5 e.symm)
  refine hK.out _ _ ⟨(cell_of_row _ _ _ _ _ _ hpx2).trans rfl, (tok_cells htx2).2.2.1, (tok_cells htx2).2.2.2⟩ (fun hHeld => ?_)
  clear hK K
  try simp only [Act.put, kA, kB, kC, kD, kE, kF]
  refine wpAnyH_done (by kernel_rfl) ?_ _
  clear hHeld
  go_end0
  obtain ⟨q1, q2⟩ := note_end hh.out ((Below.refl _ w).alloc (Nat.le_refl _) _).drew hgrow hown' hnew
  exact ⟨_, rfl, q1, q2⟩
 ·rw [if_pos (by rfl)]
  go_simp
  refine hK.out _ _ (hal _) (fun hHeld => ?_)
  clear hK K
  try simp only [Act.put, kA, kB, kC, kD, kE, kF]
  refine wpAnyH_ready (rs := [4]) (by kernel_rfl) (by simp) ?_
  refine AllReadyH.cons rfl (fun K hK => ?_) AllReadyH.nil
  rw [if_pos (by rfl)]
  go_simp
  refine hK.out _ _ hHeld (fun hHeld => ?_)
  clear hK K
  try simp only [Act.put, kA, kB, kC, kD, kE, kF]
  refine wpAnyH_ready (rs := [12]) (by kernel_rfl) (by simp) ?_
  refine AllReadyH.cons rfl (fun K hK => ?_) AllReadyH.nil
  rw [if_pos (by rfl)]
  refine wp_append_mine (.tmp 8) (.tmp 15) 26 rfl B 34 i0 _ 4 40 Tryz.underlying26 hi hz0 hz1 hz2 (by decide) lv _ _ rfl ((hown.alloc _).drew) ⟨w.heap.size, 0, none⟩ 1 1 (Dg.mk code t.at_ t.to ⟨#[]⟩).cells.toList rfl rfl (by omega) (cells_new w (Dg.mk code t.at_ t.to ⟨#[]⟩).cells _) (dg_one _) (by unfold maxLen; omega) (by omega) (by simp; omega) ?_
  intro g' cap' w' hown' hgrow hnew
  have hkW : ∀ k o, w.heap[k]? = some o → lv.ownBlock ≠ some k → w'.heap[k]? = some o := fun k o hk h2 => (hgrow.block k (by have := lt_of_block hk; simp; omega) (fun e => h2 e.symm)).trans ((Below.heap_alloc _ _ _ (lt_of_block hk)).trans hk)
  have hbx' := hkW _ _ hh.out.box hn
  have hpx' := hkW _ _ hh.out.ptr hn2
  have htx' := hkW _ _ ht'.out hn3
  refine hK.out _ _ ⟨(cell_of_row _ _ _ _ _ _ hpx').trans rfl, (tok_cells htx').2.2.1, (tok_cells htx').2.2.2⟩ (fun hHeld => ?_)
  clear hK K
  try simp only [Act.put, kA, kB, kC, kD, kE, kF]
  refine tk (i := 13) (v := .pointer (some ⟨P, 0, none⟩)) rfl hHeld ?_
  try simp only [Act.put, kA, kB, kC, kD, kE, kF]
  refine tk (i := 14) (v := .pointer (some ⟨P, 5, none⟩)) rfl hHeld ?_
  try simp only [Act.put, kA, kB, kC, kD, kE, kF]
  have c5' : w'.cell? ⟨P, 5, none⟩ = some lv := (cell_of_row _ _ _ _ _ _ hbx').trans rfl
  have f5' : w'.frozen? ⟨P, 5, none⟩ = false := by simp [World.frozen?, hbx']
  refine wpAnyH_ready (rs := [15]) (by kernel_rfl) (by simp) ?_
  refine AllReadyH.cons rfl (fun K hK => ?_) AllReadyH.nil
  rw [if_pos (by rfl)]
  go_simp
  have hP2 : ∀ k o, w.heap[k]? = some o → lv.ownBlock ≠ some k → k ≠ P → (w'.setCell ⟨P, 5, none⟩ (.slice (some ⟨g', 0, none⟩) (ds.length + 1) cap')).heap[k]? = some o := fun k o hk h2 h3 => (heap_setCell_other _ _ _ _ (fun e => h3 e)).trans (hkW k o hk h2)
  have htx2 := hP2 _ _ ht'.out hn3 hn4
  have hpx2 := hP2 _ _ hh.out.ptr hn2 (fun e => hn5 e.symm)
  refine hK.out _ _ ⟨(cell_of_row _ _ _ _ _ _ hpx2).trans rfl, (tok_cells htx2).2.2.1, (tok_cells htx2).2.2.2⟩ (fun hHeld => ?_)
  clear hK K
  try simp only [Act.put, kA, kB, kC, kD, kE, kF]
  refine wpAnyH_done (by kernel_rfl) ?_ _
  clear hHeld
  go_end0
  obtain ⟨q1, q2⟩ := note_end hh.out ((Below.refl _ w).alloc (Nat.le_refl _) _).drew hgrow hown' hnew
  exact ⟨_, rfl, q1, q2⟩
end Go.Proofs.YthggagophcnkfaaGreatDoor.px
namespace Go.Proofs.YthggagophcnkfaaGreatDoor.px
open Go.RowKit Go.Proofs.YthggagophcnkfaaGreatDoor.agg Go.Proofs.YthggagophcnkfaaGreatDoor.sx Go.Proofs.YthggagophcnkfaaGreatDoor.lx
set_option linter.unusedSimpArgs false
set_option linter.unusedVariables false
theorem scan_split : ∀ (fuel : Nat) (l : List UInt8) (pos : Nat), l.length < fuel → ∃ init e, scan fuel l pos = init ++ [e] ∧ e.kind = 0 ∧ e.to = pos + l.length ∧ (∀ t ∈ init, 0 < t.kind) ∧ (∀ t ∈ init ++ [e], t.kind ≤ 5 ∧ pos ≤ t.at_ ∧ t.at_ ≤ t.to ∧ t.to ≤ pos + l.length) ∧ (init ++ [e]).Pairwise (fun a b => a.to ≤ b.at_ ∧ a.at_ < b.at_)
 | 0, l, pos, h => by omega
 | n + 1, l, pos, h => by
  have hsk := skipS_le false l
  rw [scan]
  cases hd : l.drop (skipS false l) with
  | nil =>
   have hl := congrArg List.length hd
   rw [List.length_drop, List.length_nil] at hl
   refine ⟨[], _, rfl, rfl, ?_, by simp, ?_, by simp⟩
   ·simp only; omega
   ·intro t ht
    simp only [List.nil_append, List.mem_singleton] at ht
    subst ht
    simp only
    omega
  | cons c r =>
   have hl := congrArg List.length hd
   rw [List.length_drop] at hl
   have hp := tokB_pos (c := c) (r := r)
   have hk := tokB_kind (c :: r)
   have hm := tokB_len (c :: r)
   have hdl : ((c :: r).drop (tokB (c :: r)).2).length = (c :: r).length - (tokB (c :: r)).2 := List.length_drop
   obtain ⟨init, e, h1, h2, h2b, h3, h4, h5⟩ := scan_split n ((c :: r).drop (tokB (c :: r)).2) (pos + skipS false l + (tokB (c :: r)).2) (by rw [hdl]; omega)
   simp only
   rw [h1]
   refine ⟨_ :: init, e, rfl, h2, ?_, ?_, ?_, ?_⟩
   ·rw [h2b, hdl]; omega
   ·intro t ht
    rcases List.mem_cons.1 ht with rfl | ht
    ·exact Nat.pos_of_ne_zero hp.2
    ·exact h3 t ht
   ·intro t ht
    rw [List.cons_append] at ht
    rcases List.mem_cons.1 ht with rfl | ht
    ·simp only
     omega
    ·obtain ⟨a, b, c', d⟩ := h4 t ht
     rw [hdl] at d
     exact ⟨a, by omega, c', by omega⟩
   ·rw [List.cons_append]
    refine List.pairwise_cons.2 ⟨fun b hb => ?_, h5⟩
    obtain ⟨_, b1, _⟩ := h4 b hb
    simp only
    omega
theorem toks_split (T : ByteArray) : ∃ init e, toks T = init ++ [e] ∧ e.kind = 0 ∧ e.to = T.size ∧ (∀ t ∈ init, 0 < t.kind) ∧ (∀ t ∈ init ++ [e], t.kind ≤ 5 ∧ t.at_ ≤ t.to ∧ t.to ≤ T.size) ∧ (init ++ [e]).Pairwise (fun a b => a.to ≤ b.at_ ∧ a.at_ < b.at_) := by
 have hl : T.data.toList.length = T.size := rfl
 obtain ⟨init, e, h1, h2, h2b, h3, h4, h5⟩ := scan_split (T.size + 1) T.data.toList 0 (by omega)
 refine ⟨init, e, h1, h2, by omega, h3, fun t ht => ?_, h5⟩
 obtain ⟨a, b, c, d⟩ := h4 t ht
 exact ⟨a, c, by omega⟩
theorem kept_split (T : ByteArray) : ∃ init e, kept T = init ++ [e] ∧ e.kind = 0 ∧ e.to = T.size ∧ (∀ t ∈ init, 0 < t.kind ∧ t.kind ≠ 5) ∧ (∀ t ∈ init ++ [e], t.kind ≤ 5 ∧ t.at_ ≤ t.to ∧ t.to ≤ T.size) ∧ (init ++ [e]).Pairwise (fun a b => a.to ≤ b.at_ ∧ a.at_ < b.at_) := by
 obtain ⟨init, e, h1, h2, h2b, h3, h4, h5⟩ := toks_split T
 have hf : kept T = init.filter (fun t => t.kind != 5) ++ [e] := by
  unfold kept
  rw [h1, List.filter_append]
  congr 1
  rw [List.filter_cons_of_pos (by rw [h2]; rfl), List.filter_nil]
 have hs : (init.filter (fun t => t.kind != 5) ++ [e]).Sublist (init ++ [e]) := List.filter_sublist.append (List.Sublist.refl _)
 refine ⟨_, e, hf, h2, h2b, fun t ht => ?_, fun t ht => h4 t (hs.subset ht), h5.sublist hs⟩
 obtain ⟨m1, m2⟩ := List.mem_filter.1 ht
 exact ⟨h3 t m1, by simpa using m2⟩
theorem toks_len' (T : ByteArray) : (toks T).length ≤ T.size + 2 := by
 have : ∀ (n : Nat) (l : List UInt8) (pos : Nat), (scan n l pos).length ≤ n + 1 := by
  intro n
  induction n with
  | zero => intro l pos; simp [scan]
  | succ n ih =>
   intro l pos
   rw [scan]
   split
   ·simp
   ·simp only [List.length_cons]
    exact Nat.succ_le_succ (ih _ _)
 exact this _ _ _
theorem lexDg_len (T : ByteArray) (t : Tok) : (lexDg T t).length ≤ 1 := by
 unfold lexDg
 split
 ·simp
 ·split
  ·split <;> simp
  ·split
   ·split <;> simp
   ·simp
theorem lexDgs_len (T : ByteArray) (l : List Tok) : (l.flatMap (lexDg T)).length ≤ l.length := by
 induction l with
 | nil => simp
 | cons t l ih =>
  have := lexDg_len T t
  rw [List.flatMap_cons, List.length_append, List.length_cons]
  omega
theorem src_ok (T : ByteArray) (hT : T.size ≤ 4096) : TokOk (src T) := by
 obtain ⟨init, e, h1, h2, h2b, h3, h4, h5⟩ := kept_split T
 have hl : (kept T).length = init.length + 1 := by rw [h1]; simp
 have hk : (kept T).length ≤ (toks T).length := List.length_filter_le _ _
 have ht := toks_len' T
 refine ⟨hT, ?_, ?_, ?_, ?_, ?_, ?_⟩
 ·show (kept T).length ≤ 5000; omega
 ·show 0 < (kept T).length; omega
 ·intro t ht
  exact h4 t (h1 ▸ ht)
 ·intro i hi
  have hi' : i < (kept T).length := hi
  show (kept T)[i].kind = 0 ↔ i + 1 = (kept T).length
  have e1 : (kept T)[i] = (init ++ [e])[i]'(by rw [← h1]; exact hi') := by simp only [h1]
  rw [e1]
  constructor
  ·intro h0
   by_cases hlt : i < init.length
   ·rw [List.getElem_append_left hlt] at h0
    have := (h3 _ (List.getElem_mem hlt)).1
    omega
   ·omega
  ·intro h0
   rw [List.getElem_append_right (by omega)]
   simp [h2]
 ·intro i j hi hj hij
  have h6 : (kept T).Pairwise (fun a b => a.to ≤ b.at_ ∧ a.at_ < b.at_) := by rw [h1]; exact h5
  exact ((List.pairwise_iff_getElem.1 h6) i j hi hj hij).2
 ·show ((toks T).flatMap (lexDg T)).length ≤ 15000
  have := lexDgs_len T (toks T)
  omega
end Go.Proofs.YthggagophcnkfaaGreatDoor.px
namespace Go.Proofs.YthggagophcnkfaaGreatDoor.px
open Go.RowKit Go.Proofs.YthggagophcnkfaaGreatDoor.agg Go.Proofs.YthggagophcnkfaaGreatDoor.sx
set_option linter.unusedSimpArgs false
set_option linter.unusedVariables false
theorem strs_new (W : World) (ws : List ByteArray) (n : Nat) (hn : n = ws.length) : StrsIn (W.alloc (.cells (ws.map Value.string).toArray 9)) (.slice (some ⟨W.heap.size, 0, none⟩) n n) ws := by
 subst hn
 refine ⟨_, _, rfl, fun j hj => ⟨W.heap.size, 0, rfl, by simp, ?_⟩⟩
 rw [cell_of_row _ _ _ _ _ _ (heap_alloc_new W _), Nat.zero_add]
 simp [hj]
theorem rp4 {a : ByteArray} (h : a ≠ ⟨#[]⟩) : RpOk 4 a := ⟨by decide, by decide, fun _ => rfl, fun _ => h⟩
theorem SEnd.behind {w W : World} {P : Nat} {tv lv : Value} {S : Src} {s : Ps} {v : Value} {s' : Ps} {e : Ending} {w' : World} (hb : Below w.heap.size w W) (h : SEnd W P tv lv S s v s' e w') : SEnd w P tv lv S s v s' e w' := by
 obtain ⟨lv', h1, h2, h3, h4, h5⟩ := h
 exact ⟨lv', h1, h2, (Kept.of_below hb).trans h3, fun k hk => by
  rcases h4 k hk with e | e
  ·exact .inl e
  ·exact .inr (Nat.le_trans hb.size e), h5⟩
theorem is_new {w W : World} {P : Nat} {tv lv : Value} {S : Src} {s : Ps} (h : PIn w P tv lv S s) (hb : Below w.heap.size w W) (ws : List ByteArray) (n : Nat) (hn : n = ws.length) (hl : n < 1000) :
 Calls Tryz.prog 117 #[.pointer (some ⟨P, 0, none⟩), .slice (some ⟨W.heap.size, 0, none⟩) n n] (W.alloc (.cells (ws.map Value.string).toArray 9)) fun e w' => e = .returned (.bool (isB S.A ws s)) ∧ Below w.heap.size w w' :=
 (is_walk ((h.below hb).below ((Below.refl _ W).alloc (Nat.le_refl _) _)) _ ws (strs_new W ws n hn) (by omega)).mono fun e w' hw => ⟨hw.1, (hb.alloc hb.size _).trans (hw.2.mono (hb.alloc hb.size _).size)⟩
theorem is_new1 {w W : World} {P : Nat} {tv lv : Value} {S : Src} {s : Ps} (h : PIn w P tv lv S s) (hb : Below w.heap.size w W) (a : ByteArray) :
 Calls Tryz.prog 117 #[.pointer (some ⟨P, 0, none⟩), .slice (some ⟨W.heap.size, 0, none⟩) 1 1] (W.alloc (.cells #[.string a] 9)) fun e w' => e = .returned (.bool (isB S.A [a] s)) ∧ Below w.heap.size w w' := is_new h hb [a] 1 rfl (by omega)
set_option maxRecDepth 100000 in
set_option maxHeartbeats 1000000 in
theorem demand_walk {w : World} {P : Nat} {tv lv : Value} {S : Src} {s : Ps} (h : PIn w P tv lv S s) (a : ByteArray) (ha : a ≠ ⟨#[]⟩) :
 Calls Tryz.prog 67 #[.pointer (some ⟨P, 0, none⟩), .string a] w (SEnd w P tv lv S s (.bool (demand S.A a s).1) (demand S.A a s).2) := by
 have hI := Lib.hid (is_new1 h (Below.refl _ w) a)
 have hN := Lib.hid (fun (W : World) (hb : Below w.heap.size w W) (hk : (tok S.A s).kind ≠ 0) => next_walk (h.below hb) hk)
 have hR := Lib.hid (fun (W : World) (hb : Below w.heap.size w W) => report_walk (h.below hb) 4 a (rp4 ha))
 unfold demand
 by_cases hi : isB S.A [a] s = true
 ·rw [if_pos hi]
  have hkn := Lib.hid (isB_kind hi)
  rw [hi] at hI
  clear hi
  go_enter Tryz.func67, Tryz.ntmps67
  go_wp2_with (first
   | (go_at_call 117; refine hI.out.mono ?_; rintro e w1 ⟨rfl, hb1⟩)
   | (go_at_call 62; refine (hN.out _ hb1 hkn.out).mono ?_; rintro e w2 ⟨lv2, rfl, q1, q2, q3, q4⟩))
  go_ret
  exact SEnd.behind hb1 ⟨lv2, rfl, q1, q2, q3, q4⟩
 ·rw [if_neg hi]
  have hi2 : isB S.A [a] s = false := by simpa using hi
  rw [hi2] at hI
  clear hi hi2
  go_enter Tryz.func67, Tryz.ntmps67
  go_wp2_with (first
   | (go_at_call 117; refine hI.out.mono ?_; rintro e w1 ⟨rfl, hb1⟩)
   | (go_at_call 44; refine (hR.out _ hb1).mono ?_; rintro e w2 ⟨lv2, rfl, q1, q2, q3, q4⟩))
  go_ret
  exact SEnd.behind hb1 ⟨lv2, rfl, q1, q2, q3, q4⟩
set_option maxRecDepth 100000 in
set_option maxHeartbeats 1000000 in
theorem optional_walk {w : World} {P : Nat} {tv lv : Value} {S : Src} {s : Ps} (h : PIn w P tv lv S s) (a : ByteArray) :
 Calls Tryz.prog 123 #[.pointer (some ⟨P, 0, none⟩), .string a] w (SEnd w P tv lv S s (.bool (optional S.A a s).1) (optional S.A a s).2) := by
 have hI := Lib.hid (is_new1 h (Below.refl _ w) a)
 have hN := Lib.hid (fun (W : World) (hb : Below w.heap.size w W) (hk : (tok S.A s).kind ≠ 0) => next_walk (h.below hb) hk)
 have hh := Lib.hid h
 unfold optional
 by_cases hi : isB S.A [a] s = true
 ·rw [if_pos hi]
  have hkn := Lib.hid (isB_kind hi)
  rw [hi] at hI
  clear hi h
  go_enter Tryz.func123, Tryz.ntmps123
  go_wp2_with (first
   | (go_at_call 117; refine hI.out.mono ?_; rintro e w1 ⟨rfl, hb1⟩)
   | (go_at_call 62; refine (hN.out _ hb1 hkn.out).mono ?_; rintro e w2 ⟨lv2, rfl, q1, q2, q3, q4⟩))
  go_ret
  exact SEnd.behind hb1 ⟨lv2, rfl, q1, q2, q3, q4⟩
 ·rw [if_neg hi]
  have hi2 : isB S.A [a] s = false := by simpa using hi
  rw [hi2] at hI
  clear hi hi2 h
  go_enter Tryz.func123, Tryz.ntmps123
  go_wp2_with (first
   | (go_at_call 117; refine hI.out.mono ?_; rintro e w1 ⟨rfl, hb1⟩))
  go_ret
  exact ⟨lv, rfl, hh.out.below hb1, .of_below hb1, fresh_same _ _, Nat.le_refl _⟩
set_option maxRecDepth 100000 in
set_option maxHeartbeats 1000000 in
theorem name_walk {w : World} {P : Nat} {tv lv : Value} {S : Src} {s : Ps} (h : PIn w P tv lv S s) :
 Calls Tryz.prog 64 #[.pointer (some ⟨P, 0, none⟩)] w (SEnd w P tv lv S s (.string (name S.A s).1) (name S.A s).2) := by
 have hT := Lib.hid (token_lit h)
 have hN := Lib.hid (fun (W : World) (hb : Below w.heap.size w W) (hk : (tok S.A s).kind ≠ 0) => next_walk (h.below hb) hk)
 have hR := Lib.hid (fun (W : World) (hb : Below w.heap.size w W) => report_walk (h.below hb) 4 (ByteArray.mk #[110, 97, 109, 101]) (rp4 (by decide)))
 unfold name
 by_cases hk : (tok S.A s).kind = 1
 ·rw [if_pos hk]
  have hkn : Hid ((tok S.A s).kind ≠ 0) := by rw [hk]; exact Lib.hid (by decide)
  rw [hk] at hT
  clear hk h
  go_enter Tryz.func64, Tryz.ntmps64
  go_wp2_with (first
   | (go_at_call 60; refine hT.out.mono ?_; rintro e w1 ⟨rfl, hb1⟩)
   | (go_at_call 62; refine (hN.out _ hb1 hkn.out).mono ?_; rintro e w2 ⟨lv2, rfl, q1, q2, q3, q4⟩))
  go_ret
  exact SEnd.behind hb1 ⟨lv2, rfl, q1, q2, q3, q4⟩
 ·rw [if_neg hk]
  have hkk : (((tok S.A s).kind : Int) == 1) = false := by simp; omega
  clear hk h
  go_enter Tryz.func64, Tryz.ntmps64
  go_wp2_with (first
   | (go_at_call 60; refine hT.out.mono ?_; rintro e w1 ⟨rfl, hb1⟩)
   | (go_at_call 44; refine (hR.out _ hb1).mono ?_; rintro e w2 ⟨lv2, rfl, q1, q2, q3, q4⟩))
  go_ret
  exact SEnd.behind hb1 ⟨lv2, rfl, q1, q2, q3, q4⟩
end Go.Proofs.YthggagophcnkfaaGreatDoor.px
