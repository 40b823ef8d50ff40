/- The walks of wal.Sectors, place, Free and write. -/
import Derived.Test.YtlhnhhjpjkgogaaWLog
import Derived.Test.YtlhnhhjpjkgogaaWFrames
import Derived.Test.YtlhnhhjpjkgogaaDWrite
import Derived.Deep.RegionHeld3
namespace Go.Proofs.Ytlhnhhjpjkgogaa.wl
open Go.RowKit Go.Proofs.Ytlhnhhjpjkgogaa.agg Go.Proofs.Ytlhnhhjpjkgogaa.dk
set_option linter.unusedSimpArgs false
set_option linter.unusedVariables false

set_option maxHeartbeats 400000 in
theorem nsec_any (w : World) (r : ByteArray) (hr : r.size ≤ 65536) :
    Calls Try.prog 19 #[.string r] w fun e w' => e = .returned (.int .i64 (nfr r)) ∧ Below w.heap.size w w' := by
  go_enter Try.func19, Try.ntmps19
  go_wp2_with (go_at_call 50; refine (frames_walk _ r 1 0 hr (by omega)).mono ?_; rintro e w' ⟨g, cap, rfl, hown, hb⟩)
  go_ret
  exact ⟨rfl, hb⟩
/-- The sector of a position of an area. -/
def placeOf (st : St) (area p : Int) : Int := 2 + area * sizeOf' st + p
theorem size_rng {w : World} {D g : Nat} {pv : Value} {st : St} (h : DiskIn w D g pv st) : -1 ≤ sizeOf' st ∧ sizeOf' st ≤ 1023 := by
  have := h.few
  unfold sizeOf'
  rcases Nat.lt_or_ge st.dur.length 2 with h2 | h2
  · have h3 : st.dur.length = 0 ∨ st.dur.length = 1 := by omega
    rcases h3 with h3 | h3 <;> rw [h3] <;> decide
  · rw [Int.tdiv_eq_ediv_of_nonneg (by omega)]
    omega
set_option maxHeartbeats 400000 in
theorem place_any {w : World} {L D g : Nat} {pv : Value} {st : St} {l : Lg} (h : LogIn w L D g pv st l) (area p : Int) (ha : area = 0 ∨ area = 1) (hp : 0 ≤ p ∧ p ≤ 1000000) :
    Calls Try.prog 45 #[.pointer (some ⟨L, 0, none⟩), .int .i64 area, .int .i64 p] w fun e w' => e = .returned (.int .i64 (placeOf st area p)) ∧ w = w' := by
  obtain ⟨s1, s2⟩ := size_rng h.disk
  unfold placeOf
  generalize hz : sizeOf' st = z at *
  have hz' := Lib.hid hz
  clear hz
  rcases ha with rfl | rfl
  · go_enter Try.func45, Try.ntmps45
    go_wp2_with (go_at_call 44; refine (size_any h).mono ?_; rintro e w' ⟨rfl, rfl⟩; rw [hz'.out])
    go_ret
    exact ⟨by simp, rfl⟩
  · go_enter Try.func45, Try.ntmps45
    go_wp2_with (go_at_call 44; refine (size_any h).mono ?_; rintro e w' ⟨rfl, rfl⟩; rw [hz'.out])
    go_ret
    exact ⟨by simp, rfl⟩
set_option maxHeartbeats 400000 in
theorem free_any {w : World} {L D g : Nat} {pv : Value} {st : St} {l : Lg} (h : LogIn w L D g pv st l) (hf : 0 ≤ l.fin ∧ l.fin ≤ 1000000) :
    Calls Try.prog 28 #[.pointer (some ⟨L, 0, none⟩)] w fun e w' => e = .returned (.int .i64 (sizeOf' st - l.fin)) ∧ Below w.heap.size w w' := by
  obtain ⟨s1, s2⟩ := size_rng h.disk
  obtain ⟨c0, c1, c2, c3, c4, c5⟩ := h.cell
  have hh := Lib.hid h
  obtain ⟨epoch, block, area, fin, failed⟩ := l
  simp only at hf c4 ⊢
  generalize hz : sizeOf' st = z at *
  have hz' := Lib.hid hz
  clear hz h c0 c1 c2 c3 c5
  go_enter Try.func28, Try.ntmps28
  go_wp2_with fail
  have hn : ∀ n, Calls Try.prog 44 #[.pointer (some ⟨L, 0, none⟩)] (w.drewN n) fun e w' => e = .returned (.int .i64 z) ∧ w.drewN n = w' := fun n => by
    rw [← hz'.out]
    exact size_any (hh.out.below (below_drewN (Below.refl _ _) n))
  have hn' := Lib.hid hn
  clear hn
  go_quiet ((go_at_call 44; exact (hn'.out _).mono (fun _ _ h => ⟨h.1, _, h.2.symm⟩)))
  go_wp2_with fail
  go_ret
  exact ⟨rfl, below_drewN (Below.refl _ _) _⟩

/-- Writes, up to the first one that fails. -/
def writes (st : St) : List (Int × List Int) → St × Int
  | [] => (st, 0)
  | x :: l => if (st.write x.1 x.2).2 = 0 then writes (st.write x.1 x.2).1 l else st.write x.1 x.2
theorem writes_ok {st : St} {y : Int × List Int} {l : List (Int × List Int)} (h : (st.write y.1 y.2).2 = 0) : writes st (y :: l) = writes (st.write y.1 y.2).1 l := by rw [writes, if_pos h]
theorem writes_no {st : St} {y : Int × List Int} {l : List (Int × List Int)} (h : (st.write y.1 y.2).2 ≠ 0) : writes st (y :: l) = st.write y.1 y.2 := by rw [writes, if_neg h]
theorem writes_snoc (l : List (Int × List Int)) (x : Int × List Int) : ∀ st : St, writes st (l ++ [x]) = if (writes st l).2 = 0 then ((writes st l).1.write x.1 x.2) else writes st l := by
  induction l with
  | nil =>
    intro st
    simp only [List.nil_append, writes, if_true]
    split
    · rename_i h
      rw [← h]
    · rfl
  | cons y l ih =>
    intro st
    rw [List.cons_append]
    by_cases h : (st.write y.1 y.2).2 = 0
    · rw [writes_ok h, writes_ok h, ih]
    · rw [writes_no h, writes_no h, if_neg h]
/-- Behind a write that fails nothing is written. -/
theorem writes_front (a b : List (Int × List Int)) (st : St) (h : (writes st a).2 ≠ 0) : writes st (a ++ b) = writes st a := by
  induction a generalizing st with
  | nil => exact absurd rfl h
  | cons y a ih =>
    simp only [List.cons_append, writes] at h ⊢
    by_cases hy : (st.write y.1 y.2).2 = 0
    · rw [if_pos hy] at h ⊢
      rw [if_pos hy]
      exact ih _ h
    · rw [if_neg hy, if_neg hy]
theorem write_dur (st : St) (n : Int) (d : List Int) : (st.write n d).1.dur = st.dur := by
  unfold St.write
  split
  · rfl
  · split
    · exact St.call_dur st
    · exact St.call_dur st
theorem write_pend (st : St) (n : Int) (d : List Int) : (st.write n d).1.pend.length ≤ st.pend.length + 1 := by
  unfold St.write
  split
  · simp
  · split
    · rw [St.call_pend]; omega
    · simp
theorem writes_dur (l : List (Int × List Int)) : ∀ st : St, (writes st l).1.dur = st.dur := by
  induction l with
  | nil => intro st; rfl
  | cons y l ih =>
    intro st
    simp only [writes]
    split
    · rw [ih, write_dur]
    · exact write_dur _ _ _
theorem writes_pend (l : List (Int × List Int)) : ∀ st : St, (writes st l).1.pend.length ≤ st.pend.length + l.length := by
  induction l with
  | nil => intro st; simp [writes]
  | cons y l ih =>
    intro st
    simp only [writes]
    have h1 := write_pend st y.1 y.2
    split
    · have := ih (st.write y.1 y.2).1
      simp only [List.length_cons]
      omega
    · simp only [List.length_cons]
      omega
/-- The writes of the frames of a record. -/
def placed (st : St) (area : Int) (l : List Fr) : List (Int × List Int) := l.map fun f => (placeOf st area f.pos, f.sec)
theorem sizeOf_dur {st st' : St} (h : st'.dur = st.dur) : sizeOf' st' = sizeOf' st := by unfold sizeOf'; rw [h]
theorem placeOf_dur {st st' : St} (h : st'.dur = st.dur) (a p : Int) : placeOf st' a p = placeOf st a p := by unfold placeOf; rw [sizeOf_dur h]

/-- How write ends. -/
def WriteEnd (w : World) (L D g : Nat) (pv : Value) (l : Lg) (p : Int) (n : Nat) (z : St × Int) (e : Ending) (w' : World) : Prop :=
  ∃ pv', e = .returned (.tuple #[.int .i64 (if z.2 = 0 then p + n else p), .int .i64 z.2]) ∧ LogIn w' L D g pv' z.1 l ∧ Kept (lfoot L D g pv) w w' ∧ Fresh w pv pv'
/-- What the walk's loop knows behind k frames. -/
structure WrAt (w : World) (L D g : Nat) (pv : Value) (st : St) (l : Lg) (area : Int) (fs : List Fr) (q : Nat) (k : Nat) (wr : World) : Prop where
  ok : (writes st (placed st area (fs.take k))).2 = 0
  log : ∃ pv', LogIn wr L D g pv' (writes st (placed st area (fs.take k))).1 l ∧ Fresh w pv pv' ∧ pv'.ownBlock ≠ some q
  kept : Kept (lfoot L D g pv) w wr
  row : ∃ cur, wr.heap[q]? = some (.cells cur 87 (0, 0)) ∧ cur.toList.take (fs.length * 4) = flatF fs
theorem flatF_get (fs : List Fr) (k : Nat) (hk : k < fs.length) : ∀ j v, (fs[k]).cells.toList[j]? = some v → (flatF fs)[k * 4 + j]? = some v := by
  induction fs generalizing k with
  | nil => simp at hk
  | cons f fs ih =>
    intro j v hv
    have hj : j < 4 := by
      have := (List.getElem?_eq_some_iff.1 hv).1
      simpa [Fr.cells] using this
    have e : flatF (f :: fs) = f.cells.toList ++ flatF fs := by simp [flatF]
    have hl : f.cells.toList.length = 4 := rfl
    rw [e]
    cases k with
    | zero =>
      rw [List.getElem?_append_left (by omega)]
      simpa using hv
    | succ k =>
      rw [List.getElem?_append_right (by omega), hl]
      have := ih k (by simpa using hk) j v (by simpa using hv)
      rw [← this]
      congr 1
      omega

theorem WrAt.cells {w : World} {L D g : Nat} {pv : Value} {st : St} {l : Lg} {area : Int} {fs : List Fr} {q k : Nat} {wr : World} (h : WrAt w L D g pv st l area fs q k wr) (hk : k < fs.length) :
    ∀ j u, (fs[k]).cells.toList[j]? = some u → wr.cell? ⟨q, k * 4 + j, none⟩ = some u := by
  intro j u hu
  obtain ⟨cur, hc, ht⟩ := h.row
  have h1 := flatF_get fs k hk j u hu
  rw [← ht] at h1
  have h2 : k * 4 + j < fs.length * 4 := by
    have := (List.getElem?_eq_some_iff.1 h1).1
    simp at this
    omega
  rw [List.getElem?_take_of_lt h2] at h1
  rw [cell_of_row _ _ _ _ _ _ hc]
  simpa using h1

attribute [local go_sem ↓] load_fr store_fr
attribute [local go_sem] size_fr one_fr
set_option maxRecDepth 100000 in
set_option maxHeartbeats 2000000 in
theorem write_walk {w : World} {L D g : Nat} {pv : Value} {st : St} {l : Lg} (h : LogIn w L D g pv st l) (area p : Int) (ha : area = 0 ∨ area = 1) (hp : 0 ≤ p ∧ p ≤ 900000) (r : ByteArray) (hr : r.size ≤ 65536) (hpl : st.pend.length < 900000) :
    Calls Try.prog 47 #[.pointer (some ⟨L, 0, none⟩), .int .i64 area, .int .i64 p, .string r] w (WriteEnd w L D g pv l p (nfr r) (writes st (placed st area (framesOf r l.epoch p)))) := by
  obtain ⟨c0, c1, c2, c3, c4, c5⟩ := h.cell
  have hh := Lib.hid h
  have hn4 : nfr r ≤ 1311 := by unfold nfr; omega
  clear c0 c2 c3 c4 c5
  go_enter Try.func47, Try.ntmps47
  go_wp2_with (go_at_call 50; refine (frames_walk _ r l.epoch p hr (by omega)).mono ?_; rintro e w1 ⟨q, cap, rfl, hown, hb⟩)
  obtain ⟨fs, hfs⟩ : ∃ fs, fs = framesOf r l.epoch p := ⟨_, rfl⟩
  have hlen : fs.length = nfr r := by rw [hfs, length_framesOf]
  have hw0 : WrAt w L D g pv st l area fs q 0 w1 := by
    have hq := hown.lt q rfl
    refine ⟨rfl, ⟨pv, hh.out.below hb, fresh_same _ _, fun e => by have := hh.out.lt q (.inr (.inr (.inr e))); omega⟩, Kept.of_below hb, ?_⟩
    rcases hown.2 with ⟨e, _⟩ | ⟨g1, cap1, cur, e, _, hc, _, _, _, ht⟩
    · cases e
    · cases e
      exact ⟨cur, hc, by rw [hfs, ← ht, length_framesOf]⟩
  have hrng : ∀ k, (hk : k < fs.length) → 0 ≤ (fs[k]).pos ∧ (fs[k]).pos ≤ 1000000 ∧ (fs[k]).data.size ≤ 50 := by
    intro k hk
    have e : fs[k] = frameAt r l.epoch p k := by
      subst hfs
      simp [framesOf]
    rw [e]
    have hc := size_chunk r k
    simp only [frameAt]
    omega
  have hfs' := Lib.hid hfs
  have hq0 : w.heap.size ≤ q := (hown.lt q rfl).1
  clear hfs hown hb
  go_loopw [21] (fun i wr => ∃ k : Nat, k ≤ nfr r ∧ i = .int .i64 k ∧ WrAt w L D g pv st l area fs q k wr) (fun i _ => nfr r - (intOf i).toNat)
  case atStart => exact ⟨0, Nat.zero_le _, rfl, hw0⟩
  case round =>
    obtain ⟨k, hk, rfl, hW⟩ := hrel
    by_cases hlt : k < nfr r
    · have hkf : k < fs.length := by omega
      have hcl := hW.cells hkf
      obtain ⟨f1, f2, f3⟩ := hrng k hkf
      obtain ⟨pv1, hl1, hfr1, hq1⟩ := hW.log
      have hWr := Lib.hid hW
      have hrng' := Lib.hid hrng
      have hlen' := Lib.hid hlen
      have hsz : wr.heap.size ≥ w.heap.size := hW.kept.size
      have htk : Hid (fs.take (k + 1) = fs.take k ++ [fs[k]]) := List.take_succ_eq_append_getElem hkf
      generalize hf : fs[k] = f at hcl f1 f2 f3 htk
      have hf' := Lib.hid hf
      clear hf hW hrng hlen hw0
      go_wp2_with (with_reducible refine wpList_load_cells ag_fr rfl (.tmp 23) rfl q (k * 4) rfl f.cells (size_fr f) hcl ?_)
      rw [show overrow #[Value.int .i64 0, .int .i64 0, .int .i64 0, .string ⟨#[]⟩] 0 f.cells = f.cells from overrow_whole rfl]
      have hWb : Below wr.heap.size wr (wr.alloc (.cells f.cells 87)) := (Below.refl _ _).alloc (Nat.le_refl _) _
      have hbx : (wr.alloc (.cells f.cells 87)).heap[wr.heap.size]? = some (.cells f.cells 87 (0, 0)) := heap_alloc_new wr _
      have hl2 := hl1.below hWb
      have hB : ¬ lfoot L D g pv1 wr.heap.size := fun e => by have := hl1.lt _ e; omega
      generalize wr.alloc _ = W at *
      generalize hBd : wr.heap.size = B at *
      have hBe := Lib.hid hBd
      clear hBd
      have hl3 := Lib.hid hl2
      have hbx' := Lib.hid hbx
      have huf := Try.underlying87
      have ha' := ha
      clear hl2 hbx hl1 hcl
      refine wp_region_held_drew (S := fun u => u.heap[B]? = some (.cells f.cells 87 (0, 0)) ∧ u.cell? ⟨L, 0, none⟩ = some (.pointer (some ⟨D, 0, none⟩)) ∧ u.cell? ⟨B, 1, none⟩ = some (.int .i64 f.pos)) (by kernel_rfl) ?hS (fun hHeld => ?_)
      case hS => exact ⟨hbx'.out, hl3.out.drew.cell.1, (cell_of_row W B 1 _ _ _ hbx'.out).trans rfl⟩
      refine wpAnyH_take (i := 0) (v := .pointer (some ⟨L, 0, none⟩)) rfl (by kernel_rfl) (by kernel_rfl) (by kernel_rfl) (fun _ _ _ h => h) (Or.inl ⟨by rfl, by intro u hu; (try dsimp only at hu); go_simp⟩) hHeld ?_
      try simp only [Act.put, List.getElem_toArray, List.getElem_cons_zero, List.getElem_cons_succ, List.setIfInBounds_toArray, List.set_cons_zero, List.set_cons_succ]
      refine wpAnyH_take (i := 1) (v := .pointer (some ⟨L, 0, none⟩)) rfl (by kernel_rfl) (by kernel_rfl) (by kernel_rfl) (fun _ _ _ h => h) (Or.inl ⟨by rfl, by intro u hu; (try dsimp only at hu); go_simp⟩) hHeld ?_
      try simp only [Act.put, List.getElem_toArray, List.getElem_cons_zero, List.getElem_cons_succ, List.setIfInBounds_toArray, List.set_cons_zero, List.set_cons_succ]
      refine wpAnyH_take (i := 2) (v := .pointer (some ⟨L, 0, none⟩)) rfl (by kernel_rfl) (by kernel_rfl) (by kernel_rfl) (fun _ _ _ h => h) (Or.inl ⟨by rfl, by intro u hu; (try dsimp only at hu); go_simp⟩) hHeld ?_
      try simp only [Act.put, List.getElem_toArray, List.getElem_cons_zero, List.getElem_cons_succ, List.setIfInBounds_toArray, List.set_cons_zero, List.set_cons_succ]
      refine wpAnyH_take (i := 3) (v := .pointer (some ⟨D, 0, none⟩)) rfl (by kernel_rfl) (by kernel_rfl) (by kernel_rfl) (fun _ _ _ h => h) (Or.inl ⟨by rfl, by intro u hu; (try dsimp only at hu); go_simp⟩) hHeld ?_
      try simp only [Act.put, List.getElem_toArray, List.getElem_cons_zero, List.getElem_cons_succ, List.setIfInBounds_toArray, List.set_cons_zero, List.set_cons_succ]
      refine wpAnyH_take (i := 4) (v := .pointer (some ⟨L, 0, none⟩)) rfl (by kernel_rfl) (by kernel_rfl) (by kernel_rfl) (fun _ _ _ h => h) (Or.inl ⟨by rfl, by intro u hu; (try dsimp only at hu); go_simp⟩) hHeld ?_
      try simp only [Act.put, List.getElem_toArray, List.getElem_cons_zero, List.getElem_cons_succ, List.setIfInBounds_toArray, List.set_cons_zero, List.set_cons_succ]
      refine wpAnyH_take (i := 5) (v := .int .i64 area) rfl (by kernel_rfl) (by kernel_rfl) (by kernel_rfl) (fun _ _ _ h => h) (Or.inl ⟨by rfl, by intro u hu; (try dsimp only at hu); go_simp⟩) hHeld ?_
      try simp only [Act.put, List.getElem_toArray, List.getElem_cons_zero, List.getElem_cons_succ, List.setIfInBounds_toArray, List.set_cons_zero, List.set_cons_succ]
      refine wpAnyH_take (i := 6) (v := .pointer (some ⟨B, 1, none⟩)) rfl (by kernel_rfl) (by kernel_rfl) (by kernel_rfl) (fun _ _ _ h => h) (Or.inl ⟨by rfl, by intro u hu; (try dsimp only at hu); go_simp⟩) hHeld ?_
      try simp only [Act.put, List.getElem_toArray, List.getElem_cons_zero, List.getElem_cons_succ, List.setIfInBounds_toArray, List.set_cons_zero, List.set_cons_succ]
      refine wpAnyH_take (i := 7) (v := .int .i64 f.pos) rfl (by kernel_rfl) (by kernel_rfl) (by kernel_rfl) (fun _ _ _ h => h) (Or.inl ⟨by rfl, by intro u hu; (try dsimp only at hu); go_simp⟩) hHeld ?_
      try simp only [Act.put, List.getElem_toArray, List.getElem_cons_zero, List.getElem_cons_succ, List.setIfInBounds_toArray, List.set_cons_zero, List.set_cons_succ]
      refine wpAnyH_take (i := 9) (v := .agg f.cells.toList.toArray) rfl (by kernel_rfl) (by kernel_rfl) (by kernel_rfl) (fun _ _ _ h => h) (yieldsIf_load_mid (by rfl) _ _ rfl _ _ rfl f.cells.toList _ (fun _ h => rangeAt_whole h.1) huf rfl (info_fr f)) hHeld ?_
      try simp only [Act.put, List.getElem_toArray, List.getElem_cons_zero, List.getElem_cons_succ, List.setIfInBounds_toArray, List.set_cons_zero, List.set_cons_succ]
      refine wpAnyH_ready (rs := [8]) (by kernel_rfl) (by simp) ?_
      refine AllReadyH.cons rfl (fun K hK => ?_) AllReadyH.nil
      rw [if_pos (by rfl)]
      go_simp
      go_at_call 45
      refine (place_any (hl3.out.drew) area f.pos ha' ⟨f1, f2⟩).mono ?_
      rintro e2 _ ⟨rfl, rfl⟩
      refine hK.out _ _ hHeld (fun hHeld => ?_)
      clear hK K
      try simp only [Act.put, List.getElem_toArray, List.getElem_cons_zero, List.getElem_cons_succ, List.setIfInBounds_toArray, List.set_cons_zero, List.set_cons_succ]
      refine wpAnyH_ready (rs := [10]) (by kernel_rfl) (by simp) ?_
      refine AllReadyH.cons rfl (fun K hK => ?_) AllReadyH.nil
      rw [if_pos (by rfl)]
      go_simp
      go_at_call 65
      refine (sector_walk _ f f3).mono ?_
      rintro e2 u2 ⟨rfl, hb2⟩
      have hl4 := hl3.out.drew.below hb2
      have hx4 : u2.heap[B]? = some (.cells f.cells 87 (0, 0)) := (hb2.block _ (lt_of_block hbx'.out)).trans hbx'.out
      refine hK.out _ _ ⟨hx4, hl4.cell.1, (cell_of_row u2 B 1 _ _ _ hx4).trans rfl⟩ (fun hHeld => ?_)
      clear hK K
      try simp only [Act.put, List.getElem_toArray, List.getElem_cons_zero, List.getElem_cons_succ, List.setIfInBounds_toArray, List.set_cons_zero, List.set_cons_succ]
      have hplk : (writes st (placed st area (fs.take k))).1.pend.length < 1000000 := by
        have := writes_pend (placed st area (fs.take k)) st
        have h2 : (placed st area (fs.take k)).length ≤ nfr r := by simp [placed]; omega
        omega
      refine wpAnyH_ready (rs := [11]) (by kernel_rfl) (by simp) ?_
      refine AllReadyH.cons rfl (fun K hK => ?_) AllReadyH.nil
      rw [if_pos (by rfl)]
      go_simp
      go_at_call 41
      refine (write_any _ hl4.disk _ f.sec (f.length_sec f3) hplk).mono ?_
      rintro e3 u3 ⟨rfl, pv3, hd3, hk3, hf3⟩
      have hl5 := hl4.turn hd3 hk3 hf3
      have hx5 : u3.heap[B]? = some (.cells f.cells 87 (0, 0)) := (hk3.block _ (lt_of_block hx4) (fun e => hB (.inr e))).trans hx4
      refine hK.out _ _ ⟨hx5, hl5.cell.1, (cell_of_row u3 B 1 _ _ _ hx5).trans rfl⟩ (fun hHeld => ?_)
      clear hK K
      try simp only [Act.put, List.getElem_toArray, List.getElem_cons_zero, List.getElem_cons_succ, List.setIfInBounds_toArray, List.set_cons_zero, List.set_cons_succ]
      refine wpAnyH_take (i := 12) (v := .int .i64 ((writes st (placed st area (fs.take k))).1.write (placeOf (writes st (placed st area (fs.take k))).1 area f.pos) f.sec).2) rfl (by kernel_rfl) (by kernel_rfl) (by kernel_rfl) (fun _ _ _ h => h) (Or.inl ⟨by rfl, by intro u hu; (try dsimp only at hu); go_simp⟩) hHeld ?_
      try simp only [Act.put, List.getElem_toArray, List.getElem_cons_zero, List.getElem_cons_succ, List.setIfInBounds_toArray, List.set_cons_zero, List.set_cons_succ]
      refine wpAnyH_done (by kernel_rfl) ?_ _
      have hpe : placeOf (writes st (placed st area (fs.take k))).1 area f.pos = placeOf st area f.pos := placeOf_dur (writes_dur _ _) _ _
      rw [hpe] at hl5 ⊢
      have hstep : writes st (placed st area (fs.take (k + 1))) = (writes st (placed st area (fs.take k))).1.write (placeOf st area f.pos) f.sec := by
        rw [htk.out, placed, List.map_append, ← placed, List.map_singleton, writes_snoc, if_pos hWr.out.ok]
      rw [← hstep] at hl5 ⊢
      have hkk : Kept (lfoot L D g pv1) wr u3 := (Kept.of_below ((hBe.out ▸ hWb : Below wr.heap.size wr W).trans (((Below.refl _ W).drew.trans hb2).mono (hBe.out ▸ hWb : Below wr.heap.size wr W).size))).trans (lkept (hk3.mono (fun _ _ h => h)))
      have hkw : Kept (lfoot L D g pv) w u3 := lkept_trans hWr.out.kept hfr1 hkk
      have hfw : Fresh w pv pv3 := fresh_trans hfr1 (Nat.le_trans hWr.out.kept.size (Nat.le_trans hWb.size hb2.size)) hf3
      by_cases he : (writes st (placed st area (fs.take (k + 1)))).2 = 0
      · have hnext : WrAt w L D g pv st l area fs q (k + 1) u3 := by
          obtain ⟨cur, hc, ht⟩ := hWr.out.row
          have hqL : ¬ lfoot L D g pv1 q := by
            rintro (e | e | e | e)
            · have := hh.out.lt L (.inl rfl); omega
            · have := hh.out.lt D (.inr (.inl rfl)); omega
            · have := hh.out.lt g (.inr (.inr (.inl rfl))); omega
            · exact hq1 e
          refine ⟨he, ⟨pv3, hl5, hfw, fun e => ?_⟩, hkw, cur, (hkk.block q (lt_of_block hc) hqL).trans hc, ht⟩
          rcases hf3 q e with e' | e'
          · exact hq1 e'
          · have h1 := lt_of_block hc
            have h2 := hWb.size
            have h3 := hb2.size
            simp at h3
            omega
        have hn' := Lib.hid hnext
        rw [he]
        clear hnext hHeld hstep hpe hplk hx5 hx4 he
        go_wp2_with fail
        go_roundw
        case rel => exact ⟨k + 1, by omega, by go_num, hn'.out⟩
        case measure => simp [intOf]; omega
      · have hall : writes st (placed st area (framesOf r l.epoch p)) = writes st (placed st area (fs.take (k + 1))) := by
          rw [← hfs'.out]
          conv => lhs; rw [← List.take_append_drop (k + 1) fs, placed, List.map_append]
          exact writes_front _ _ _ he
        have hall' := Lib.hid hall
        have hne : ((writes st (placed st area (fs.take (k + 1)))).2 == 0) = false := by simpa using he
        have he' := Lib.hid he
        clear hall hHeld hstep hpe hplk hx5 hx4
        generalize hz : writes st (placed st area (fs.take (k + 1))) = z at *
        go_wp2_with fail
        go_ret2
        exact ⟨pv3, by rw [hall'.out, if_neg he'.out]; rfl, by rw [hall'.out]; exact hl5, hkw, hfw⟩
    · obtain rfl : k = nfr r := by omega
      obtain ⟨pv1, hl1, hfr1, hq1⟩ := hW.log
      have hall : writes st (placed st area (framesOf r l.epoch p)) = writes st (placed st area (fs.take (nfr r))) := by
        rw [← hfs'.out, ← hlen, List.take_of_length_le (Nat.le_refl _)]
      have hok := hW.ok
      have hkp := hW.kept
      have hall' := Lib.hid hall
      have hok' := Lib.hid hok
      clear hall hok hW hlen hrng hw0
      go_wp2_with (go_at_call 19; refine (nsec_any _ r hr).mono ?_; rintro e2 u2 ⟨rfl, hb2⟩)
      go_ret2
      refine ⟨pv1, by rw [hall'.out, if_pos hok'.out, hok'.out]; rfl, by rw [hall'.out]; exact hl1.below hb2, hkp.trans (Kept.of_below hb2), hfr1⟩
end Go.Proofs.Ytlhnhhjpjkgogaa.wl
