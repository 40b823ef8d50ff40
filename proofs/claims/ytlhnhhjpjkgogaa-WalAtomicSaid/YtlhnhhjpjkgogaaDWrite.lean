/- The walk of (*disk.Disk).Write. -/
import Derived.Test.YtlhnhhjpjkgogaaDCall
import Derived.Deep.RegionLaw
namespace Go.Proofs.Ytlhnhhjpjkgogaa.dk
open Go.RowKit Go.Proofs.Ytlhnhhjpjkgogaa.agg

/-- Write, as a value: the new disk, the error. -/
def St.write (st : St) (n : Int) (data : List Int) : St × Int :=
  if n < 0 ∨ st.dur.length ≤ n then (st, 2)
  else if st.call.failed then (st.call, 12)
  else ({ st.call with pend := st.pend ++ [(n, data)], wr := wrap64 (st.wr + 1) }, 0)

theorem info_dw : (Try.prog.info? 104).map (fun i => (i.zero, i.size, i.bytes)) = some (some (.agg (wrow 0 zeros)), 65, 72) := by kernel_rfl

set_option maxHeartbeats 400000 in
theorem write_range {D g : Nat} {pv : Value} {st : St} (w : World) (h : DiskIn w D g pv st) (n : Int) (data : List Int) (hn : n < 0 ∨ st.dur.length ≤ n) :
    Calls Try.prog 41 #[.pointer (some ⟨D, 0, none⟩), .int .i64 n, .agg (sec data)] w fun e w' => e = .returned (.int .i64 2) ∧ w' = w.alloc (.cells (sec data) 26) := by
  have hD := lt_of_block h.blk
  obtain ⟨c0, c1, c2, c3, c4, c5, c6⟩ := h.cell
  clear c1 c2 c3 c4 c5 c6 h
  generalize st.dur.length = m at *
  rcases hn with hn | hn
  · go_enter Try.func41, Try.ntmps41
    go_wp2
    go_ret
    exact ⟨rfl, rfl⟩
  · by_cases h0 : n < 0
    · go_enter Try.func41, Try.ntmps41
      go_wp2
      go_ret
      exact ⟨rfl, rfl⟩
    · have hge : decide ((m : Int) ≤ n) = true := by simpa using hn
      go_enter Try.func41, Try.ntmps41
      go_wp2
      go_ret
      exact ⟨rfl, rfl⟩

/-- What the walk needs of a disk in a world that a call has left. -/
theorem after {D g : Nat} {pv : Value} {st : St} {w w1 : World} {o : Obj} (h : DiskIn w D g pv st) (hk : Kept (foot D g pv) (w.alloc o) w1) :
    w1.heap[w.heap.size]? = some o ∧ w.heap.size < w1.heap.size := by
  refine ⟨?_, ?_⟩
  · rw [hk.block w.heap.size (by simp) (fun hf => by have := h.lt _ hf; omega)]
    exact heap_alloc_new w o
  · have := hk.size
    simp at this
    omega

set_option maxHeartbeats 400000 in
theorem write_failed {D g : Nat} {pv : Value} {st : St} (w : World) (h : DiskIn w D g pv st) (n : Int) (data : List Int) (h0 : 0 ≤ n) (hn : n < st.dur.length) (hf : st.call.failed = true) :
    Calls Try.prog 41 #[.pointer (some ⟨D, 0, none⟩), .int .i64 n, .agg (sec data)] w fun e w' => e = .returned (.int .i64 12) ∧ DiskIn w' D g pv st.call ∧ Kept (foot D g pv) w w' := by
  have hD := lt_of_block h.blk
  have h1 := h.alloc (.cells (sec data) 26)
  obtain ⟨c0, c1, c2, c3, c4, c5, c6⟩ := h.cell
  clear c1 c2 c3 c4 c5 c6
  generalize hm : st.dur.length = m at *
  have hm' := Lib.hid hm
  clear hm
  go_enter Try.func41, Try.ntmps41
  go_wp2_with (go_at_call 62; refine (call_any _ h1).mono ?_; rintro e w1 ⟨rfl, hd1, hk1⟩)
  go_ret
  exact ⟨rfl, hd1, (Kept.alloc w _).trans hk1⟩

theorem flatP_snoc (l : List (Int × List Int)) (n : Int) (data : List Int) : flatP (l ++ [(n, data)]) = flatP l ++ (wrow n data).toList := by simp [flatP, wrow_toList]
/-- The disk behind the append and the store of the new slice. -/
theorem write_close {D g : Nat} {pv : Value} {W W0 w' : World} {st1 : St} {n : Int} {data : List Int} (hdl : data.length = 64) (h : DiskIn W D g pv st1) (hn : 0 ≤ n ∧ n < st1.dur.length)
    {g' cap' : Nat} (hgrow : W0.drew.grownBy w' pv.ownBlock) (hown : w'.ownsRow 0 104 65 (.slice (some ⟨g', 0, none⟩) (st1.pend.length + 1) cap') (st1.pend.length + 1) (flatP st1.pend ++ (wrow n data).toList))
    (hb : W0.heap[D]? = W.heap[D]?) (hb' : W0.heap[g]? = W.heap[g]?) :
    DiskIn (w'.setCell ⟨D, 1, none⟩ (.slice (some ⟨g', 0, none⟩) (st1.pend.length + 1) cap')) D g (.slice (some ⟨g', 0, none⟩) (st1.pend.length + 1) cap') { st1 with pend := st1.pend ++ [(n, data)] } := by
  have hDs : W0.heap[D]? = some (.cells (dcells g pv st1) 94 (0, 0)) := hb.trans h.blk
  have hgs := hb'.trans h.dur
  have hD : w'.heap[D]? = some (.cells (dcells g pv st1) 94 (0, 0)) := by
    rw [hgrow.block D (lt_of_block hDs) (fun e => h.ne2 e.symm)]; exact hDs
  have hg : w'.heap[g]? = some (.cells (rowD st1) 26 (0, 0)) := by
    rw [hgrow.block g (lt_of_block hgs) (fun e => h.ne3 e.symm)]; exact hgs
  obtain ⟨cur, hcur⟩ : ∃ cur, w'.heap[g']? = some (.cells cur 104 (0, 0)) := by
    rcases hown.2 with ⟨e, _⟩ | ⟨g1, cap1, cur, e, _, hh, _⟩
    · cases e
    · cases e; exact ⟨cur, hh⟩
  have n1 : g' ≠ D := by
    rintro rfl
    rw [hD] at hcur
    simp at hcur
  have n2 : g' ≠ g := by
    rintro rfl
    rw [hg] at hcur
    simp at hcur
  exact
    { blk := by rw [heap_setCell_same _ _ _ _ _ _ hD]; simp [dcells]
      dur := by rw [heap_setCell_other _ _ _ _ (fun e => h.ne1 e.symm)]; exact hg
      len := h.len
      plen := by
        intro x hx
        rcases List.mem_append.1 hx with hx | hx
        · exact h.plen x hx
        · simp at hx; subst hx; exact hdl
      pin := by
        intro x hx
        rcases List.mem_append.1 hx with hx | hx
        · exact h.pin x hx
        · simp at hx; subst hx; exact hn
      pend := by
        simp only [List.length_append, List.length_cons, List.length_nil, Nat.zero_add]
        rw [flatP_snoc]
        exact ownsRow_same hown (fun k hk => heap_setCell_other _ _ _ _ (fun e => by simp [Value.ownBlock] at hk; exact n1 (hk.trans e)))
      few := h.few
      cap := h.cap
      pne := by simp
      ne1 := h.ne1
      ne2 := by simpa [Value.ownBlock] using n1
      ne3 := by simpa [Value.ownBlock] using n2 }

theorem write_eq (st : St) (n : Int) (data : List Int) (hn : 0 ≤ n ∧ n < st.dur.length) (hf : st.call.failed = false) :
    (st.write n data).1 = { { st.call with wr := wrap64 (st.call.wr + 1) } with pend := st.call.pend ++ [(n, data)] } := by
  have hn' : ¬ (n < 0 ∨ st.dur.length ≤ n) := by omega
  simp only [St.write]
  rw [if_neg hn', if_neg (by simp [hf]), St.call_pend, St.call_wr]

set_option maxHeartbeats 400000 in
theorem write_ok {D g : Nat} {pv : Value} {st : St} (w : World) (h : DiskIn w D g pv st) (n : Int) (data : List Int) (hdl : data.length = 64) (h0 : 0 ≤ n) (hn : n < st.dur.length) (hf : st.call.failed = false) (hpl : st.pend.length < 1000000) :
    Calls Try.prog 41 #[.pointer (some ⟨D, 0, none⟩), .int .i64 n, .agg (sec data)] w fun e w' => e = .returned (.int .i64 0) ∧ ∃ pv', DiskIn w' D g pv' (st.write n data).1 ∧ Kept (foot D g pv) w w' ∧ Fresh w pv pv' := by
  have hD := lt_of_block h.blk
  have h1 := h.alloc (.cells (sec data) 26)
  obtain ⟨c0, c1, c2, c3, c4, c5, c6⟩ := h.cell
  clear c1 c2 c3 c4 c5 c6
  generalize hm : st.dur.length = m at *
  have hm' := Lib.hid hm
  clear hm
  go_enter Try.func41, Try.ntmps41
  go_wp2_with (go_at_call 62; refine (call_any _ h1).mono ?_; rintro e w1 ⟨rfl, hd1, hk1⟩; obtain ⟨d0, d1, d2, d3, d4, d5, d6⟩ := hd1.cell; have f1 := hd1.free 1; have f5 := hd1.free 5)
  obtain ⟨hb1, hs1⟩ := after h hk1
  have hW1 : DiskIn (w1.setCell ⟨D, 5, none⟩ (.int .i64 (wrap64 (st.call.wr + 1)))) D g pv { st.call with wr := wrap64 (st.call.wr + 1) } := by
    refine hd1.turn ?_ (fun k hk _ => heap_setCell_other w1 ⟨D, 5, none⟩ k _ hk) rfl rfl
    rw [heap_setCell_same _ _ _ _ _ _ hd1.blk]
    simp [dcells]
  have hW2 : (w1.setCell ⟨D, 5, none⟩ (.int .i64 (wrap64 (st.call.wr + 1)))).heap[w.heap.size]? = some (.cells (sec data) 26) := by
    rw [heap_setCell_other _ _ _ _ (by simp; omega)]
    exact hb1
  have hW3 : Kept (foot D g pv) w (w1.setCell ⟨D, 5, none⟩ (.int .i64 (wrap64 (st.call.wr + 1)))) := ((Kept.alloc w _).trans hk1).trans (Kept.setCell _ (.inl rfl) _)
  clear d0 d1 d2 d3 d4 d5 d6 f1 f5 hb1 hs1 hd1 hk1 h1 c0
  generalize w1.setCell ⟨D, 5, none⟩ (.int .i64 (wrap64 (st.call.wr + 1))) = W at *
  obtain ⟨d0, d1, d2, d3, d4, d5, d6⟩ := hW1.cell
  have f1 := hW1.free 1
  have r1 := rowOf_of hW2
  have hDW := lt_of_block hW1.blk
  have hsW := lt_of_block hW2
  have hown : W.ownsRow 0 104 65 pv st.call.pend.length (flatP st.call.pend) := hW1.pend
  clear d0 d2 d3 d4 d5 d6
  obtain ⟨i0, hi, hz0, hz1, hz2⟩ := info_parts info_dw
  have hpl1 : st.call.pend.length < 1000000 := by rw [St.call_pend]; exact hpl
  go_region_law (refine step_append_mine rfl (.tmp 34) (.tmp 38) 90 rfl 0 104 i0 _ 65 72 Try.underlying90 hi hz0 hz1 hz2 (by decide) pv _ _ rfl (hown.alloc _) ⟨W.heap.size, 0, none⟩ 1 1 (wrow n data).toList rfl (by rw [Array.length_toList, size_wrow, hdl]) (by omega) (cells_new W (wrow n data) _) (by have := one_wrow n data; simpa only [oneCells, List.all_eq_true] using this) (by unfold maxLen; omega) (by omega) (Nat.zero_le _) ?_; intro g' cap' w' hown' hgrow hnew; have hc' : w'.cell? ⟨D, 1, none⟩ = some pv := hgrow.cell (a := ⟨D, 1, none⟩) (w := (W.alloc _).drew) ((World.cell?_alloc_past _ D 1 hDW).trans d1) (fun e => hW1.ne2 e.symm); have hf' : w'.frozen? ⟨D, 1, none⟩ = false := grown_free (a := ⟨D, 1, none⟩) hgrow ((World.cell?_alloc_past _ D 1 hDW).trans d1) (fun e => hW1.ne2 e.symm) ((World.frozen?_alloc_past _ D 1 hDW).trans f1))
  all_goals go_wp2
  all_goals go_ret
  all_goals
    have hn1 : 0 ≤ n ∧ n < st.dur.length := ⟨h0, by rw [hm'.out]; exact hn⟩
    have hn2 : 0 ≤ n ∧ n < st.call.dur.length := by rw [St.call_dur]; exact hn1
    have hgW := lt_of_block hW1.dur
    refine ⟨rfl, .slice (some ⟨g', 0, none⟩) (st.call.pend.length + 1) cap', ?_, ?_, ?_⟩
    · rw [write_eq st n data hn1 hf]
      exact write_close hdl hW1 hn2 (W0 := W.alloc (.cells (wrow n data) 104)) hgrow hown' (Below.heap_alloc _ _ _ hDW) (Below.heap_alloc _ _ _ hgW)
    · exact ((hW3.trans (Kept.alloc W _)).trans ((Kept.drew _).trans (Kept.grown hgrow (fun k hk => .inr (.inr hk))))).trans (Kept.setCell _ (.inl rfl) _)
    · intro k hk
      rcases hnew with e | e
      · exact .inl (by simpa [Value.ownBlock] using e.trans hk)
      · refine .inr ?_
        simp [Value.ownBlock] at hk
        simp at e
        omega
/-- Write, of whatever disk and number. -/
theorem write_any {D g : Nat} {pv : Value} {st : St} (w : World) (h : DiskIn w D g pv st) (n : Int) (data : List Int) (hdl : data.length = 64) (hpl : st.pend.length < 1000000) :
    Calls Try.prog 41 #[.pointer (some ⟨D, 0, none⟩), .int .i64 n, .agg (sec data)] w fun e w' => e = .returned (.int .i64 (st.write n data).2) ∧ ∃ pv', DiskIn w' D g pv' (st.write n data).1 ∧ Kept (foot D g pv) w w' ∧ Fresh w pv pv' := by
  by_cases hn : n < 0 ∨ st.dur.length ≤ n
  · refine (write_range w h n data hn).mono ?_
    rintro e w' ⟨rfl, rfl⟩
    have e1 : st.write n data = (st, 2) := by simp only [St.write]; rw [if_pos hn]
    rw [e1]
    exact ⟨rfl, pv, h.alloc _, Kept.alloc w _, fun k hk => .inl hk⟩
  · have hn1 : 0 ≤ n ∧ n < st.dur.length := by omega
    by_cases hf : st.call.failed = true
    · refine (write_failed w h n data hn1.1 hn1.2 hf).mono ?_
      rintro e w' ⟨rfl, h1, h2⟩
      have e1 : st.write n data = (st.call, 12) := by simp only [St.write]; rw [if_neg hn, if_pos hf]
      rw [e1]
      exact ⟨rfl, pv, h1, h2, fun k hk => .inl hk⟩
    · refine (write_ok w h n data hdl hn1.1 hn1.2 (by simpa using hf) hpl).mono ?_
      rintro e w' ⟨rfl, h1⟩
      have e1 : (st.write n data).2 = 0 := by simp only [St.write]; rw [if_neg hn, if_neg hf]
      rw [e1]
      exact ⟨rfl, h1⟩
end Go.Proofs.Ytlhnhhjpjkgogaa.dk
