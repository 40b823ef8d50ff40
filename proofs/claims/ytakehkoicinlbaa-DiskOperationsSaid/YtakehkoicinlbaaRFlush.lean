/- The walks of confluentref47.Flush and Crash. -/
import Derived.Test.YtakehkoicinlbaaRApply
namespace Go.Proofs.Ytakehkoicinlbaa.dk
open Go.RowKit Go.Proofs.Ytakehkoicinlbaa.agg

theorem heap2 (w : World) (x y : Obj) : ((w.alloc x).alloc y).heap[w.heap.size]? = some x ∧ ((w.alloc x).alloc y).heap[w.heap.size + 1]? = some y ∧ Below w.heap.size w ((w.alloc x).alloc y) :=
  ⟨by rw [Below.heap_alloc _ _ _ (by simp), heap_alloc_new], heap_alloc2_new w _ _, ((Below.refl _ w).alloc (Nat.le_refl _) _).alloc (by simp) _⟩
theorem ints_more {B C : Nat} {w : World} {v : Value} {sv : List Int} (h : IntsIn B w v sv) (hBC : B ≤ C) : IntsIn C w v sv := by
  obtain ⟨ao, cap, rfl, h⟩ := h
  refine ⟨ao, cap, rfl, fun h0 => ?_⟩
  obtain ⟨b, o, rfl, hB, hc⟩ := h h0
  exact ⟨b, o, rfl, by omega, hc⟩
def St.flushed (st : St) : St := (st.rapply [] 64).withFl (wrap64 (st.fl + 1))
def St.rcrash (st : St) (sv : List Int) : St := ((st.rapply sv 0).withFailed false).withLeft (-1)

attribute [local go_sem ↓] alloc_state load_state store_state
attribute [local go_sem] cut_row over_row' over_zrow one_row size_row size_zrow row_0 row_1 row_2 row_3 row_4 row_5 row_6 row_0' row_1' row_2' row_3' row_4' row_5' row_6' set_row2 set_row3 set_row4 set_row5 set_row6

set_option maxHeartbeats 1000000 in
theorem rflush_fail (w : World) (r : Ref) (st : St) (hfl : st.rcall.failed = true) :
    Calls Try.prog 34 #[r.val st] w fun e w' => e = .returned (.tuple #[r.val st.rcall, .int .i64 12]) ∧ Below w.heap.size w w' := by
  unfold Ref.val
  obtain ⟨b1, b2, hB⟩ := heap2 w (.cells (r.row st) 55) (.cells zrow 55)
  go_enter Try.func34, Try.ntmps34
  go_wp2_with fail
  generalize (w.alloc (.cells (r.row st) 55)).alloc (.cells zrow 55) = W at *
  refine (rcall_any _ r st).mono ?_
  rintro e w1 ⟨rfl, hb1⟩
  have d1 := (hb1.block _ (lt_of_block b1)).trans b1
  have d2 := (hb1.block _ (lt_of_block b2)).trans b2
  have hB1 := hB.trans (hb1.mono hB.size)
  clear b1 b2 hb1 hB
  unfold Ref.val
  generalize hsr : st.rcall = sr at *
  have hsr' := Lib.hid hsr
  clear hsr
  have r1 := rowOf_of d1
  have hset := setRow_heap w1 w.heap.size (r.row st) (r.row sr) _ _ d1
  obtain ⟨c0, c1, c2, c3, c4, c5, c6, cf⟩ := row_cells hset
  have r3 : rowOf (w1.setRow w.heap.size (r.row sr)) (w.heap.size + 1) = zrow := (rowOf_setRow_other _ (by omega)).trans (rowOf_of d2)
  have r0 := rowOf_of hset
  rw [hfl] at c3
  go_wp2_with fail
  obtain ⟨y1, y2⟩ := rowOf_two (w := w1) (b := w.heap.size) (c := w.heap.size + 1) (r.row sr) (r.row sr) (by omega) (by rw [r1, size_row]; omega) (by rw [rowOf_of d2, size_zrow]; omega)
  exact bodyPost_ret (results_cell_tmp' rfl ag_state _ rfl y2 (size_row _ _) (by omega)) rfl ⟨by rw [hsr'.out]; rfl, below_setRow (below_setRow hB1 (by omega) _) (by omega) _⟩

set_option maxHeartbeats 2000000 in
theorem rflush_ok (w : World) (r : Ref) (st : St) (h : RefIn w r st) (hm : 1 ≤ st.dur.length) (hpl : st.pend.length < 1000000) (hfl : st.rcall.failed = false) :
    Calls Try.prog 34 #[r.val st] w fun e w' => ∃ r', e = .returned (.tuple #[r'.val st.rcall.flushed, .int .i64 0]) ∧ RefIn w' r' st.rcall.flushed ∧ Below w.heap.size w w' ∧ Newer w r r' := by
  unfold Ref.val
  obtain ⟨b1, b2, hB⟩ := heap2 w (.cells (r.row st) 55) (.cells zrow 55)
  go_enter Try.func34, Try.ntmps34
  go_wp2_with fail
  generalize (w.alloc (.cells (r.row st) 55)).alloc (.cells zrow 55) = W at *
  refine (rcall_any _ r st).mono ?_
  rintro e w1 ⟨rfl, hb1⟩
  have d1 := (hb1.block _ (lt_of_block b1)).trans b1
  have d2 := (hb1.block _ (lt_of_block b2)).trans b2
  have hB1 := hB.trans (hb1.mono hB.size)
  have hR1 : RefIn w r st.rcall := h.turn st.rcall_dur st.rcall_pend
  rw [← st.rcall_dur] at hm
  rw [← st.rcall_pend] at hpl
  clear b1 b2 hb1 hB h
  unfold Ref.val
  generalize hsr : st.rcall = sr at *
  have hsr' := Lib.hid hsr
  clear hsr
  have r1 := rowOf_of d1
  have hset := setRow_heap w1 w.heap.size (r.row st) (r.row sr) _ _ d1
  obtain ⟨c0, c1, c2, c3, c4, c5, c6, cf⟩ := row_cells hset
  have hB2 : Below w.heap.size w (w1.setRow w.heap.size (r.row sr)) := below_setRow hB1 (Nat.le_refl _) _
  have e2 : (w1.setRow w.heap.size (r.row sr)).heap[w.heap.size + 1]? = some (.cells zrow 55 (0, 0)) := (setRow_other _ _ _ _ (by omega)).trans d2
  have r0 := rowOf_of hset
  rw [hfl] at c3
  clear c0 c1 c2 c4 c5 c6 cf
  go_wp2_with fail
  generalize w1.setRow w.heap.size (r.row sr) = W2 at *
  refine (rapply_any _ r sr (hR1.below hB2) hm hpl (.slice none 0 0) [] ⟨none, 0, rfl, fun h => by simp at h⟩ (by simp) 64).mono ?_
  rintro e w3 ⟨r', rfl, hR3, hb3, hN3⟩
  have hNw : Newer w r r' := fun k hk => (hN3 k hk).imp id (fun h => Nat.le_trans hB2.size h)
  have f1 := (hb3.block _ (lt_of_block hset)).trans hset
  have f2 := (hb3.block _ (lt_of_block e2)).trans e2
  have hB3 := hB2.trans (hb3.mono hB2.size)
  clear hset e2 hb3 hB2 hR1 r0 c3 hB1 d1 d2 r1
  unfold Ref.val
  have hfle : (sr.rapply [] 64).fl = sr.fl := rfl
  have hfd : sr.flushed = (sr.rapply [] 64).withFl (wrap64 (sr.fl + 1)) := rfl
  rw [← hfle] at hfd
  have hfd' := Lib.hid hfd
  clear hfd hfle
  generalize sr.rapply [] 64 = s3 at *
  have r1 := rowOf_of f1
  have hset := setRow_heap w3 w.heap.size (r.row sr) (r'.row s3) _ _ f1
  have e2 : (w3.setRow w.heap.size (r'.row s3)).heap[w.heap.size + 1]? = some (.cells zrow 55 (0, 0)) := (setRow_other _ _ _ _ (by omega)).trans f2
  obtain ⟨c0, c1, c2, c3, c4, c5, c6, cf⟩ := row_cells hset
  have cf6 := cf 6
  have z1 : rowOf ((w3.setRow w.heap.size (r'.row s3)).setCell ⟨w.heap.size, 6, none⟩ (.int .i64 (wrap64 (s3.fl + 1)))) w.heap.size = r'.row (s3.withFl (wrap64 (s3.fl + 1))) := by
    rw [rowOf_of (heap_setCell_same _ _ _ _ _ _ hset), set_row6]
  have z2 : rowOf ((w3.setRow w.heap.size (r'.row s3)).setCell ⟨w.heap.size, 6, none⟩ (.int .i64 (wrap64 (s3.fl + 1)))) (w.heap.size + 1) = zrow := (rowOf_setCell_other _ (by simp)).trans (rowOf_of e2)
  have hB4 : Below w.heap.size w ((w3.setRow w.heap.size (r'.row s3)).setCell ⟨w.heap.size, 6, none⟩ (.int .i64 (wrap64 (s3.fl + 1)))) := (below_setRow hB3 (Nat.le_refl _) _).setCell (Nat.le_refl _) _
  clear c0 c1 c2 c3 c4 c5 cf
  go_wp2_with fail
  have hro := rowOf_setRow_same (w := (w3.setRow w.heap.size (r'.row s3)).setCell ⟨w.heap.size, 6, none⟩ (.int .i64 (wrap64 (s3.fl + 1)))) (g := w.heap.size + 1) (r'.row (s3.withFl (wrap64 (s3.fl + 1)))) (by rw [z2, size_zrow]; omega)
  refine bodyPost_ret (results_cell_tmp' rfl ag_state _ rfl hro (size_row _ _) (by omega)) rfl ⟨r', by rw [hsr'.out, hfd'.out]; rfl, ?_, below_setRow hB4 (by omega) _, hNw⟩
  rw [hsr'.out, hfd'.out]
  refine RefIn.turn (st := s3) ?_ rfl rfl
  refine hR3.other f1 f2 (fun k h1 h2 => ?_)
  rw [setRow_other _ _ _ _ h2, heap_setCell_other _ _ _ _ h1, setRow_other _ _ _ _ h1]

/-- Flush, as a value. -/
def St.rflush (st : St) : St × Int := if st.rcall.failed then (st.rcall, 12) else (st.rcall.flushed, 0)
theorem rflush_any (w : World) (r : Ref) (st : St) (h : RefIn w r st) (hm : 1 ≤ st.dur.length) (hpl : st.pend.length < 1000000) :
    Calls Try.prog 34 #[r.val st] w fun e w' => ∃ r', e = .returned (.tuple #[r'.val st.rflush.1, .int .i64 st.rflush.2]) ∧ RefIn w' r' st.rflush.1 ∧ Below w.heap.size w w' ∧ Newer w r r' := by
  unfold St.rflush
  by_cases hf : st.rcall.failed = true
  · rw [if_pos hf]
    refine (rflush_fail w r st hf).mono ?_
    rintro e w' ⟨rfl, hb⟩
    exact ⟨r, rfl, (h.turn st.rcall_dur st.rcall_pend).below hb, hb, Newer.refl _ _⟩
  · rw [if_neg hf]
    exact rflush_ok w r st h hm hpl (by simpa using hf)

set_option maxHeartbeats 1000000 in
theorem rcrash_any (w : World) (r : Ref) (st : St) (h : RefIn w r st) (hm : 1 ≤ st.dur.length) (hpl : st.pend.length < 1000000) (svv : Value) (sv : List Int) (hs : IntsIn w.heap.size w svv sv) (hsl : sv.length < 1000000) :
    Calls Try.prog 36 #[r.val st, svv] w fun e w' => ∃ r', e = .returned (r'.val (st.rcrash sv)) ∧ RefIn w' r' (st.rcrash sv) ∧ Below w.heap.size w w' ∧ Newer w r r' := by
  obtain ⟨ao, cap, rfl, hs2⟩ := hs
  have hs : IntsIn w.heap.size w (.slice ao sv.length cap) sv := ⟨ao, cap, rfl, hs2⟩
  clear hs2
  unfold Ref.val
  obtain ⟨b1, b2, hB⟩ := heap2 w (.cells (r.row st) 55) (.cells zrow 55)
  go_enter Try.func36, Try.ntmps36
  go_wp2_with fail
  generalize (w.alloc (.cells (r.row st) 55)).alloc (.cells zrow 55) = W at *
  refine (rapply_any _ r st (h.below hB) hm hpl _ sv (ints_more (hs.below hB) hB.size) hsl 0).mono ?_
  rintro e w3 ⟨r', rfl, hR3, hb3, hN3⟩
  have hNw : Newer w r r' := fun k hk => (hN3 k hk).imp id (fun h => Nat.le_trans hB.size h)
  have f1 := (hb3.block _ (lt_of_block b1)).trans b1
  have f2 := (hb3.block _ (lt_of_block b2)).trans b2
  have hB3 := hB.trans (hb3.mono hB.size)
  clear b1 b2 hb3 hB h
  unfold Ref.val
  have hfd' := Lib.hid (show st.rcrash sv = ((st.rapply sv 0).withFailed false).withLeft (-1) from rfl)
  generalize st.rapply sv 0 = s3 at *
  have r1 := rowOf_of f1
  have hset := setRow_heap w3 w.heap.size (r.row st) (r'.row s3) _ _ f1
  have e2 : (w3.setRow w.heap.size (r'.row s3)).heap[w.heap.size + 1]? = some (.cells zrow 55 (0, 0)) := (setRow_other _ _ _ _ (by omega)).trans f2
  obtain ⟨c0, c1, c2, c3, c4, c5, c6, cf⟩ := row_cells hset
  have cf3 := cf 3
  have cf2 := cf 2
  have z1 : rowOf (((w3.setRow w.heap.size (r'.row s3)).setCell ⟨w.heap.size, 3, none⟩ (.bool false)).setCell ⟨w.heap.size, 2, none⟩ (.int .i64 (-1))) w.heap.size = r'.row ((s3.withFailed false).withLeft (-1)) := by
    rw [rowOf_of (heap_setCell_same _ _ _ _ _ _ (heap_setCell_same _ _ _ _ _ _ hset)), set_row3, set_row2]
  have z2 : rowOf (((w3.setRow w.heap.size (r'.row s3)).setCell ⟨w.heap.size, 3, none⟩ (.bool false)).setCell ⟨w.heap.size, 2, none⟩ (.int .i64 (-1))) (w.heap.size + 1) = zrow := (rowOf_setCell_other _ (by simp)).trans ((rowOf_setCell_other _ (by simp)).trans (rowOf_of e2))
  have hB4 : Below w.heap.size w (((w3.setRow w.heap.size (r'.row s3)).setCell ⟨w.heap.size, 3, none⟩ (.bool false)).setCell ⟨w.heap.size, 2, none⟩ (.int .i64 (-1))) := ((below_setRow hB3 (Nat.le_refl _) _).setCell (Nat.le_refl _) _).setCell (Nat.le_refl _) _
  clear c0 c1 c4 c5 c6 cf
  go_wp2_with fail
  have hro := rowOf_setRow_same (w := ((w3.setRow w.heap.size (r'.row s3)).setCell ⟨w.heap.size, 3, none⟩ (.bool false)).setCell ⟨w.heap.size, 2, none⟩ (.int .i64 (-1))) (g := w.heap.size + 1) (r'.row ((s3.withFailed false).withLeft (-1))) (by rw [z2, size_zrow]; omega)
  refine bodyPost_ret (results_cell rfl ag_state _ rfl hro (size_row _ _) (by omega)) rfl ⟨r', by rw [hfd'.out], ?_, below_setRow hB4 (by omega) _, hNw⟩
  rw [hfd'.out]
  refine RefIn.turn (st := s3) ?_ rfl rfl
  refine hR3.other f1 f2 (fun k h1 h2 => ?_)
  rw [setRow_other _ _ _ _ h2, heap_setCell_other _ _ _ _ h1, heap_setCell_other _ _ _ _ h1, setRow_other _ _ _ _ h1]
end Go.Proofs.Ytakehkoicinlbaa.dk
