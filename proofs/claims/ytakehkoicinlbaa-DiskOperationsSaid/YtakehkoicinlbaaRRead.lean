/- The walk of confluentref47.Read. -/
import Derived.Test.YtakehkoicinlbaaRVis
namespace Go.Proofs.Ytakehkoicinlbaa.dk
open Go.RowKit Go.Proofs.Ytakehkoicinlbaa.agg

set_option maxHeartbeats 1000000 in
theorem rread_fail (w : World) (r : Ref) (st : St) (n : Nat) (hn : n < st.dur.length) (hf : st.failed = true) :
    Calls Try.prog 35 #[r.val st, .int .i64 n] w fun e w' => e = .returned (.tuple #[r.val st, .agg (sec zeros), .int .i64 12]) ∧ Below w.heap.size w w' := by
  have hz := length_zeros
  unfold Ref.val Ref.row
  go_enter Try.func35, Try.ntmps35
  go_wp2_with fail
  obtain ⟨_, y1, y2, hB⟩ := heap3 w (.cells (r.row st) 55) (.cells (r.row st) 55) (.cells (sec zeros) 23)
  rw [Ref.row, hf] at y1 y2 hB
  exact bodyPost_ret (results_cells_tmp rfl ag_state ag_sec _ rfl rfl (rowOf_of y1) rfl (by omega) (rowOf_of y2) (by rw [size_sec, hz]) (by omega)) rfl ⟨by rw [hf]; rfl, hB⟩
set_option maxHeartbeats 1000000 in
theorem rread_range (w : World) (r : Ref) (st : St) (n : Int) (hn : n < 0 ∨ st.dur.length ≤ n) :
    Calls Try.prog 35 #[r.val st, .int .i64 n] w fun e w' => e = .returned (.tuple #[r.val st, .agg (sec zeros), .int .i64 2]) ∧ Below w.heap.size w w' := by
  have hz := length_zeros
  unfold Ref.val Ref.row
  by_cases h0 : n < 0
  · go_enter Try.func35, Try.ntmps35
    go_wp2_with fail
    obtain ⟨_, y1, y2, hB⟩ := heap3 w (.cells (r.row st) 55) (.cells (r.row st) 55) (.cells (sec zeros) 23)
    exact bodyPost_ret (results_cells_tmp rfl ag_state ag_sec _ rfl rfl (rowOf_of y1) (size_row _ _) (by omega) (rowOf_of y2) (by rw [size_sec, hz]) (by omega)) rfl ⟨rfl, hB⟩
  · have h1 : (st.dur.length : Int) ≤ n := by omega
    go_enter Try.func35, Try.ntmps35
    go_wp2_with fail
    obtain ⟨_, y1, y2, hB⟩ := heap3 w (.cells (r.row st) 55) (.cells (r.row st) 55) (.cells (sec zeros) 23)
    exact bodyPost_ret (results_cells_tmp rfl ag_state ag_sec _ rfl rfl (rowOf_of y1) (size_row _ _) (by omega) (rowOf_of y2) (by rw [size_sec, hz]) (by omega)) rfl ⟨rfl, hB⟩
attribute [local go_sem ↓] alloc_state load_state store_state
attribute [local go_sem] cut_row over_row one_row size_row size_zrow row_0 row_1 row_2 row_3 row_4 row_5 row_6 row_0' row_1' row_2' row_3' row_4' row_5' row_6' set_row2 set_row3 set_row4 set_row5 set_row6

/-- The world with the boxes of Read. -/
def rreadW (w : World) (r : Ref) (st : St) : World := ((w.alloc (.cells (r.row st) 55)).alloc (.cells zrow 55)).alloc (.cells (sec zeros) 23)
structure RReadAt (w : World) (r : Ref) (st : St) (W : World) : Prop where
  below : Below w.heap.size w W
  box : W.heap[w.heap.size]? = some (.cells (r.row st) 55 (0, 0))
  res : W.heap[w.heap.size + 1]? = some (.cells zrow 55 (0, 0))
  sct : W.heap[w.heap.size + 2]? = some (.cells (sec zeros) 23 (0, 0))
theorem rreadW_at (w : World) (r : Ref) (st : St) : RReadAt w r st (rreadW w r st) := by
  refine ⟨(((Below.refl _ w).alloc (Nat.le_refl _) _).alloc (by simp) _).alloc (by simp; omega) _, ?_, ?_, ?_⟩
  · unfold rreadW
    rw [Below.heap_alloc _ _ _ (by simp; omega), Below.heap_alloc _ _ _ (by simp), heap_alloc_new]
  · unfold rreadW
    rw [Below.heap_alloc _ _ _ (by simp), heap_alloc2_new]
  · have := heap_alloc_new ((w.alloc (.cells (r.row st) 55)).alloc (.cells zrow 55)) (.cells (sec zeros) 23)
    simpa [rreadW] using this

set_option maxHeartbeats 1000000 in
theorem rread_ok (w : World) (r : Ref) (st : St) (h : RefIn w r st) (n : Nat) (hn : n < st.dur.length) (hpl : st.pend.length < 1000000) (hf : st.failed = false) :
    Calls Try.prog 35 #[r.val st, .int .i64 n] w fun e w' => e = .returned (.tuple #[r.val (st.withRd (wrap64 (st.rd + 1))), .agg (sec ((st.withRd (wrap64 (st.rd + 1))).visible n)), .int .i64 0]) ∧ Below w.heap.size w w' := by
  have hW := rreadW_at w r st
  have hz := length_zeros
  unfold Ref.val
  go_enter Try.func35, Try.ntmps35
  go_wp2_with fail
  rw [show ((w.alloc (.cells (r.row (st.withRd (wrap64 (st.rd + 1)))) 55)).alloc (.cells zrow 55)).alloc (.cells (sec zeros) 23) = rreadW w r (st.withRd (wrap64 (st.rd + 1))) from rfl]
  have hW := rreadW_at w r (st.withRd (wrap64 (st.rd + 1)))
  have hvl : ((st.withRd (wrap64 (st.rd + 1))).visible n).length = 64 := (seen_all st n) ▸ seen_len h n hn st.pend.length
  have h2 : RefIn w r (st.withRd (wrap64 (st.rd + 1))) := h.turn rfl rfl
  have hn2 : n < (st.withRd (wrap64 (st.rd + 1))).dur.length := hn
  have hpl2 : (st.withRd (wrap64 (st.rd + 1))).pend.length < 1000000 := hpl
  clear hf h hn hpl
  generalize rreadW w r (st.withRd (wrap64 (st.rd + 1))) = W at *
  generalize hst : (st.withRd (wrap64 (st.rd + 1))) = st' at *
  have hst' := Lib.hid hst
  clear hst
  have hbx := lt_of_block hW.box
  have hrl := lt_of_block hW.res
  have hsl := lt_of_block hW.sct
  have rb := rowOf_of hW.box
  have rr := rowOf_of hW.res
  have rs := rowOf_of hW.sct
  have hc := Lib.hid (fun w1 (hb : Below W.heap.size W w1) => rvis_any w1 r st' ((h2.below hW.below).below hb) n hn2 hpl2)
  clear h2 hn2 hpl2
  have ho := fun w1 (hb : Below W.heap.size W w1) => hb.block (w.heap.size + 1) hrl
  go_region_law (go_simp; go_at_call 38; refine (hc.out _ (by first | exact Below.refl _ _ | exact (Below.refl _ _).drew | exact below_drewN (Below.refl _ _) _)).mono ?_; rintro e w1 ⟨rfl, hb1⟩; have r1 := (rowOf_block (hb1.block _ hrl)).trans rr; have r0 := (rowOf_block (hb1.block _ hbx)).trans rb; have r2 := (rowOf_block (hb1.block _ hsl)).trans rs; have r3 : ∀ c, rowOf (w1.setRow (w.heap.size + 1) c) (w.heap.size + 1 + 1) = sec zeros := (fun c => (rowOf_setRow_other c (by omega)).trans r2); clear r2)
  all_goals go_wp2
  all_goals
    obtain ⟨y1, y2⟩ := rowOf_two (w := w1) (b := w.heap.size + 1) (c := w.heap.size + 1 + 1) (overrow zrow 0 (r.row st')) (sec (st'.visible n)) (by omega) (by rw [r1]; decide) (by rw [← rowOf_setRow_other (w := w1) (g := w.heap.size + 1) zrow (by omega), r3, size_sec, hz]; omega)
    rw [over_row _ _ _ size_zrow] at y1 y2 ⊢
    have hW1 := hW.below.size
    have hWd : W.drew.heap.size = W.heap.size := rfl
    have hB : Below w.heap.size w w1 := hW.below.trans (((Below.refl _ W).drew.trans hb1).mono (by omega))
    exact bodyPost_ret (results_cells_tmp rfl ag_state ag_sec _ rfl rfl y1 (size_row _ _) (by omega) y2 (by rw [size_sec, hvl]) (by omega)) rfl ⟨by rw [hst'.out]; rfl, below_setRow (below_setRow hB (by omega) _) (by omega) _⟩

theorem rread_any (w : World) (r : Ref) (st : St) (h : RefIn w r st) (n : Int) (hpl : st.pend.length < 1000000) :
    Calls Try.prog 35 #[r.val st, .int .i64 n] w fun e w' => e = .returned (.tuple #[r.val (st.read n).1, .agg (sec (st.read n).2.1), .int .i64 (st.read n).2.2]) ∧ Below w.heap.size w w' := by
  unfold St.read
  by_cases hn : n < 0 ∨ (st.dur.length : Int) ≤ n
  · rw [if_pos hn]; exact rread_range w r st n hn
  · rw [if_neg hn]
    obtain ⟨k, rfl⟩ := Int.eq_ofNat_of_zero_le (show 0 ≤ n by omega)
    by_cases hf : st.failed = true
    · rw [if_pos hf]; exact rread_fail w r st k (by omega) hf
    · rw [if_neg hf]; exact rread_ok w r st h k (by omega) hpl (by simpa using hf)
end Go.Proofs.Ytakehkoicinlbaa.dk
