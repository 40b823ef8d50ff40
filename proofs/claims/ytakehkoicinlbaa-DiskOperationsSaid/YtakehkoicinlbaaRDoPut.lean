/- confluentref47.Do: the branch that writes. -/
import Derived.Test.YtakehkoicinlbaaRDoBase
import Derived.Test.YtakehkoicinlbaaRPut
namespace Go.Proofs.Ytakehkoicinlbaa.dk
open Go.RowKit Go.Proofs.Ytakehkoicinlbaa.agg

attribute [local go_sem ↓] alloc_state load_state store_state
attribute [local go_sem] cut_row over_row' over_zrow one_row size_row size_zrow row_0 row_1 row_2 row_3 row_4 row_5 row_6 row_0' row_1' row_2' row_3' row_4' row_5' row_6' set_row2 set_row3 set_row4 set_row5 set_row6

set_option maxRecDepth 20000 in
set_option maxHeartbeats 1000000 in
theorem rdo_write (w : World) (r : Ref) (st : St) (h : RefIn w r st) (x : ActV) (hx : x.data.length = 64) (hpl : st.pend.length < 1000000) (hk : x.kind = 0) :
    Calls Try.prog 24 #[r.val st, .agg (acells x)] w fun e w' => ∃ r', e = .returned (.tuple #[r'.val (st.put x.sector x.data).1, .agg (sec zeros), .int .i64 (st.put x.sector x.data).2]) ∧ RefIn w' r' (st.put x.sector x.data).1 ∧ Below w.heap.size w w' ∧ Newer w r r' := by
  obtain ⟨a0, a1, a2, a3⟩ := acells_get' x hx
  rw [hk] at a0
  have hcut := cut_acells x hx
  have hz := length_zeros
  have hk' := Lib.hid hk
  clear hk
  obtain ⟨hat, hB⟩ := rdoW_at w r st x
  unfold Ref.val
  go_enter Try.func24, Try.ntmps24
  go_wp2_with fail
  rw [show ((((w.alloc (.cells (r.row st) 55)).alloc (.cells (acells x) 35)).alloc (.cells zrow 55)).alloc (.cells (sec zeros) 23)).alloc (.cells (sec zeros) 23) = rdoW w r st x from rfl]
  generalize rdoW w r st x = W at *
  refine (put_any _ r st (h.below hB) x.sector x.data hx hpl).mono ?_
  rintro e w1 ⟨r', rfl, hR1, hb1, hn1⟩
  have hap := Lib.hid (apart_boxes h hn1 (lt_of_block hat.loc))
  have hnw := newer_of hn1 hB.size
  have hB1 := hB.trans (hb1.mono hB.size)
  have at1 := hat.below hb1
  generalize hs1 : st.put x.sector x.data = s1 at *
  obtain ⟨s1, e1⟩ := s1
  have hs1' := Lib.hid hs1
  clear hs1
  unfold Ref.val
  have en := at1.put (r' := r') (st' := s1)
  have q0 := en.r0
  have q2 := en.r2
  have q3 := en.r3
  have q4 := en.r4
  have q5 := en.r5
  have p0 := rowOf_of at1.box
  have hsz := lt_of_block at1.loc
  have f1' := Lib.hid at1.box
  have f2' := Lib.hid at1.res
  have hBf : Below w.heap.size w (w1.setRow w.heap.size (r'.row s1)) := below_setRow hB1 (Nat.le_refl _) _
  clear hat at1 hb1 hB h hB1
  go_wp2_with fail
  go_region
  all_goals go_wp2
  all_goals
    obtain ⟨y1, y2⟩ := en.two
    have hfin := (below_setRow (below_setRow hBf (show w.heap.size ≤ w.heap.size + 1 + 1 by omega) (r'.row s1)) (show w.heap.size ≤ w.heap.size + 1 + 1 + 1 by omega) (sec zeros)).drew
    refine bodyPost_ret (results_cells_tmp rfl ag_state ag_sec _ rfl rfl (rowOf_drew' y1) (size_row _ _) (by omega) (rowOf_drew' y2) (by rw [size_sec]; exact hz) (by omega)) rfl ⟨r', by rw [hs1'.out]; rfl, ?_, hfin, hnw⟩
    rw [hs1'.out]
    refine hR1.same (fun k hk => ?_)
    obtain ⟨k0, k2, k3, k4⟩ := hap.out k hk
    rw [World.drew_heap', setRow_other _ _ _ _ k3, setRow_other _ _ _ _ k2, setRow_other _ _ _ _ k0]
end Go.Proofs.Ytakehkoicinlbaa.dk
