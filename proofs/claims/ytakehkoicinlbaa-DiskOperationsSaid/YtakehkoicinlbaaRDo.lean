/- confluentref47.Do: the branches that read, crash, set the failing, or do nothing. -/
import Derived.Test.YtakehkoicinlbaaRDoBase
namespace Go.Proofs.Ytakehkoicinlbaa.dk
open Go.RowKit Go.Proofs.Ytakehkoicinlbaa.agg

theorem failAfter_same (st : St) (n : Int) : (st.failAfter n).dur = st.dur ∧ (st.failAfter n).pend = st.pend := by
  unfold St.failAfter
  split <;> exact ⟨rfl, rfl⟩
theorem read_same (st : St) (n : Int) : (st.read n).1.dur = st.dur ∧ (st.read n).1.pend = st.pend := by
  unfold St.read
  split
  · exact ⟨rfl, rfl⟩
  · split <;> exact ⟨rfl, rfl⟩
theorem ref_read_len {w : World} {r : Ref} {st : St} (h : RefIn w r st) (n : Int) : (st.read n).2.1.length = 64 := by
  unfold St.read
  split
  · exact length_zeros
  · split
    · exact length_zeros
    · rename_i hn _
      obtain ⟨k, rfl⟩ := Int.eq_ofNat_of_zero_le (show 0 ≤ n by omega)
      show (st.visible (k : Int)).length = 64
      rw [← seen_all]
      exact seen_len h k (by omega) _
attribute [local go_sem ↓] alloc_state load_state store_state
attribute [local go_sem] cut_row over_row' over_zrow one_row size_row size_zrow row_0 row_1 row_2 row_3 row_4 row_5 row_6 row_0' row_1' row_2' row_3' row_4' row_5' row_6' set_row2 set_row3 set_row4 set_row5 set_row6

set_option maxRecDepth 20000 in
set_option maxHeartbeats 1000000 in
theorem rdo_crash (w : World) (r : Ref) (st : St) (h : RefIn w r st) (hm : 1 ≤ st.dur.length) (x : ActV) (hx : x.data.length = 64) (hpl : st.pend.length < 1000000) (hs : IntsIn w.heap.size w x.svv x.sv) (hsl : x.sv.length < 1000000) (hk : x.kind = 3) :
    Calls Try.prog 24 #[r.val st, .agg (acells x)] w fun e w' => ∃ r', e = .returned (.tuple #[r'.val (st.rcrash x.sv), .agg (sec zeros), .int .i64 0]) ∧ RefIn w' r' (st.rcrash x.sv) ∧ Below w.heap.size w w' ∧ Newer w r r' := by
  obtain ⟨a0, a1, a2, a3⟩ := acells_get' x hx
  rw [hk] at a0
  have hcut := cut_acells x hx
  have hz := length_zeros
  have hk' := Lib.hid hk
  clear hk
  obtain ⟨hat, hB⟩ := rdoW_at w r st x
  unfold Ref.val
  go_enter Try.func24, Try.ntmps24
  go_wp2_with fail
  rw [show ((((w.alloc (.cells (r.row st) 55)).alloc (.cells (acells x) 35)).alloc (.cells zrow 55)).alloc (.cells (sec zeros) 23)).alloc (.cells (sec zeros) 23) = rdoW w r st x from rfl]
  generalize rdoW w r st x = W at *
  refine (rcrash_any _ r st (h.below hB) hm hpl x.svv x.sv (ints_more (hs.below hB) hB.size) hsl).mono ?_
  rintro e w1 ⟨r', rfl, hR1, hb1, hn1⟩
  have hap := Lib.hid (apart_boxes h hn1 (lt_of_block hat.loc))
  have hnw := newer_of hn1 hB.size
  have hB1 := hB.trans (hb1.mono hB.size)
  have at1 := hat.below hb1
  generalize hs1 : st.rcrash x.sv = s1 at *
  have hs1' := Lib.hid hs1
  clear hs1
  unfold Ref.val
  have en := at1.put (r' := r') (st' := s1)
  have q0 := en.r0
  have q2 := en.r2
  have q3 := en.r3
  have q4 := en.r4
  have q5 := en.r5
  have p0 := rowOf_of at1.box
  have hsz := lt_of_block at1.loc
  have f1' := Lib.hid at1.box
  have f2' := Lib.hid at1.res
  have hBf : Below w.heap.size w (w1.setRow w.heap.size (r'.row s1)) := below_setRow hB1 (Nat.le_refl _) _
  clear hat at1 hb1 hB h hB1
  go_wp2_with fail
  go_region
  all_goals go_wp2
  all_goals
    obtain ⟨y1, y2⟩ := en.two
    have hfin := (below_setRow (below_setRow hBf (show w.heap.size ≤ w.heap.size + 1 + 1 by omega) (r'.row s1)) (show w.heap.size ≤ w.heap.size + 1 + 1 + 1 by omega) (sec zeros)).drew
    refine bodyPost_ret (results_cells_tmp rfl ag_state ag_sec _ rfl rfl (rowOf_drew' y1) (size_row _ _) (by omega) (rowOf_drew' y2) (by rw [size_sec]; exact hz) (by omega)) rfl ⟨r', by rw [hs1'.out]; rfl, ?_, hfin, hnw⟩
    rw [hs1'.out]
    refine hR1.same (fun k hk => ?_)
    obtain ⟨k0, k2, k3, k4⟩ := hap.out k hk
    rw [World.drew_heap', setRow_other _ _ _ _ k3, setRow_other _ _ _ _ k2, setRow_other _ _ _ _ k0]
set_option maxRecDepth 20000 in
set_option maxHeartbeats 1000000 in
theorem rdo_failAfter (w : World) (r : Ref) (st : St) (h : RefIn w r st) (x : ActV) (hx : x.data.length = 64) (hk : x.kind = 4) :
    Calls Try.prog 24 #[r.val st, .agg (acells x)] w fun e w' => ∃ r', e = .returned (.tuple #[r'.val (st.failAfter x.n), .agg (sec zeros), .int .i64 0]) ∧ RefIn w' r' (st.failAfter x.n) ∧ Below w.heap.size w w' ∧ Newer w r r' := by
  obtain ⟨a0, a1, a2, a3⟩ := acells_get' x hx
  rw [hk] at a0
  have hcut := cut_acells x hx
  have hz := length_zeros
  have hk' := Lib.hid hk
  clear hk
  obtain ⟨hat, hB⟩ := rdoW_at w r st x
  unfold Ref.val
  go_enter Try.func24, Try.ntmps24
  go_wp2_with fail
  rw [show ((((w.alloc (.cells (r.row st) 55)).alloc (.cells (acells x) 35)).alloc (.cells zrow 55)).alloc (.cells (sec zeros) 23)).alloc (.cells (sec zeros) 23) = rdoW w r st x from rfl]
  generalize rdoW w r st x = W at *
  refine (rfail_any _ r st x.n).mono ?_
  rintro e w1 ⟨rfl, hb1⟩
  obtain ⟨r', hr'⟩ : ∃ r', r' = r := ⟨_, rfl⟩
  have hn1 : Newer W r r' := by rw [hr']; exact Newer.refl _ _
  have hR1 : RefIn w1 r' (st.failAfter x.n) := by rw [hr']; exact ((h.below hB).below hb1).turn (failAfter_same st x.n).1 (failAfter_same st x.n).2
  rw [show r.val (st.failAfter x.n) = r'.val (st.failAfter x.n) by rw [hr']]
  clear hr'
  have hap := Lib.hid (apart_boxes h hn1 (lt_of_block hat.loc))
  have hnw := newer_of hn1 hB.size
  have hB1 := hB.trans (hb1.mono hB.size)
  have at1 := hat.below hb1
  generalize hs1 : st.failAfter x.n = s1 at *
  have hs1' := Lib.hid hs1
  clear hs1
  unfold Ref.val
  have en := at1.put (r' := r') (st' := s1)
  have q0 := en.r0
  have q2 := en.r2
  have q3 := en.r3
  have q4 := en.r4
  have q5 := en.r5
  have p0 := rowOf_of at1.box
  have hsz := lt_of_block at1.loc
  have f1' := Lib.hid at1.box
  have f2' := Lib.hid at1.res
  have hBf : Below w.heap.size w (w1.setRow w.heap.size (r'.row s1)) := below_setRow hB1 (Nat.le_refl _) _
  clear hat at1 hb1 hB h hB1
  go_wp2_with fail
  go_region
  all_goals go_wp2
  all_goals
    obtain ⟨y1, y2⟩ := en.two
    have hfin := (below_setRow (below_setRow hBf (show w.heap.size ≤ w.heap.size + 1 + 1 by omega) (r'.row s1)) (show w.heap.size ≤ w.heap.size + 1 + 1 + 1 by omega) (sec zeros)).drew
    refine bodyPost_ret (results_cells_tmp rfl ag_state ag_sec _ rfl rfl (rowOf_drew' y1) (size_row _ _) (by omega) (rowOf_drew' y2) (by rw [size_sec]; exact hz) (by omega)) rfl ⟨r', by rw [hs1'.out]; rfl, ?_, hfin, hnw⟩
    rw [hs1'.out]
    refine hR1.same (fun k hk => ?_)
    obtain ⟨k0, k2, k3, k4⟩ := hap.out k hk
    rw [World.drew_heap', setRow_other _ _ _ _ k3, setRow_other _ _ _ _ k2, setRow_other _ _ _ _ k0]
set_option maxRecDepth 20000 in
set_option maxHeartbeats 1000000 in
theorem rdo_read (w : World) (r : Ref) (st : St) (h : RefIn w r st) (x : ActV) (hx : x.data.length = 64) (hpl : st.pend.length < 1000000) (hk : x.kind = 2) :
    Calls Try.prog 24 #[r.val st, .agg (acells x)] w fun e w' => ∃ r', e = .returned (.tuple #[r'.val (st.read x.sector).1, .agg (sec (st.read x.sector).2.1), .int .i64 (st.read x.sector).2.2]) ∧ RefIn w' r' (st.read x.sector).1 ∧ Below w.heap.size w w' ∧ Newer w r r' := by
  obtain ⟨a0, a1, a2, a3⟩ := acells_get' x hx
  rw [hk] at a0
  have hcut := cut_acells x hx
  have hz := length_zeros
  have hk' := Lib.hid hk
  clear hk
  obtain ⟨hat, hB⟩ := rdoW_at w r st x
  unfold Ref.val
  go_enter Try.func24, Try.ntmps24
  go_wp2_with fail
  rw [show ((((w.alloc (.cells (r.row st) 55)).alloc (.cells (acells x) 35)).alloc (.cells zrow 55)).alloc (.cells (sec zeros) 23)).alloc (.cells (sec zeros) 23) = rdoW w r st x from rfl]
  generalize rdoW w r st x = W at *
  refine (rread_any _ r st (h.below hB) x.sector hpl).mono ?_
  rintro e w1 ⟨rfl, hb1⟩
  have hyl := ref_read_len h x.sector
  obtain ⟨r', hr'⟩ : ∃ r', r' = r := ⟨_, rfl⟩
  have hn1 : Newer W r r' := by rw [hr']; exact Newer.refl _ _
  have hR1 : RefIn w1 r' (st.read x.sector).1 := by rw [hr']; exact ((h.below hB).below hb1).turn (read_same st x.sector).1 (read_same st x.sector).2
  rw [show r.val (st.read x.sector).1 = r'.val (st.read x.sector).1 by rw [hr']]
  clear hr'
  have hap := Lib.hid (apart_boxes h hn1 (lt_of_block hat.loc))
  have hnw := newer_of hn1 hB.size
  have hB1 := hB.trans (hb1.mono hB.size)
  have at1 := hat.below hb1
  generalize hs1 : st.read x.sector = s1 at *
  obtain ⟨s1, y, e1⟩ := s1
  simp only at hyl hR1
  have hs1' := Lib.hid hs1
  clear hs1
  unfold Ref.val
  have en := at1.put2 (r' := r') (st' := s1) (y := y)
  have p4 : rowOf (w1.setRow w.heap.size (r'.row s1)) (w.heap.size + 1 + 1 + 1 + 1) = sec zeros := (rowOf_setRow_other _ (by omega)).trans (rowOf_of at1.loc)
  have p5 : w.heap.size < w1.heap.size := lt_of_block at1.box
  have q0 := en.r0
  have q2 := en.r2
  have q3 := en.r3
  have q4 := en.r4
  have q5 := en.r5
  have p0 := rowOf_of at1.box
  have hsz := lt_of_block at1.loc
  have f1' := Lib.hid at1.box
  have f2' := Lib.hid at1.res
  have hBf : Below w.heap.size w ((w1.setRow w.heap.size (r'.row s1)).setRow (w.heap.size + 1 + 1 + 1 + 1) (sec y)) := below_setRow (below_setRow hB1 (Nat.le_refl _) _) (by omega) _
  clear hat at1 hb1 hB h hB1
  go_wp2_with fail
  go_region
  all_goals go_wp2
  all_goals
    obtain ⟨y1, y2⟩ := en.two
    have hfin := (below_setRow (below_setRow hBf (show w.heap.size ≤ w.heap.size + 1 + 1 by omega) (r'.row s1)) (show w.heap.size ≤ w.heap.size + 1 + 1 + 1 by omega) (sec y)).drew
    refine bodyPost_ret (results_cells_tmp rfl ag_state ag_sec _ rfl rfl (rowOf_drew' y1) (size_row _ _) (by omega) (rowOf_drew' y2) (by rw [size_sec]; exact hyl) (by omega)) rfl ⟨r', by rw [hs1'.out]; rfl, ?_, hfin, hnw⟩
    rw [hs1'.out]
    refine hR1.same (fun k hk => ?_)
    obtain ⟨k0, k2, k3, k4⟩ := hap.out k hk
    rw [World.drew_heap', setRow_other _ _ _ _ k3, setRow_other _ _ _ _ k2, setRow_other _ _ _ _ k4, setRow_other _ _ _ _ k0]
set_option maxRecDepth 20000 in
set_option maxHeartbeats 1000000 in
theorem rdo_other (w : World) (r : Ref) (st : St) (h : RefIn w r st) (x : ActV) (hx : x.data.length = 64) (hk : ¬ (x.kind = 0 ∨ x.kind = 1 ∨ x.kind = 2 ∨ x.kind = 3 ∨ x.kind = 4)) :
    Calls Try.prog 24 #[r.val st, .agg (acells x)] w fun e w' => ∃ r', e = .returned (.tuple #[r'.val st, .agg (sec zeros), .int .i64 0]) ∧ RefIn w' r' st ∧ Below w.heap.size w w' ∧ Newer w r r' := by
  obtain ⟨a0, a1, a2, a3⟩ := acells_get' x hx
  have n0 : (x.kind == 0) = false := by simp; omega
  have n1 : (x.kind == 1) = false := by simp; omega
  have n2 : (x.kind == 2) = false := by simp; omega
  have n3 : (x.kind == 3) = false := by simp; omega
  have n4 : (x.kind == 4) = false := by simp; omega
  have hcut := cut_acells x hx
  have hz := length_zeros
  clear hk
  obtain ⟨hat, hB⟩ := rdoW_at w r st x
  unfold Ref.val
  go_enter Try.func24, Try.ntmps24
  go_wp2_with fail
  rw [show ((((w.alloc (.cells (r.row st) 55)).alloc (.cells (acells x) 35)).alloc (.cells zrow 55)).alloc (.cells (sec zeros) 23)).alloc (.cells (sec zeros) 23) = rdoW w r st x from rfl]
  generalize rdoW w r st x = W at *
  have hn1 : Newer W r r := Newer.refl _ _
  have hap := Lib.hid (apart_boxes h hn1 (lt_of_block hat.loc))
  have hnw := newer_of hn1 hB.size
  have hR1 := h.below hB
  have en := hat.keep
  have q0 := en.r0
  have q2 := en.r2
  have q3 := en.r3
  have q4 := en.r4
  have q5 := en.r5
  have p0 := rowOf_of hat.box
  have hsz := lt_of_block hat.loc
  have hBf : Below w.heap.size w W := hB
  clear hat hB h
  go_wp2_with fail
  go_region
  all_goals go_wp2
  all_goals
    obtain ⟨y1, y2⟩ := en.two
    have hfin := (below_setRow (below_setRow hBf (show w.heap.size ≤ w.heap.size + 1 + 1 by omega) (r.row st)) (show w.heap.size ≤ w.heap.size + 1 + 1 + 1 by omega) (sec zeros)).drew
    refine bodyPost_ret (results_cells_tmp rfl ag_state ag_sec _ rfl rfl (rowOf_drew' y1) (size_row _ _) (by omega) (rowOf_drew' y2) (by rw [size_sec]; exact hz) (by omega)) rfl ⟨r, rfl, ?_, hfin, hnw⟩
    refine hR1.same (fun k hk => ?_)
    obtain ⟨k0, k2, k3, k4⟩ := hap.out k hk
    rw [World.drew_heap', setRow_other _ _ _ _ k3, setRow_other _ _ _ _ k2]
end Go.Proofs.Ytakehkoicinlbaa.dk
