/- confluentref47.Do: its boxes, and the branches that change the state alone, walked. -/
import Derived.Test.YtakehkoicinlbaaRFlush
import Derived.Test.YtakehkoicinlbaaRRead
import Derived.RegionTactic
import Derived.ChangeAlike
namespace Go.Proofs.Ytakehkoicinlbaa.dk
open Go.RowKit Go.Proofs.Ytakehkoicinlbaa.agg

/-- The boxes of Do: the State, the call, the results, the content. -/
def rdoW (w : World) (r : Ref) (st : St) (x : ActV) : World := ((((w.alloc (.cells (r.row st) 55)).alloc (.cells (acells x) 35)).alloc (.cells zrow 55)).alloc (.cells (sec zeros) 23)).alloc (.cells (sec zeros) 23)
structure RDoAt (s : Nat) (W : World) (r : Ref) (st : St) (x : ActV) : Prop where
  box : W.heap[s]? = some (.cells (r.row st) 55 (0, 0))
  act : W.heap[s + 1]? = some (.cells (acells x) 35 (0, 0))
  res : W.heap[s + 1 + 1]? = some (.cells zrow 55 (0, 0))
  sct : W.heap[s + 1 + 1 + 1]? = some (.cells (sec zeros) 23 (0, 0))
  loc : W.heap[s + 1 + 1 + 1 + 1]? = some (.cells (sec zeros) 23 (0, 0))
theorem rdoW_at (w : World) (r : Ref) (st : St) (x : ActV) : RDoAt w.heap.size (rdoW w r st x) r st x ∧ Below w.heap.size w (rdoW w r st x) := by
  obtain ⟨b1, b2, b3, hB⟩ := heap3 w (.cells (r.row st) 55) (.cells (acells x) 35) (.cells zrow 55)
  have hs : (((w.alloc (.cells (r.row st) 55)).alloc (.cells (acells x) 35)).alloc (.cells zrow 55)).heap.size = w.heap.size + 1 + 1 + 1 := by simp
  unfold rdoW
  generalize ((w.alloc (.cells (r.row st) 55)).alloc (.cells (acells x) 35)).alloc (.cells zrow 55) = V at *
  obtain ⟨c1, c2, hC⟩ := heap2 V (.cells (sec zeros) 23) (.cells (sec zeros) 23)
  rw [hs] at c1 c2
  exact ⟨⟨(hC.block _ (by omega)).trans b1, (hC.block _ (by omega)).trans b2, (hC.block _ (by omega)).trans b3, c1, c2⟩, hB.trans (hC.mono (by omega))⟩
theorem RDoAt.below {s : Nat} {W w1 : World} {r : Ref} {st : St} {x : ActV} (h : RDoAt s W r st x) (hb : Below W.heap.size W w1) : RDoAt s w1 r st x :=
  ⟨(hb.block _ (lt_of_block h.box)).trans h.box, (hb.block _ (lt_of_block h.act)).trans h.act, (hb.block _ (lt_of_block h.res)).trans h.res, (hb.block _ (lt_of_block h.sct)).trans h.sct, (hb.block _ (lt_of_block h.loc)).trans h.loc⟩
/-- The State's box is written. -/
structure RDoEnd (s : Nat) (W : World) (r : Ref) (st : St) (y : List Int) : Prop where
  r0 : rowOf W s = r.row st
  r2 : rowOf W (s + 1 + 1) = zrow
  r3 : ∀ c, rowOf (W.setRow (s + 1 + 1) c) (s + 1 + 1 + 1) = sec zeros
  r4 : rowOf W (s + 1 + 1 + 1 + 1) = sec y
theorem RDoEnd.r5 {s : Nat} {W : World} {r : Ref} {st : St} {y : List Int} (h : RDoEnd s W r st y) (c : Array Value) : rowOf (W.setRow (s + 1 + 1) c) (s + 1 + 1 + 1 + 1) = sec y := (rowOf_setRow_other _ (by omega)).trans h.r4
theorem RDoAt.put {s : Nat} {W : World} {r r' : Ref} {st st' : St} {x : ActV} (h : RDoAt s W r st x) : RDoEnd s (W.setRow s (r'.row st')) r' st' zeros := by
  refine ⟨rowOf_of (setRow_heap _ _ _ _ _ _ h.box), (rowOf_setRow_other _ (by omega)).trans (rowOf_of h.res), fun c => ?_, (rowOf_setRow_other _ (by omega)).trans (rowOf_of h.loc)⟩
  exact (rowOf_setRow_other _ (by omega)).trans ((rowOf_setRow_other _ (by omega)).trans (rowOf_of h.sct))
theorem RDoAt.put2 {s : Nat} {W : World} {r r' : Ref} {st st' : St} {x : ActV} {y : List Int} (h : RDoAt s W r st x) : RDoEnd s ((W.setRow s (r'.row st')).setRow (s + 1 + 1 + 1 + 1) (sec y)) r' st' y := by
  have h4 : 0 < (rowOf (W.setRow s (r'.row st')) (s + 1 + 1 + 1 + 1)).size := by rw [(rowOf_setRow_other _ (by omega)).trans (rowOf_of h.loc), size_sec, length_zeros]; omega
  refine ⟨(rowOf_setRow_other _ (by omega)).trans (rowOf_of (setRow_heap _ _ _ _ _ _ h.box)), (rowOf_setRow_other _ (by omega)).trans ((rowOf_setRow_other _ (by omega)).trans (rowOf_of h.res)), fun c => ?_, rowOf_setRow_same _ h4⟩
  exact (rowOf_setRow_other _ (by omega)).trans ((rowOf_setRow_other _ (by omega)).trans ((rowOf_setRow_other _ (by omega)).trans (rowOf_of h.sct)))
theorem RDoAt.keep {s : Nat} {W : World} {r : Ref} {st : St} {x : ActV} (h : RDoAt s W r st x) : RDoEnd s W r st zeros :=
  ⟨rowOf_of h.box, rowOf_of h.res, fun _ => (rowOf_setRow_other _ (by omega)).trans (rowOf_of h.sct), rowOf_of h.loc⟩
/-- The results' boxes, written. -/
theorem RDoEnd.two {s : Nat} {W : World} {r : Ref} {st : St} {y : List Int} (h : RDoEnd s W r st y) : rowOf ((W.setRow (s + 1 + 1) (r.row st)).setRow (s + 1 + 1 + 1) (sec y)) (s + 1 + 1) = r.row st ∧ rowOf ((W.setRow (s + 1 + 1) (r.row st)).setRow (s + 1 + 1 + 1) (sec y)) (s + 1 + 1 + 1) = sec y :=
  ⟨(rowOf_setRow_other _ (by omega)).trans (rowOf_setRow_same _ (by rw [h.r2, size_zrow]; omega)), rowOf_setRow_same _ (by rw [h.r3, size_sec, length_zeros]; omega)⟩

attribute [local go_sem ↓] alloc_state load_state store_state
attribute [local go_sem] cut_row over_row' over_zrow one_row size_row size_zrow row_0 row_1 row_2 row_3 row_4 row_5 row_6 row_0' row_1' row_2' row_3' row_4' row_5' row_6' set_row2 set_row3 set_row4 set_row5 set_row6

theorem rowOf_drew' {w : World} {g : Nat} {c : Array Value} (h : rowOf w g = c) : rowOf w.drew g = c := h
/-- The blocks of a State are none of Do's boxes. -/
theorem apart_boxes {w W : World} {r r' : Ref} {st : St} (h : RefIn w r st) (hn : Newer W r r') (hW : w.heap.size + 4 < W.heap.size) : ∀ k, r'.own k → k ≠ w.heap.size ∧ k ≠ w.heap.size + 1 + 1 ∧ k ≠ w.heap.size + 1 + 1 + 1 ∧ k ≠ w.heap.size + 1 + 1 + 1 + 1 := by
  intro k hk
  rcases hn k hk with h' | h'
  · have := h.own_lt k h'; omega
  · omega
theorem newer_of {w W : World} {r r' : Ref} (hn : Newer W r r') (hB : w.heap.size ≤ W.heap.size) : Newer w r r' := fun k hk => (hn k hk).imp id (Nat.le_trans hB)
set_option maxRecDepth 20000 in
set_option maxHeartbeats 1000000 in
theorem rdo_flush (w : World) (r : Ref) (st : St) (h : RefIn w r st) (hm : 1 ≤ st.dur.length) (x : ActV) (hx : x.data.length = 64) (hpl : st.pend.length < 1000000) (hk : x.kind = 1) :
    Calls Try.prog 24 #[r.val st, .agg (acells x)] w fun e w' => ∃ r', e = .returned (.tuple #[r'.val st.rflush.1, .agg (sec zeros), .int .i64 st.rflush.2]) ∧ RefIn w' r' st.rflush.1 ∧ Below w.heap.size w w' ∧ Newer w r r' := by
  obtain ⟨a0, a1, a2, a3⟩ := acells_get' x hx
  rw [hk] at a0
  have hcut := cut_acells x hx
  have hz := length_zeros
  have hk' := Lib.hid hk
  clear hk
  obtain ⟨hat, hB⟩ := rdoW_at w r st x
  unfold Ref.val
  go_enter Try.func24, Try.ntmps24
  go_wp2_with fail
  rw [show ((((w.alloc (.cells (r.row st) 55)).alloc (.cells (acells x) 35)).alloc (.cells zrow 55)).alloc (.cells (sec zeros) 23)).alloc (.cells (sec zeros) 23) = rdoW w r st x from rfl]
  generalize rdoW w r st x = W at *
  refine (rflush_any _ r st (h.below hB) hm hpl).mono ?_
  rintro e w1 ⟨r', rfl, hR1, hb1, hn1⟩
  have hap := Lib.hid (apart_boxes h hn1 (lt_of_block hat.loc))
  have hnw := newer_of hn1 hB.size
  have hB1 := hB.trans (hb1.mono hB.size)
  have at1 := hat.below hb1
  generalize hs1 : st.rflush = s1 at *
  obtain ⟨s1, e1⟩ := s1
  have hs1' := Lib.hid hs1
  clear hs1
  unfold Ref.val
  have en := at1.put (r' := r') (st' := s1)
  have q0 := en.r0
  have q2 := en.r2
  have q3 := en.r3
  have q4 := en.r4
  have q5 := en.r5
  have p0 := rowOf_of at1.box
  have hsz := lt_of_block at1.loc
  have f1' := Lib.hid at1.box
  have f2' := Lib.hid at1.res
  have hBf : Below w.heap.size w (w1.setRow w.heap.size (r'.row s1)) := below_setRow hB1 (Nat.le_refl _) _
  clear hat at1 hb1 hB h hB1
  go_wp2_with fail
  go_region
  all_goals go_wp2
  all_goals
    obtain ⟨y1, y2⟩ := en.two
    have hfin := (below_setRow (below_setRow hBf (show w.heap.size ≤ w.heap.size + 1 + 1 by omega) (r'.row s1)) (show w.heap.size ≤ w.heap.size + 1 + 1 + 1 by omega) (sec zeros)).drew
    refine bodyPost_ret (results_cells_tmp rfl ag_state ag_sec _ rfl rfl (rowOf_drew' y1) (size_row _ _) (by omega) (rowOf_drew' y2) (by rw [size_sec]; exact hz) (by omega)) rfl ⟨r', by rw [hs1'.out]; rfl, ?_, hfin, hnw⟩
    rw [hs1'.out]
    refine hR1.same (fun k hk => ?_)
    obtain ⟨k0, k2, k3, k4⟩ := hap.out k hk
    rw [World.drew_heap', setRow_other _ _ _ _ k3, setRow_other _ _ _ _ k2, setRow_other _ _ _ _ k0]
end Go.Proofs.Ytakehkoicinlbaa.dk
