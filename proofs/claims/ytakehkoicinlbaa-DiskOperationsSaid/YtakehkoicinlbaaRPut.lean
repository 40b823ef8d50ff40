/- The walk of confluentref47.Put. -/
import Derived.Test.YtakehkoicinlbaaRBase
import Derived.Test.YtakehkoicinlbaaRowApp
import Derived.Deep.RegionLaw
import Derived.OwnWalk
namespace Go.Proofs.Ytakehkoicinlbaa.dk
open Go.RowKit Go.Proofs.Ytakehkoicinlbaa.agg

/-- Put, as a value. -/
def St.put (st : St) (n : Int) (data : List Int) : St × Int :=
  if n < 0 ∨ st.dur.length ≤ n then (st, 2)
  else if st.rcall.failed then (st.rcall, 12)
  else ({ st.rcall with pend := st.pend ++ [(n, data)], wr := wrap64 (st.wr + 1) }, 0)

set_option maxHeartbeats 1000000 in
theorem put_range (w : World) (r : Ref) (st : St) (n : Int) (data : List Int) (hn : n < 0 ∨ st.dur.length ≤ n) :
    Calls Try.prog 33 #[r.val st, .int .i64 n, .agg (sec data)] w fun e w' => e = .returned (.tuple #[r.val st, .int .i64 2]) ∧ Below w.heap.size w w' := by
  unfold Ref.val Ref.row
  by_cases h0 : n < 0
  · go_enter Try.func33, Try.ntmps33
    go_wp2_with fail
    exact bodyPost_ret (v := .tuple #[.agg #[.slice r.da st.dur.length r.dc, .slice r.pa st.pend.length r.pc, .int .i64 st.left, .bool st.failed, .int .i64 st.rd, .int .i64 st.wr, .int .i64 st.fl], .int .i64 2]) (by simp [results, Try.results33, go_sem]) rfl ⟨rfl, (heap3 w _ _ _).2.2.2⟩
  · have h1 : (st.dur.length : Int) ≤ n := by omega
    go_enter Try.func33, Try.ntmps33
    go_wp2_with fail
    exact bodyPost_ret (v := .tuple #[.agg #[.slice r.da st.dur.length r.dc, .slice r.pa st.pend.length r.pc, .int .i64 st.left, .bool st.failed, .int .i64 st.rd, .int .i64 st.wr, .int .i64 st.fl], .int .i64 2]) (by simp [results, Try.results33, go_sem]) rfl ⟨rfl, (heap3 w _ _ _).2.2.2⟩

attribute [local go_sem ↓] alloc_state load_state store_state
attribute [local go_sem] cut_row over_row' over_zrow one_row size_row size_zrow row_0 row_1 row_2 row_3 row_4 row_5 row_6 row_0' row_1' row_2' row_3' row_4' row_5' row_6' set_row2 set_row3 set_row4 set_row5 set_row6

set_option maxHeartbeats 1000000 in
theorem put_fail (w : World) (r : Ref) (st : St) (h : RefIn w r st) (n : Nat) (hn : n < st.dur.length) (data : List Int) (hfl : st.rcall.failed = true) :
    Calls Try.prog 33 #[r.val st, .int .i64 n, .agg (sec data)] w fun e w' => e = .returned (.tuple #[r.val st.rcall, .int .i64 12]) ∧ Below w.heap.size w w' := by
  unfold Ref.val
  have hrc := Lib.hid (fun w1 => rcall_any w1 r st)
  unfold Ref.val at hrc
  have hnI : ¬ (st.dur.length : Int) ≤ n := by omega
  obtain ⟨b1, b2, b3, hB⟩ := heap3 w (.cells (r.row st) 55) (.cells (sec data) 23) (.cells zrow 55)
  clear hrc
  go_enter Try.func33, Try.ntmps33
  go_wp2_with fail
  generalize ((w.alloc (.cells (r.row st) 55)).alloc (.cells (sec data) 23)).alloc (.cells zrow 55) = W at *
  refine (rcall_any _ r st).mono ?_
  rintro e w1 ⟨rfl, hb1⟩
  have h1 : RefIn w1 r st.rcall := ((h.below hB).below hb1).turn st.rcall_dur st.rcall_pend
  have d1 := (hb1.block _ (lt_of_block b1)).trans b1
  have d2 := (hb1.block _ (lt_of_block b2)).trans b2
  have d3 := (hb1.block _ (lt_of_block b3)).trans b3
  have hlt3 := lt_of_block d3
  have hB1 := hB.trans (hb1.mono hB.size)
  have hwr := st.rcall_wr
  have hpd := st.rcall_pend
  have hdl := st.rcall_dur
  clear b1 b2 b3 hb1 hB h
  unfold Ref.val
  generalize hsr : st.rcall = sr at *
  have hsr' := Lib.hid hsr
  clear hsr
  have r1 := rowOf_of d1
  have hset := setRow_heap w1 w.heap.size (r.row st) (r.row sr) _ _ d1
  obtain ⟨c0, c1, c2, c3, c4, c5, c6, cf⟩ := row_cells hset
  have r3 : rowOf (w1.setRow w.heap.size (r.row sr)) (w.heap.size + 1 + 1) = zrow := (rowOf_setRow_other _ (by omega)).trans (rowOf_of d3)
  have r0 := rowOf_of hset
  have hwr' := Lib.hid hwr
  have hpd' := Lib.hid hpd
  have hdl' := Lib.hid hdl
  clear hwr hpd hdl
  rw [hfl] at c3
  go_wp2_with fail
  obtain ⟨y1, y2⟩ := rowOf_two (w := w1) (b := w.heap.size) (c := w.heap.size + 1 + 1) (r.row sr) (r.row sr) (by omega) (by rw [r1, size_row]; omega) (by rw [rowOf_of d3, size_zrow]; omega)
  exact bodyPost_ret (results_cell_tmp' rfl ag_state _ rfl y2 (size_row _ _) (by omega)) rfl ⟨by rw [hsr'.out]; rfl, below_setRow (below_setRow hB1 (by omega) _) (by omega) _⟩

def St.pushed (st : St) (n : Int) (data : List Int) : St := { st with pend := st.pend ++ [(n, data)], wr := wrap64 (st.wr + 1) }
def St.more (st : St) (n : Int) (data : List Int) : St := { st with pend := st.pend ++ [(n, data)] }
theorem own_base {w : World} {b c : Nat} {e : TypeId} {size : Nat} {v : Value} {n : Nat} {xs : List Value} (h : w.ownsRow b e size v n xs) (hc : ∀ k, v.ownBlock = some k → c ≤ k) : w.ownsRow c e size v n xs := by
  refine ⟨h.1, ?_⟩
  rcases h.2 with hn | ⟨g, cap, cur, rfl, hg, r⟩
  · exact .inl hn
  · exact .inr ⟨g, cap, cur, rfl, hc g rfl, r⟩
theorem put_ref {w wc : World} {r : Ref} {st sr : St} {B : Nat} {ao : Option Addr} {cc : Nat} {n : Nat} {data : List Int} (h : RefIn w r st) (hb : Below w.heap.size w wc)
    (ho : wc.ownsRow B 46 65 (.slice ao (st.pend.length + 1) cc) (st.pend.length + 1) (flatP st.pend ++ (wrow (n : Int) data).toList)) (hd : data.length = 64) (hn : n < st.dur.length) (hp : sr.pend = st.pend) (hdur : sr.dur = st.dur) :
    RefIn wc ⟨r.da, r.dc, ao, cc⟩ (sr.pushed (n : Int) data) := by
  have h2 := h.below hb
  have e1 : (sr.pushed (n : Int) data).dur = st.dur := hdur
  have e2 : (sr.pushed (n : Int) data).pend = st.pend ++ [((n : Int), data)] := by unfold St.pushed; rw [hp]
  refine ⟨by rw [e1]; exact h2.dur, ?_, by rw [e1]; exact h2.len, ?_, ?_, by rw [e1]; exact h2.few⟩
  · rw [e2, flatP_snoc, List.length_append]
    exact own_base ho (fun k _ => Nat.zero_le _)
  · rw [e2]
    intro x hx
    rcases List.mem_append.1 hx with hx | hx
    · exact h.plen x hx
    · rw [List.mem_singleton.1 hx]; exact hd
  · rw [e1, e2]
    intro x hx
    rcases List.mem_append.1 hx with hx | hx
    · exact h.pin x hx
    · rw [List.mem_singleton.1 hx]; exact ⟨by omega, by simpa using hn⟩
set_option maxRecDepth 20000 in
set_option maxHeartbeats 4000000 in
theorem put_ok (w : World) (r : Ref) (st : St) (h : RefIn w r st) (n : Nat) (hn : n < st.dur.length) (data : List Int) (hd : data.length = 64) (hpl : st.pend.length < 1000000) (hfl : st.rcall.failed = false) :
    Calls Try.prog 33 #[r.val st, .int .i64 n, .agg (sec data)] w fun e w' => ∃ r', e = .returned (.tuple #[r'.val (st.rcall.pushed n data), .int .i64 0]) ∧ RefIn w' r' (st.rcall.pushed n data) ∧ Below w.heap.size w w' ∧ Newer w r r' := by
  unfold Ref.val
  have hrc := Lib.hid (fun w1 => rcall_any w1 r st)
  unfold Ref.val at hrc
  have hnI : ¬ (st.dur.length : Int) ≤ n := by omega
  obtain ⟨b1, b2, b3, hB⟩ := heap3 w (.cells (r.row st) 55) (.cells (sec data) 23) (.cells zrow 55)
  clear hrc
  go_enter Try.func33, Try.ntmps33
  go_wp2_with fail
  generalize ((w.alloc (.cells (r.row st) 55)).alloc (.cells (sec data) 23)).alloc (.cells zrow 55) = W at *
  refine (rcall_any _ r st).mono ?_
  rintro e w1 ⟨rfl, hb1⟩
  have h1 : RefIn w1 r st.rcall := ((h.below hB).below hb1).turn st.rcall_dur st.rcall_pend
  have d1 := (hb1.block _ (lt_of_block b1)).trans b1
  have d2 := (hb1.block _ (lt_of_block b2)).trans b2
  have d3 := (hb1.block _ (lt_of_block b3)).trans b3
  have hlt3 := lt_of_block d3
  have hB1 := hB.trans (hb1.mono hB.size)
  have hwr := st.rcall_wr
  have hpd := st.rcall_pend
  have hdl := st.rcall_dur
  clear b1 b2 b3 hb1 hB
  unfold Ref.val
  generalize hsr : st.rcall = sr at *
  have hsr' := Lib.hid hsr
  clear hsr
  have r1 := rowOf_of d1
  have hset := setRow_heap w1 w.heap.size (r.row st) (r.row sr) _ _ d1
  obtain ⟨c0, c1, c2, c3, c4, c5, c6, cf⟩ := row_cells hset
  have r3 : rowOf (w1.setRow w.heap.size (r.row sr)) (w.heap.size + 1 + 1) = zrow := (rowOf_setRow_other _ (by omega)).trans (rowOf_of d3)
  have r0 := rowOf_of hset
  have hwr' := Lib.hid hwr
  have hpd' := Lib.hid hpd
  have hdl' := Lib.hid hdl
  clear hwr hpd hdl
  rw [hfl] at c3
  rw [hpd'.out] at c1
  have hB2 : Below w.heap.size w (w1.setRow w.heap.size (r.row sr)) := below_setRow hB1 (Nat.le_refl _) _
  have hpend2 := (h.below hB2).pend
  have e2 : (w1.setRow w.heap.size (r.row sr)).heap[w.heap.size + 1]? = some (.cells (sec data) 23 (0, 0)) := (setRow_other _ _ _ _ (by omega)).trans d2
  have e3 : (w1.setRow w.heap.size (r.row sr)).heap[w.heap.size + 1 + 1]? = some (.cells zrow 55 (0, 0)) := (setRow_other _ _ _ _ (by omega)).trans d3
  have q2 := rowOf_of e2
  go_wp2_with fail
  obtain ⟨i0, hi, hz0, hz1, hz2⟩ := info_parts info_w47
  have hs1 : w.heap.size < (w1.setRow w.heap.size (r.row sr)).heap.size := lt_of_block hset
  have hs2 : w.heap.size + 1 < (w1.setRow w.heap.size (r.row sr)).heap.size := lt_of_block e2
  have hs3 : w.heap.size + 1 + 1 < (w1.setRow w.heap.size (r.row sr)).heap.size := lt_of_block e3
  have hset' := Lib.hid hset
  have hpend2' := Lib.hid hpend2
  have e3' := Lib.hid e3
  have h' := Lib.hid h
  have hB1' := Lib.hid hB1
  have hB2' := Lib.hid hB2
  have h1p := h.plen
  have cf1 := cf 1
  have hwn : (wrow (n : Int) data).size = 65 := by rw [size_wrow, hd]
  clear hset hpend2 e3 e2 d1 d2 d3 r1 r3 h hB1 hB2 h1 hlt3 cf c0 c2 c3 c4 c5 c6
  generalize w1.setRow w.heap.size (r.row sr) = W2 at *
  go_region_law (first
    | (refine step_append_row rfl (.tmp 23) (.tmp 25) 41 rfl _ 46 i0 _ 65 72 Try.underlying41 hi hz0 hz1 hz2 (by decide) _ 0 [] rfl (.inl ⟨rfl, rfl, .inr ⟨_, rfl⟩⟩) 0 _ st.pend.length (flatP st.pend) rfl (own_below hpend2'.out (by repeat (first | exact Below.refl _ _ | apply bl_drew | apply bl_alloc)) (Nat.le_refl _)) (one_flatP _) (by unfold maxLen; omega) (by omega) (Nat.le_refl _) ?_; intro ao1 cc1 wa hrow1 hba; (simp only [Nat.zero_add, List.nil_append] at hrow1); have hwa : Below W2.heap.size W2 wa := Below.trans (by repeat (first | exact Below.refl _ _ | apply bl_drew | apply bl_alloc)) (hba.mono (by first | (simp; done) | (simp; omega))); have q2a := (rowOf_block (hwa.block _ hs2)).trans q2; have hwas := hwa.size; have hs2a := Nat.lt_of_lt_of_le hs2 hwas)
    | (refine step_append_row rfl (.tmp 26) (.tmp 30) 41 rfl _ 46 i0 _ 65 72 Try.underlying41 hi hz0 hz1 hz2 (by decide) _ _ _ rfl (hrow1.below (by repeat (first | exact Below.refl _ _ | apply bl_drew | apply bl_alloc))) 0 _ 1 (wrow (n : Int) data).toList rfl (by first | exact own_newk _ _ _ _ hwn _ (by simp) | exact own_below (own_drew (own_newk _ _ _ _ hwn _ (by simp))) hba (Nat.le_refl _) | exact own_below (own_drew (own_below (own_newk _ _ _ _ hwn _ (by simp)) (bl_alloc (Below.refl _ _) _) (Nat.le_refl _))) hba (Nat.le_refl _)) (by have := one_wrow (n : Int) data; simpa only [oneCells, List.all_eq_true] using this) (by unfold maxLen; omega) (by omega) (by have q := hba.size; simp at q ⊢; omega) ?_; intro ao2 cc2 wb hrow2 hbb; have hwb : Below W2.heap.size W2 wb := Below.trans (Below.trans hwa (by repeat (first | exact Below.refl _ _ | exact (Below.refl _ _).mono hwas | apply Below.drew | (refine Below.alloc ?_ (by first | exact hwas | (simp; omega)) _)))) (hbb.mono (by first | (simp; done) | (simp; omega))); have c1b := (hwb.cell (p := ⟨w.heap.size, 1, none⟩) hs1).trans c1; have f1b := (hwb.frozen (p := ⟨w.heap.size, 1, none⟩) hs1).trans cf1))
  all_goals
    have hx : wb.heap[w.heap.size]? = some (.cells (r.row sr) 55 (0, 0)) := (hwb.block _ hs1).trans hset'.out
    have hx3 : wb.heap[w.heap.size + 1 + 1]? = some (.cells zrow 55 (0, 0)) := (hwb.block _ hs3).trans e3'.out
    have hy : (wb.setCell ⟨w.heap.size, 1, none⟩ (.slice ao2 (st.pend.length + 1) cc2)).heap[w.heap.size]? = some (.cells (Ref.row ⟨r.da, r.dc, ao2, cc2⟩ (sr.more (n : Int) data)) 55 (0, 0)) := by
      rw [heap_setCell_same _ _ _ _ _ _ hx]
      unfold Ref.row St.more
      simp only [List.length_append, List.length_cons, List.length_nil, Nat.zero_add, hpd'.out]
      rfl
    have hy3 : (wb.setCell ⟨w.heap.size, 1, none⟩ (.slice ao2 (st.pend.length + 1) cc2)).heap[w.heap.size + 1 + 1]? = some (.cells zrow 55 (0, 0)) := (heap_setCell_other _ _ _ _ (by simp; omega)).trans hx3
    have ho := hrow2.owns (by omega)
    have ho2 : (wb.setCell ⟨w.heap.size, 1, none⟩ (.slice ao2 (st.pend.length + 1) cc2)).ownsRow W2.heap.size 46 65 (.slice ao2 (st.pend.length + 1) cc2) (st.pend.length + 1) (flatP st.pend ++ (wrow (n : Int) data).toList) := by
      refine own_base (ownsRow_same ho (fun k hk => ?_)) (fun k hk => ?_)
      · have := (ho.lt k hk).1
        simp at this
        exact heap_setCell_other _ _ _ _ (by simp; omega)
      · have := (ho.lt k hk).1
        simp at this
        omega
    have hbc : Below w.heap.size w (wb.setCell ⟨w.heap.size, 1, none⟩ (.slice ao2 (st.pend.length + 1) cc2)) := (hB2'.out.trans (hwb.mono (Nat.le_of_lt hs1))).setCell (Nat.le_refl _) _
    generalize wb.setCell ⟨w.heap.size, 1, none⟩ (.slice ao2 (st.pend.length + 1) cc2) = wc at *
    have c5 : wc.cell? ⟨w.heap.size, 5, none⟩ = some (.int .i64 st.wr) := by rw [← hwr'.out]; exact (row_cells hy).2.2.2.2.2.1
    have cf5 := (row_cells hy).2.2.2.2.2.2.2 5
    have z1 : rowOf (wc.setCell ⟨w.heap.size, 5, none⟩ (.int .i64 (wrap64 (st.wr + 1)))) w.heap.size = Ref.row ⟨r.da, r.dc, ao2, cc2⟩ (sr.pushed (n : Int) data) := by
      rw [rowOf_of (heap_setCell_same _ _ _ _ _ _ hy), ← hwr'.out, St.pushed, hpd'.out]
      unfold Ref.row St.more
      rw [hpd'.out]
      rfl
    have z2 : rowOf (wc.setCell ⟨w.heap.size, 5, none⟩ (.int .i64 (wrap64 (st.wr + 1)))) (w.heap.size + 1 + 1) = zrow := (rowOf_setCell_other _ (by simp; omega)).trans (rowOf_of hy3)
    have hR : RefIn wc ⟨r.da, r.dc, ao2, cc2⟩ (sr.pushed (n : Int) data) := put_ref h'.out hbc ho2 hd hn hpd'.out hdl'.out
    have hnew := Lib.hid (fun k (hk : (Value.slice ao2 (st.pend.length + 1) cc2).ownBlock = some k) => show w.heap.size ≤ k from by have := (ho2.lt k hk).1; omega)
    have hy' := Lib.hid hy
    have hy3' := Lib.hid hy3
    clear hrow1 hrow2 hba hbb hwa hwb hx hx3 ho ho2 hy hy3 q2a hwas hs2a c1b f1b r0 q2
    go_wp2
    have hro := rowOf_setRow_same (w := wc.setCell ⟨w.heap.size, 5, none⟩ (.int .i64 (wrap64 (st.wr + 1)))) (g := w.heap.size + 1 + 1) (Ref.row ⟨r.da, r.dc, ao2, cc2⟩ (sr.pushed (n : Int) data)) (by rw [z2, size_zrow]; omega)
    refine bodyPost_ret (results_cell_tmp' rfl ag_state _ rfl hro (size_row _ _) (by omega)) rfl ⟨⟨r.da, r.dc, ao2, cc2⟩, by rw [hsr'.out]; rfl, ?_, below_setRow (hbc.setCell (Nat.le_refl _) _) (by omega) _, ?_⟩
    case' refine_2 =>
      rintro k (⟨o, t, e⟩ | ⟨o, t, e⟩)
      · exact .inl (.inl ⟨o, t, e⟩)
      · exact .inr (hnew.out k (by simp only at e; rw [e]; rfl))
    rw [hsr'.out]
    refine hR.other hy'.out hy3'.out (fun k h1 h2 => ?_)
    rw [setRow_other _ _ _ _ h2, heap_setCell_other _ _ _ _ h1]

theorem put_any (w : World) (r : Ref) (st : St) (h : RefIn w r st) (n : Int) (data : List Int) (hd : data.length = 64) (hpl : st.pend.length < 1000000) :
    Calls Try.prog 33 #[r.val st, .int .i64 n, .agg (sec data)] w fun e w' => ∃ r', e = .returned (.tuple #[r'.val (st.put n data).1, .int .i64 (st.put n data).2]) ∧ RefIn w' r' (st.put n data).1 ∧ Below w.heap.size w w' ∧ Newer w r r' := by
  unfold St.put
  by_cases hn : n < 0 ∨ (st.dur.length : Int) ≤ n
  · rw [if_pos hn]
    refine (put_range w r st n data hn).mono ?_
    rintro e w' ⟨rfl, hb⟩
    exact ⟨r, rfl, h.below hb, hb, Newer.refl _ _⟩
  · rw [if_neg hn]
    obtain ⟨k, rfl⟩ := Int.eq_ofNat_of_zero_le (show 0 ≤ n by omega)
    by_cases hf : st.rcall.failed = true
    · rw [if_pos hf]
      refine (put_fail w r st h k (by omega) data hf).mono ?_
      rintro e w' ⟨rfl, hb⟩
      exact ⟨r, rfl, (h.turn st.rcall_dur st.rcall_pend).below hb, hb, Newer.refl _ _⟩
    · rw [if_neg hf]
      have e : ({ st.rcall with pend := st.pend ++ [((k : Int), data)], wr := wrap64 (st.wr + 1) } : St) = st.rcall.pushed k data := by unfold St.pushed; rw [st.rcall_pend, st.rcall_wr]
      rw [e]
      exact put_ok w r st h k (by omega) data hd hpl (by simpa using hf)
end Go.Proofs.Ytakehkoicinlbaa.dk
