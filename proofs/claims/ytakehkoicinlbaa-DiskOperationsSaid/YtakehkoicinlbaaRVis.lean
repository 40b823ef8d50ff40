/- The walk of confluentref47.Visible. -/
import Derived.Test.YtakehkoicinlbaaRBase
namespace Go.Proofs.Ytakehkoicinlbaa.dk
open Go.RowKit Go.Proofs.Ytakehkoicinlbaa.agg

/-- What is seen of a sector behind the first k pending writes. -/
def St.seen (st : St) (k : Nat) (n : Int) : List Int := match lastTo (st.pend.take k) n with
  | some x => x.2
  | none => st.dur.getD n.toNat []
theorem seen_zero (st : St) (n : Int) : st.seen 0 n = st.dur.getD n.toNat [] := rfl
theorem seen_all (st : St) (n : Int) : st.seen st.pend.length n = st.visible n := by unfold St.seen St.visible; rw [List.take_length]; rfl
theorem seen_step (st : St) (k : Nat) (n : Int) (h : k < st.pend.length) : st.seen (k + 1) n = if st.pend[k].1 = n then st.pend[k].2 else st.seen k n := by
  unfold St.seen lastTo
  rw [take_snoc' _ k h, List.reverse_append, List.reverse_singleton, List.singleton_append, List.find?_cons]
  by_cases e : st.pend[k].1 = n
  · simp [e]
  · have : (st.pend[k].1 == n) = false := by simpa using e
    rw [this, if_neg e]
theorem seen_len {w : World} {r : Ref} {st : St} (h : RefIn w r st) (n : Nat) (hn : n < st.dur.length) (k : Nat) : (st.seen k n).length = 64 := by
  unfold St.seen
  split
  · rename_i y hy
    exact h.plen y (List.mem_of_mem_take (List.mem_reverse.1 (List.mem_of_find?_eq_some hy)))
  · rw [Int.toNat_natCast, List.getD_eq_getElem?_getD, List.getElem?_eq_getElem hn]
    exact h.len _ (List.getElem_mem _)

set_option maxHeartbeats 1000000 in
theorem rvis_walk (w : World) (r : Ref) (st : St) (h : RefIn w r st) (n : Nat) (hn : n < st.dur.length) (hpl : st.pend.length < 1000000) :
    Calls Try.prog 38 #[.agg #[.slice r.da st.dur.length r.dc, .slice r.pa st.pend.length r.pc, .int .i64 st.left, .bool st.failed, .int .i64 st.rd, .int .i64 st.wr, .int .i64 st.fl], .int .i64 n] w fun e w' =>
      e = .returned (.agg (sec (st.visible n))) ∧ Below w.heap.size w w' := by
  obtain ⟨g, hda, _, hgl, hgc⟩ := own_cells h.dur (by omega)
  rw [hda]
  have hfew := h.few
  have hx64 : (st.dur.getD n []).length = 64 := by rw [List.getD_eq_getElem?_getD, List.getElem?_eq_getElem hn]; exact h.len _ (List.getElem_mem _)
  have hck : ∀ j u, (sec (st.dur.getD n [])).toList[j]? = some u → w.cell? ⟨g, n * 64 + j, none⟩ = some u := fun j u hu => by
    have hj : j < 64 := by
      have h1 := (List.getElem?_eq_some_iff.1 hu).1
      rw [Array.length_toList, size_sec, hx64] at h1
      exact h1
    refine hgc _ _ ?_
    rw [flatD_get st.dur n hn h.len j hj, ← hu, Array.getElem?_toList, sec_get _ j (by omega)]
  have hsz := length_zeros
  have h0 := Lib.hid (seen_zero st n)
  rw [Int.toNat_natCast] at h0
  generalize st.dur.getD n [] = x at *
  have hwB : Below w.heap.size w ((w.alloc (.cells #[.slice (some ⟨g, 0, none⟩) st.dur.length r.dc, .slice r.pa st.pend.length r.pc, .int .i64 st.left, .bool st.failed, .int .i64 st.rd, .int .i64 st.wr, .int .i64 st.fl] 55)).alloc (.cells (sec zeros) 23)) :=
    ((Below.refl _ w).alloc (Nat.le_refl _) _).alloc (by simp) _
  have hck' : ∀ j u, (sec x).toList[j]? = some u → ((w.alloc (.cells #[.slice (some ⟨g, 0, none⟩) st.dur.length r.dc, .slice r.pa st.pend.length r.pc, .int .i64 st.left, .bool st.failed, .int .i64 st.rd, .int .i64 st.wr, .int .i64 st.fl] 55)).alloc (.cells (sec zeros) 23)).cell? ⟨g, n * 64 + j, none⟩ = some u := fun j u hu => by
    rw [hwB.cell (p := ⟨g, n * 64 + j, none⟩) hgl]; exact hck j u hu
  clear hck
  go_enter Try.func38, Try.ntmps38
  go_wp2_with (with_reducible refine wpList_load_cells ag_sec rfl (.tmp 10) rfl g (n * 64) rfl (sec x) (by rw [size_sec, hx64]) hck' ?_)
  have hW : ∃ W, W = ((w.alloc (.cells #[.slice (some ⟨g, 0, none⟩) st.dur.length r.dc, .slice r.pa st.pend.length r.pc, .int .i64 st.left, .bool st.failed, .int .i64 st.rd, .int .i64 st.wr, .int .i64 st.fl] 55)).alloc (.cells (sec zeros) 23)).alloc (.cells (sec x) 23) := ⟨_, rfl⟩
  obtain ⟨W, hW⟩ := hW
  have hWB : Below w.heap.size w W := by rw [hW]; exact hwB.alloc (by simp; omega) _
  have hbox : W.heap[w.heap.size]? = some (.cells #[.slice (some ⟨g, 0, none⟩) st.dur.length r.dc, .slice r.pa st.pend.length r.pc, .int .i64 st.left, .bool st.failed, .int .i64 st.rd, .int .i64 st.wr, .int .i64 st.fl] 55 (0, 0)) := by
    rw [hW, Below.heap_alloc _ _ _ (by simp; omega), Below.heap_alloc _ _ _ (by simp), heap_alloc_new]
  have hres : W.heap[w.heap.size + 1]? = some (.cells (sec zeros) 23 (0, 0)) := by
    rw [hW, Below.heap_alloc _ _ _ (by simp), heap_alloc2_new]
  have hout : W.heap[w.heap.size + 2]? = some (.cells (sec x) 23 (0, 0)) := by
    have := heap_alloc_new ((w.alloc (.cells #[.slice (some ⟨g, 0, none⟩) st.dur.length r.dc, .slice r.pa st.pend.length r.pc, .int .i64 st.left, .bool st.failed, .int .i64 st.rd, .int .i64 st.wr, .int .i64 st.fl] 55)).alloc (.cells (sec zeros) 23)) (.cells (sec x) 23)
    rw [hW]; simpa using this
  rw [← hW]
  have hseen := Lib.hid (fun k => seen_len h n hn k)
  have hstep := Lib.hid (seen_step st · (n : Int))
  have hall := Lib.hid (seen_all st n)
  have hpend := h.pend
  have hplen := h.plen
  have hge : w.heap.size < w.heap.size + 1 ∧ w.heap.size < w.heap.size + 2 ∧ w.heap.size + 1 ≠ w.heap.size + 2 := by omega
  clear hW hwB hck' hgc h hfew hda hgl hx64
  rw [← h0.out] at hout
  clear h0
  generalize w.heap.size + 2 = ob at *
  generalize w.heap.size + 1 = rs at *
  go_loopw [6] (fun i wr => ∃ k : Nat, k ≤ st.pend.length ∧ i = .int .i64 k ∧ wr.heap[w.heap.size]? = some (.cells #[.slice (some ⟨g, 0, none⟩) st.dur.length r.dc, .slice r.pa st.pend.length r.pc, .int .i64 st.left, .bool st.failed, .int .i64 st.rd, .int .i64 st.wr, .int .i64 st.fl] 55 (0, 0)) ∧ wr.heap[rs]? = some (.cells (sec zeros) 23 (0, 0)) ∧ wr.heap[ob]? = some (.cells (sec (st.seen k n)) 23 (0, 0)) ∧ Below w.heap.size w wr)
    (fun i _ => st.pend.length - (intOf i).toNat)
  case atStart => exact ⟨0, Nat.zero_le _, rfl, hbox, hres, hout, hWB⟩
  case round =>
    obtain ⟨k, hk, rfl, hbox, hres, hout, hB⟩ := hrel
    have c1 : wr.cell? ⟨w.heap.size, 1, none⟩ = some (.slice r.pa st.pend.length r.pc) := by simp [World.cell?, hbox]
    have ro := rowOf_of hout
    by_cases hlt : k < st.pend.length
    · obtain ⟨q, hpa, _, hql, hqc⟩ := writes_cells hpend hplen k hlt
      have hs := hstep.out k hlt
      have hl1 := hseen.out k
      have hl2 := hplen _ (List.getElem_mem hlt)
      rw [hpa] at c1
      clear hpa
      have hqc' : ∀ j u, (wrow st.pend[k].1 st.pend[k].2).toList[j]? = some u → wr.cell? ⟨q, k * 65 + j, none⟩ = some u := fun j u hu => (hB.cell (p := ⟨q, k * 65 + j, none⟩) hql).trans (hqc j u hu)
      have e0 := hqc' 0 _ (by rw [Array.getElem?_toList]; exact wrow_zero _ _)
      have e1 : ∀ j u, (sec st.pend[k].2).toList[j]? = some u → wr.cell? ⟨q, k * 65 + 1 + j, none⟩ = some u := fun j u hu => by
        have hj : j < 64 := by
          have h1 := (List.getElem?_eq_some_iff.1 hu).1
          rw [Array.length_toList, size_sec, hl2] at h1
          exact h1
        rw [Nat.add_assoc]
        refine hqc' _ _ ?_
        rw [wrow_byte _ _ hl2 j hj, ← hu, Array.getElem?_toList, sec_get _ j (by omega)]
      have hob := lt_of_block hout
      clear hqc hqc' hall hseen hstep
      generalize st.pend[k] = y at *
      by_cases he : y.1 = n
      · rw [if_pos he] at hs
        rw [he] at e0
        have hs' := Lib.hid hs
        clear hs he
        rw [Nat.add_zero] at e0
        generalize st.seen k n = old at *
        go_wp2_with (with_reducible refine wpList_load_cells ag_sec rfl (.tmp 31) rfl q (k * 65 + 1) rfl (sec y.2) (by rw [size_sec, hl2]) e1 ?_)
        go_roundw
        case rel =>
          refine ⟨k + 1, by omega, by go_num, ?_, ?_, ?_, ?_⟩
          · rw [setRow_other _ _ _ _ (by omega)]; exact hbox
          · rw [setRow_other _ _ _ _ (by omega)]; exact hres
          · rw [hs'.out]; exact setRow_heap _ _ _ _ _ _ hout
          · exact below_setRow hB (by omega) _
        case measure => simp [intOf]; omega
      · rw [if_neg he] at hs
        have hb : (y.1 == (n : Int)) = false := by simpa using he
        have hs' := Lib.hid hs
        clear hs he e1
        rw [Nat.add_zero] at e0
        go_wp2
        go_roundw
        case rel => exact ⟨k + 1, by omega, by go_num, hbox, hres, by rw [hs'.out]; exact hout, hB⟩
        case measure => simp [intOf]; omega
    · obtain rfl : k = st.pend.length := by omega
      have hlen := hseen.out st.pend.length
      rw [hall.out] at *
      have r2 := rowOf_of hres
      have hrl := lt_of_block hres
      clear hseen hstep hall
      go_wp2
      have hro := rowOf_of (setRow_heap wr rs _ (sec (st.visible n)) _ _ hres)
      exact bodyPost_ret (results_cell rfl ag_sec _ rfl hro (by rw [size_sec]; exact hlen) (by omega)) rfl ⟨rfl, below_setRow hB (by omega) _⟩
theorem rvis_any (w : World) (r : Ref) (st : St) (h : RefIn w r st) (n : Nat) (hn : n < st.dur.length) (hpl : st.pend.length < 1000000) :
    Calls Try.prog 38 #[r.val st, .int .i64 n] w fun e w' => e = .returned (.agg (sec (st.visible n))) ∧ Below w.heap.size w w' := rvis_walk w r st h n hn hpl
end Go.Proofs.Ytakehkoicinlbaa.dk
