/- The walk of (*disk.Disk).Flush. -/
import Derived.Test.YtlhnhhjpjkgogaaDApply
namespace Go.Proofs.Ytlhnhhjpjkgogaa.dk
open Go.RowKit Go.Proofs.Ytlhnhhjpjkgogaa.agg

def layAll (d : List (List Int)) (l : List (Int × List Int)) : List (List Int) := l.foldl (fun d x => lay d x 64) d
/-- Flush, as a value: the new disk, the error. -/
def St.flush (st : St) : St × Int :=
  if st.call.failed then (st.call, 12) else ({ st.call with dur := layAll st.dur st.pend, pend := [], fl := wrap64 (st.fl + 1) }, 0)

theorem layAll_snoc (d : List (List Int)) (l : List (Int × List Int)) (x : Int × List Int) : layAll d (l ++ [x]) = lay (layAll d l) x 64 := by simp [layAll]
theorem length_lay (d : List (List Int)) (x : Int × List Int) (n : Int) : (lay d x n).length = d.length := by simp [lay]
theorem length_layAll (d : List (List Int)) (l : List (Int × List Int)) : (layAll d l).length = d.length := by
  induction l generalizing d with
  | nil => rfl
  | cons x l ih =>
    show (layAll (lay d x 64) l).length = _
    rw [ih, length_lay]
theorem length_flatP (l : List (Int × List Int)) (h : ∀ x ∈ l, x.2.length = 64) : (flatP l).length = l.length * 65 := by
  induction l with
  | nil => rfl
  | cons x l ih =>
    have h1 := h x (by simp)
    have h2 := ih (fun s hs => h s (by simp [hs]))
    simp only [flatP, List.map_cons, List.flatten_cons, List.length_append, List.length_cons, wcells, length_u8s] at *
    omega
theorem take_snoc' {α : Type} (l : List α) (k : Nat) (h : k < l.length) : l.take (k + 1) = l.take k ++ [l[k]] := by rw [List.take_succ_eq_append_getElem h]
theorem flatP_cut (l : List (Int × List Int)) (h : ∀ x ∈ l, x.2.length = 64) (k : Nat) (hk : k < l.length) (rest : List Value) : cut (flatP l ++ rest).toArray (k * 65) 65 = .agg (wrow l[k].1 l[k].2) := by
  have h1 : (flatP (l.take k)).length = k * 65 := by
    rw [length_flatP _ (fun x hx => h x (List.mem_of_mem_take hx)), List.length_take]
    congr 1
    omega
  have e : flatP l = flatP (l.take k) ++ (wcells l[k] ++ flatP (l.drop (k + 1))) := by
    have e0 : l = l.take k ++ (l[k] :: l.drop (k + 1)) := by rw [← List.drop_eq_getElem_cons hk, List.take_append_drop]
    have e1 : flatP l = flatP (l.take k ++ (l[k] :: l.drop (k + 1))) := congrArg flatP e0
    rw [e1]
    simp only [flatP, List.map_append, List.map_cons, List.flatten_append, List.flatten_cons]
  have h2 : (wcells l[k]).length = 65 := by
    have := h l[k] (List.getElem_mem hk)
    simp [wcells, length_u8s, this]
  unfold cut
  congr 1
  apply Array.ext'
  rw [Array.toList_extract, e, ← h1, wrow_toList]
  simp only [List.append_assoc, List.extract_eq_take_drop]
  rw [List.drop_left]
  rw [show (flatP (l.take k)).length + 65 - (flatP (l.take k)).length = 65 by omega, ← h2, List.take_left]

/-- What is known of the slice of the pending writes. -/
theorem pend_form {w : World} {pv : Value} {l : List (Int × List Int)} (h : w.ownsRow 0 104 65 pv l.length (flatP l)) :
    (pv = .slice none 0 0 ∧ l = []) ∨ ∃ q cap rest, pv = .slice (some ⟨q, 0, none⟩) l.length cap ∧ l.length ≤ cap ∧ rowOf w q = (flatP l ++ rest).toArray ∧ w.heap[q]? = some (.cells (flatP l ++ rest).toArray 104 (0, 0)) := by
  rcases h.2 with ⟨rfl, h0⟩ | ⟨q, cap, cur, rfl, _, hh, hc, _, _, ht⟩
  · exact .inl ⟨rfl, List.eq_nil_of_length_eq_zero h0⟩
  · refine .inr ⟨q, cap, cur.toList.drop (l.length * 65), rfl, hc, ?_, ?_⟩
    · rw [rowOf_of hh, ← ht, List.take_append_drop]
    · rw [hh, ← ht, List.take_append_drop]

/-- The k-th pending write, as the walk reads it. -/
theorem pend_at {w : World} {q cap : Nat} {l : List (Int × List Int)} {n : Nat} (hn : l.length = n) (h : w.ownsRow 0 104 65 (.slice (some ⟨q, 0, none⟩) n cap) n (flatP l)) (hl : ∀ x ∈ l, x.2.length = 64) (k : Nat) (hk : k < l.length) :
    k * 65 + 65 ≤ (rowOf w q).size ∧ cut (rowOf w q) (k * 65) 65 = .agg (wrow l[k].1 l[k].2) ∧ q < w.heap.size := by
  subst hn
  rcases pend_form h with ⟨e, _⟩ | ⟨q', cap', rest, e, _, hr, hh⟩
  · cases e
  · cases e
    refine ⟨?_, ?_, lt_of_block hh⟩
    · rw [hr]
      simp only [List.size_toArray, List.length_append, length_flatP l hl]
      have : k * 65 + 65 ≤ l.length * 65 := by omega
      omega
    · rw [hr]
      exact flatP_cut l hl k hk rest
theorem flush_fail {D g : Nat} {pv : Value} {st : St} (w : World) (h : DiskIn w D g pv st) (hf : st.call.failed = true) :
    Calls Try.prog 42 #[.pointer (some ⟨D, 0, none⟩)] w fun e w' => e = .returned (.int .i64 12) ∧ DiskIn w' D g pv st.call ∧ Kept (foot D g pv) w w' := by
  go_enter Try.func42, Try.ntmps42
  go_wp2_with (go_at_call 62; refine (call_any _ h).mono ?_; rintro e w1 ⟨rfl, hd1, hk1⟩)
  go_ret
  exact ⟨rfl, hd1, hk1⟩

/-- The struct with a count of flushes and no pending writes. -/
theorem flush_end {D g : Nat} {pv : Value} {st : St} {w w' : World} (h : DiskIn w' D g pv st) (hk : Kept (foot D g pv) w w') :
    DiskIn (w'.setCell ⟨D, 1, none⟩ (.slice none 0 0)) D g (.slice none 0 0) { st with pend := [] } ∧ Kept (foot D g pv) w (w'.setCell ⟨D, 1, none⟩ (.slice none 0 0)) := by
  refine ⟨?_, hk.trans (Kept.setCell _ (.inl rfl) _)⟩
  exact
    { blk := by rw [heap_setCell_same _ _ _ _ _ _ h.blk]; simp [dcells]
      dur := by rw [heap_setCell_other _ _ _ _ (fun e => h.ne1 e.symm)]; exact h.dur
      len := h.len
      plen := by simp
      pin := by simp
      pend := World.ownsRow_nil _ _ _ _
      few := h.few
      cap := h.cap
      pne := fun e => absurd rfl e
      ne1 := h.ne1
      ne2 := by simp [Value.ownBlock]
      ne3 := by simp [Value.ownBlock] }
theorem setfl {D g : Nat} {pv : Value} {st : St} {w : World} (h : DiskIn w D g pv st) (v : Int) : DiskIn (w.setCell ⟨D, 6, none⟩ (.int .i64 v)) D g pv { st with fl := v } := by
  refine h.turn ?_ (fun k hk _ => heap_setCell_other w ⟨D, 6, none⟩ k _ hk) rfl rfl
  rw [heap_setCell_same _ _ _ _ _ _ h.blk]
  simp [dcells]

set_option maxHeartbeats 400000 in
theorem flush_nil {D g : Nat} {st : St} (w : World) (h : DiskIn w D g (.slice none 0 0) st) (hf : st.call.failed = false) (hp : st.pend = []) :
    Calls Try.prog 42 #[.pointer (some ⟨D, 0, none⟩)] w fun e w' => e = .returned (.int .i64 0) ∧ DiskIn w' D g (.slice none 0 0) { st.call with dur := layAll st.dur st.pend, pend := [], fl := wrap64 (st.call.fl + 1) } ∧ Kept (foot D g (.slice none 0 0)) w w' := by
  have hp' := Lib.hid hp
  clear hp
  go_enter Try.func42, Try.ntmps42
  go_wp2_with (go_at_call 62; refine (call_any _ h).mono ?_; rintro e w1 ⟨rfl, hd1, hk1⟩; obtain ⟨d0, d1, d2, d3, d4, d5, d6⟩ := hd1.cell; have f1 := hd1.free 1; have f6 := hd1.free 6)
  refine wp_loop_rounds 1 ?_
  rw [rounds_succ]
  go_wp2
  go_ret
  have he := flush_end (setfl hd1 (wrap64 (st.call.fl + 1))) (hk1.trans (Kept.setCell (a := ⟨D, 6, none⟩) w1 (.inl rfl) _))
  refine ⟨rfl, ?_, he.2⟩
  have e2 : layAll st.dur st.pend = st.call.dur := by rw [hp'.out, St.call_dur]; rfl
  rw [e2]
  exact he.1

set_option maxHeartbeats 800000 in
theorem flush_slice {D g q cap : Nat} {st : St} (w : World) (h : DiskIn w D g (.slice (some ⟨q, 0, none⟩) st.pend.length cap) st) (hf : st.call.failed = false) (hpl : st.pend.length < 1000000) :
    Calls Try.prog 42 #[.pointer (some ⟨D, 0, none⟩)] w fun e w' => e = .returned (.int .i64 0) ∧ DiskIn w' D g (.slice none 0 0) { st.call with dur := layAll st.dur st.pend, pend := [], fl := wrap64 (st.call.fl + 1) } ∧ Kept (foot D g (.slice (some ⟨q, 0, none⟩) st.pend.length cap)) w w' := by
  generalize hn : st.pend.length = n at *
  have hn' := Lib.hid hn
  clear hn
  go_enter Try.func42, Try.ntmps42
  go_wp2_with (go_at_call 62; refine (call_any _ h).mono ?_; rintro e w1 ⟨rfl, hd1, hk1⟩; obtain ⟨d0, d1, d2, d3, d4, d5, d6⟩ := hd1.cell; have f1 := hd1.free 1; have f6 := hd1.free 6)
  have hd2 := setfl hd1 (wrap64 (st.call.fl + 1))
  have hk2 := hk1.trans (Kept.setCell (a := ⟨D, 6, none⟩) (F := foot D g (.slice (some ⟨q, 0, none⟩) n cap)) w1 (.inl rfl) (.int .i64 (wrap64 (st.call.fl + 1))))
  clear d0 d1 d2 d3 d4 d5 d6 f1 f6 hk1 hd1
  generalize w1.setCell ⟨D, 6, none⟩ (.int .i64 (wrap64 (st.call.fl + 1))) = w2 at *
  go_loopw [22] (fun i wr => ∃ k : Nat, k ≤ n ∧ i = .int .i64 k ∧ DiskIn wr D g (.slice (some ⟨q, 0, none⟩) n cap) { st.call with dur := layAll st.dur (st.pend.take k), fl := wrap64 (st.call.fl + 1) } ∧ Kept (foot D g (.slice (some ⟨q, 0, none⟩) n cap)) w wr)
    (fun i _ => n - (intOf i).toNat)
  case atStart =>
    refine ⟨0, Nat.zero_le _, rfl, ?_, hk2⟩
    have e : layAll st.dur (st.pend.take 0) = st.call.dur := by rw [St.call_dur]; rfl
    rw [e]
    exact hd2
  case round =>
    obtain ⟨k, hk, rfl, hd, hkp⟩ := hrel
    by_cases hlt : k < n
    · have hlt' : k < st.pend.length := by rw [hn'.out]; exact hlt
      obtain ⟨q1, q2, q3⟩ := pend_at (w := wr) hn'.out (by have := hd.pend; simp only [St.call_pend] at this; rw [hn'.out] at this; exact this) (by have := hd.plen; simpa only [St.call_pend] using this) k hlt'
      have hx := hd.plen st.pend[k] (by simp [St.call_pend])
      have hin := hd.pin st.pend[k] (by simp [St.call_pend])
      have hsn : layAll st.dur (st.pend.take (k + 1)) = lay (layAll st.dur (st.pend.take k)) st.pend[k] 64 := by rw [take_snoc' _ _ hlt', layAll_snoc]
      have hsn' := Lib.hid hsn
      clear hsn
      generalize st.pend[k] = x at *
      have hD := lt_of_block hd.blk
      have hd1 := hd.alloc (.cells (wrow x.1 x.2) 104)
      go_wp2_with (go_at_call 54; refine (apply_any _ hd1 x 64 hx hin).mono ?_; rintro e w3 ⟨rfl, hd3, hk3⟩)
      go_roundw
      case rel => exact ⟨k + 1, by omega, by go_num, by rw [hsn'.out]; exact hd3, (hkp.trans (Kept.alloc wr _)).trans hk3⟩
      case measure => simp [intOf]; omega
    · obtain rfl : k = n := by omega
      have c := hd.cell
      have f1 := hd.free 1
      obtain ⟨d0, d1, d2, d3, d4, d5, d6⟩ := c
      clear d0 d2 d3 d4 d5 d6
      go_wp2
      go_ret
      have he := flush_end hd hkp
      refine ⟨rfl, ?_, he.2⟩
      have e2 : layAll st.dur (st.pend.take k) = layAll st.dur st.pend := by rw [List.take_of_length_le (by rw [hn'.out]; omega)]
      have h1 := he.1
      rw [e2] at h1
      simpa only [hf] using h1
/-- Flush, of whatever disk. -/
theorem flush_any {D g : Nat} {pv : Value} {st : St} (w : World) (h : DiskIn w D g pv st) (hpl : st.pend.length < 1000000) :
    Calls Try.prog 42 #[.pointer (some ⟨D, 0, none⟩)] w fun e w' => e = .returned (.int .i64 st.flush.2) ∧ ∃ pv', DiskIn w' D g pv' st.flush.1 ∧ Kept (foot D g pv) w w' ∧ Fresh w pv pv' := by
  by_cases hf : st.call.failed = true
  · refine (flush_fail w h hf).mono ?_
    rintro e w' ⟨rfl, h1, h2⟩
    have e1 : st.flush = (st.call, 12) := by simp only [St.flush]; rw [if_pos hf]
    rw [e1]
    exact ⟨rfl, pv, h1, h2, fun k hk => .inl hk⟩
  · have hf' : st.call.failed = false := by simpa using hf
    have e1 : st.flush = ({ st.call with dur := layAll st.dur st.pend, pend := [], fl := wrap64 (st.call.fl + 1) }, 0) := by simp only [St.flush]; rw [if_neg hf, St.call_fl]
    rw [e1]
    rcases pend_form h.pend with ⟨rfl, hp⟩ | ⟨q, cap, rest, rfl, _⟩
    · refine (flush_nil w h hf' hp).mono ?_
      rintro e w' ⟨rfl, h1, h2⟩
      exact ⟨rfl, _, h1, h2, fun k hk => by simp [Value.ownBlock] at hk⟩
    · refine (flush_slice w h hf' hpl).mono ?_
      rintro e w' ⟨rfl, h1, h2⟩
      exact ⟨rfl, _, h1, h2, fun k hk => by simp [Value.ownBlock] at hk⟩
end Go.Proofs.Ytlhnhhjpjkgogaa.dk
