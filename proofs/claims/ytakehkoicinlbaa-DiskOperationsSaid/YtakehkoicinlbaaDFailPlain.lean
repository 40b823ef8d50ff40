/- A disk that works for some calls yet: plain laws. -/
import Derived.Test.YtakehkoicinlbaaDBegin
namespace Go.Proofs.Ytakehkoicinlbaa.dk
open Go.RowKit Go.Proofs.Ytakehkoicinlbaa.agg

/-- A disk of m sectors that works, and lets k calls pass. -/
structure Works (m : Nat) (k : Int) (st : St) : Prop where
  ok : st.failed = false
  left : st.left = k
  len : st.dur.length = m
theorem works_call {m : Nat} {k : Int} {st : St} (h : Works m (k + 1) st) (h0 : 0 ≤ k) (h1 : k ≤ 1000) : Works m k st.call := by
  have e : st.call = { st with left := wrap64 (st.left - 1) } := by
    unfold St.call
    rw [if_neg (by rw [h.ok]; simp), if_neg (by rw [h.left]; omega), if_pos (by rw [h.left]; omega)]
  rw [e]
  refine ⟨h.ok, ?_, h.len⟩
  show wrap64 (st.left - 1) = k
  rw [h.left]
  rw [show k + 1 - 1 = k by omega]
  unfold wrap64
  omega
theorem works_write {m : Nat} {k : Int} {st : St} (h : Works m (k + 1) st) (h0 : 0 ≤ k) (h1 : k ≤ 1000) {n : Int} (hn : 0 ≤ n ∧ n < m) (data : List Int) :
    (st.write n data).2 = 0 ∧ Works m k (st.write n data).1 ∧ (st.write n data).1.pend.length ≤ st.pend.length + 1 := by
  have hc := works_call h h0 h1
  have e : st.write n data = ({ st.call with pend := st.pend ++ [(n, data)], wr := wrap64 (st.wr + 1) }, 0) := by
    unfold St.write
    rw [if_neg (by rw [h.len]; omega), if_neg (by rw [hc.ok]; simp)]
  rw [e]
  exact ⟨rfl, ⟨hc.ok, hc.left, hc.len⟩, by simp⟩
theorem works_flush {m : Nat} {k : Int} {st : St} (h : Works m (k + 1) st) (h0 : 0 ≤ k) (h1 : k ≤ 1000) :
    st.flush.2 = 0 ∧ Works m k st.flush.1 ∧ st.flush.1.pend.length ≤ st.pend.length + 1 := by
  have hc := works_call h h0 h1
  have e : st.flush = ({ st.call with dur := layAll st.dur st.pend, pend := [], fl := wrap64 (st.fl + 1) }, 0) := by
    unfold St.flush
    rw [if_neg (by rw [hc.ok]; simp)]
  rw [e]
  exact ⟨rfl, ⟨hc.ok, hc.left, by rw [length_layAll]; exact h.len⟩, by simp⟩
theorem crash_works (st : St) (sv : List Int) : Works st.dur.length (-1) (st.crash sv) := ⟨rfl, rfl, length_layCrash _ _ _ _⟩
theorem works_failAfter {m : Nat} {k : Int} {st : St} (h : Works m k st) (n : Int) (hn : 0 ≤ n) : Works m n (st.failAfter n) := by
  unfold St.failAfter
  rw [if_neg (by rw [h.ok]; simp)]
  exact ⟨h.ok, by show max n (-1) = n; omega, h.len⟩
/-- A disk that has failed. -/
structure Failed (m : Nat) (p : List (Int × List Int)) (st : St) : Prop where
  bad : st.failed = true
  len : st.dur.length = m
  pend : st.pend = p
theorem works_range {m : Nat} {st : St} (h : Works m 0 st) (data : List Int) : st.write m data = (st, 2) := by
  unfold St.write
  rw [if_pos (by rw [h.len]; omega)]
theorem works_fail {m : Nat} {st : St} (h : Works m 0 st) (hm : 1 ≤ m) (data : List Int) : (st.write 0 data).2 = 12 ∧ Failed m st.pend (st.write 0 data).1 := by
  have e : st.call = { st with failed := true } := by
    unfold St.call
    rw [if_neg (by rw [h.ok]; simp), if_pos h.left]
  have e2 : st.write 0 data = (st.call, 12) := by
    unfold St.write
    rw [if_neg (by rw [h.len]; omega), if_pos (by rw [e])]
  rw [e2, e]
  exact ⟨rfl, rfl, h.len, rfl⟩
theorem failed_flush {m : Nat} {p : List (Int × List Int)} {st : St} (h : Failed m p st) : st.flush = (st, 12) := by
  have e : st.call = st := by unfold St.call; rw [if_pos h.bad]
  unfold St.flush
  rw [e, if_pos h.bad]
theorem failed_read {m : Nat} {p : List (Int × List Int)} {st : St} (h : Failed m p st) (hm : 1 ≤ m) : st.read 0 = (st, zeros, 12) := by
  unfold St.read
  rw [if_neg (by rw [h.len]; omega), if_pos h.bad]
theorem failed_failAfter {m : Nat} {p : List (Int × List Int)} {st : St} (h : Failed m p st) (n : Int) : st.failAfter n = st := by
  unfold St.failAfter
  rw [if_pos h.bad]
theorem works_read {m : Nat} {k : Int} {st : St} (h : Works m k st) (n : Nat) (hn : n < m) : (st.read n).2 = (st.visible n, 0) ∧ Works m k (st.read n).1 ∧ (st.read n).1.pend = st.pend := by
  have e : st.read n = ({ st with rd := wrap64 (st.rd + 1) }, st.visible n, 0) := by
    unfold St.read
    rw [if_neg (by rw [h.len]; omega), if_neg (by rw [h.ok]; simp)]
  rw [e]
  exact ⟨rfl, ⟨h.ok, h.left, h.len⟩, rfl⟩
theorem works_call_free {m : Nat} {st : St} (h : Works m (-1) st) : st.call = st := by
  unfold St.call
  rw [if_neg (by rw [h.ok]; simp), if_neg (by rw [h.left]; omega), if_neg (by rw [h.left]; omega)]
theorem free_flush {m : Nat} {st : St} (h : Works m (-1) st) : st.flush = ({ st with dur := layAll st.dur st.pend, pend := [], fl := wrap64 (st.fl + 1) }, 0) := by
  unfold St.flush
  rw [works_call_free h, if_neg (by rw [h.ok]; simp)]
theorem free_write {m : Nat} {st : St} (h : Works m (-1) st) {n : Int} (hn : 0 ≤ n ∧ n < m) (data : List Int) : st.write n data = ({ st with pend := st.pend ++ [(n, data)], wr := wrap64 (st.wr + 1) }, 0) := by
  unfold St.write
  rw [works_call_free h, if_neg (by rw [h.len]; omega), if_neg (by rw [h.ok]; simp)]
end Go.Proofs.Ytakehkoicinlbaa.dk
