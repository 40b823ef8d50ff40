/- The disk and the reference answer alike: plain laws. -/
import Derived.Test.YtakehkoicinlbaaRDo
namespace Go.Proofs.Ytakehkoicinlbaa.dk
open Go.RowKit Go.Proofs.Ytakehkoicinlbaa.agg

/-- The State that a disk should agree with. -/
def St.ref (st : St) : St := if st.failed then st.withLeft (-1) else st
theorem ref_dur (st : St) : st.ref.dur = st.dur := by unfold St.ref; split <;> rfl
theorem ref_pend (st : St) : st.ref.pend = st.pend := by unfold St.ref; split <;> rfl
theorem ref_failed (st : St) : st.ref.failed = st.failed := by unfold St.ref; split <;> rfl
theorem ref_rd (st : St) : st.ref.rd = st.rd := by unfold St.ref; split <;> rfl
theorem ref_wr (st : St) : st.ref.wr = st.wr := by unfold St.ref; split <;> rfl
theorem ref_fl (st : St) : st.ref.fl = st.fl := by unfold St.ref; split <;> rfl
theorem ref_id {st : St} (h : st.failed = false) : st.ref = st := by unfold St.ref; rw [h]; rfl
theorem ref_yes {st : St} (h : st.failed = true) : st.ref = st.withLeft (-1) := by unfold St.ref; rw [h]; rfl
theorem ref_visible (st : St) (n : Int) : st.ref.visible n = st.visible n := by unfold St.visible; rw [ref_pend, ref_dur]
theorem ref_rcall (st : St) : st.ref.rcall = st.call.ref := by
  by_cases hf : st.failed = true
  · have e : st.call = st := by unfold St.call; rw [if_pos hf]
    rw [e, ref_yes hf]
    rfl
  · have hf' : st.failed = false := by simpa using hf
    rw [ref_id hf']
    by_cases h0 : st.left = 0
    · have e : st.call = { st with failed := true } := by unfold St.call; rw [if_neg hf, if_pos h0]
      rw [e, ref_yes rfl]
      unfold St.rcall
      rw [if_pos h0]
      rfl
    · by_cases h1 : 0 < st.left
      · have e : st.call = { st with left := wrap64 (st.left - 1) } := by unfold St.call; rw [if_neg hf, if_neg h0, if_pos h1]
        rw [e, ref_id (show ({ st with left := wrap64 (st.left - 1) } : St).failed = false from hf')]
        unfold St.rcall
        rw [if_neg h0, if_pos h1]
      · have e : st.call = st := by unfold St.call; rw [if_neg hf, if_neg h0, if_neg h1]
        rw [e, ref_id hf']
        unfold St.rcall
        rw [if_neg h0, if_neg h1]
theorem lay_none (d : List (List Int)) (x : Wr) : lay d x 0 = d := laid_zero d x
theorem layRef_flush : ∀ (l : List Wr) (d : List (List Int)) (i : Nat), layRef [] 64 d i l = layAll d l
  | [], _, _ => rfl
  | x :: l, d, i => by
    rw [layRef, layRef_flush l]
    simp only [List.length_nil, Nat.not_lt_zero, if_false]
    rfl
theorem layRef_crash (sv : List Int) : ∀ (l : List Wr) (d : List (List Int)) (i : Nat), layRef sv 0 d i l = layCrash sv d i l
  | [], _, _ => rfl
  | x :: l, d, i => by
    rw [layRef, layRef_crash sv l, layCrash]
    by_cases h : i < sv.length
    · rw [if_pos h, if_pos h]
    · rw [if_neg h, if_neg h, lay_none]
theorem ref_rflush (st : St) : st.ref.rflush = (st.flush.1.ref, st.flush.2) := by
  unfold St.rflush St.flush
  rw [ref_rcall, ref_failed]
  by_cases hf : st.call.failed = true
  · rw [if_pos hf, if_pos hf]
  · have hf' : st.call.failed = false := by simpa using hf
    rw [if_neg hf, if_neg hf, ref_id hf']
    show _ = (St.ref _, _)
    rw [ref_id (by exact hf')]
    unfold St.flushed St.rapply St.withFl
    simp only [layRef_flush, St.call_dur, St.call_pend, St.call_fl]
theorem ref_rcrash (st : St) (sv : List Int) : st.ref.rcrash sv = (st.crash sv).ref := by
  rw [ref_id (show (st.crash sv).failed = false from rfl)]
  unfold St.rcrash St.rapply St.withFailed St.withLeft St.crash
  simp only [layRef_crash, ref_dur, ref_pend]
  by_cases hf : st.failed = true
  · rw [ref_yes hf]; rfl
  · rw [ref_id (by simpa using hf)]
theorem ref_read (st : St) (n : Int) : st.ref.read n = ((st.read n).1.ref, (st.read n).2) := by
  unfold St.read
  rw [ref_dur, ref_failed, ref_rd, ref_visible]
  by_cases hn : n < 0 ∨ (st.dur.length : Int) ≤ n
  · rw [if_pos hn, if_pos hn]
  · rw [if_neg hn, if_neg hn]
    by_cases hf : st.failed = true
    · rw [if_pos hf, if_pos hf]
    · have hf' : st.failed = false := by simpa using hf
      rw [if_neg hf, if_neg hf, ref_id hf']
      show _ = (St.ref _, _)
      rw [ref_id (by exact hf')]
theorem ref_failAfter (st : St) (n : Int) : st.ref.failAfter n = (st.failAfter n).ref := by
  unfold St.failAfter
  rw [ref_failed]
  by_cases hf : st.failed = true
  · rw [if_pos hf, if_pos hf]
  · have hf' : st.failed = false := by simpa using hf
    rw [if_neg hf, if_neg hf, ref_id hf', ref_id (by exact hf')]

end Go.Proofs.Ytakehkoicinlbaa.dk
