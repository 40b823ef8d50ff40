/- confluentref47.Do, whatever the call, beside the disk's Do. -/
import Derived.Test.YtakehkoicinlbaaRPlain
import Derived.Test.YtakehkoicinlbaaRDoPut
namespace Go.Proofs.Ytakehkoicinlbaa.dk
open Go.RowKit Go.Proofs.Ytakehkoicinlbaa.agg

theorem ref_put (st : St) (n : Int) (data : List Int) : st.ref.put n data = ((st.write n data).1.ref, (st.write n data).2) := by
  unfold St.put St.write
  rw [ref_dur, ref_rcall, ref_failed, ref_pend, ref_wr]
  by_cases hn : n < 0 ∨ (st.dur.length : Int) ≤ n
  · rw [if_pos hn, if_pos hn]
  · rw [if_neg hn, if_neg hn]
    by_cases hf : st.call.failed = true
    · rw [if_pos hf, if_pos hf]
    · have hf' : st.call.failed = false := by simpa using hf
      rw [if_neg hf, if_neg hf, ref_id hf']
      show _ = (St.ref _, _)
      rw [ref_id (by exact hf')]
/-- Do of the reference answers as the disk's Do. -/
theorem rdo_any (w : World) (r : Ref) (st : St) (h : RefIn w r st.ref) (hm : 1 ≤ st.dur.length) (x : ActV) (hx : x.data.length = 64) (hpl : st.pend.length < 1000000) (hs : IntsIn w.heap.size w x.svv x.sv) (hsl : x.sv.length < 1000000) :
    Calls Try.prog 24 #[r.val st.ref, .agg (acells x)] w fun e w' => ∃ r', e = .returned (.tuple #[r'.val (st.doit x).1.ref, .agg (sec (st.doit x).2.1), .int .i64 (st.doit x).2.2]) ∧ RefIn w' r' (st.doit x).1.ref ∧ Below w.heap.size w w' ∧ Newer w r r' := by
  rw [← ref_dur] at hm
  rw [← ref_pend] at hpl
  by_cases h0 : x.kind = 0
  · have e : st.doit x = ((st.write x.sector x.data).1, zeros, (st.write x.sector x.data).2) := by unfold St.doit; rw [if_pos h0]
    rw [e]
    have := rdo_write w r st.ref h x hx hpl h0
    rw [ref_put] at this
    exact this
  by_cases h1 : x.kind = 1
  · have e : st.doit x = (st.flush.1, zeros, st.flush.2) := by unfold St.doit; rw [if_neg h0, if_pos h1]
    rw [e]
    have := rdo_flush w r st.ref h hm x hx hpl h1
    rw [ref_rflush] at this
    exact this
  by_cases h2 : x.kind = 2
  · have e : st.doit x = st.read x.sector := by unfold St.doit; rw [if_neg h0, if_neg h1, if_pos h2]
    rw [e]
    have := rdo_read w r st.ref h x hx hpl h2
    rw [ref_read] at this
    exact this
  by_cases h3 : x.kind = 3
  · have e : st.doit x = (st.crash x.sv, zeros, 0) := by unfold St.doit; rw [if_neg h0, if_neg h1, if_neg h2, if_pos h3]
    rw [e]
    have := rdo_crash w r st.ref h hm x hx hpl hs hsl h3
    rw [ref_rcrash] at this
    exact this
  by_cases h4 : x.kind = 4
  · have e : st.doit x = (st.failAfter x.n, zeros, 0) := by unfold St.doit; rw [if_neg h0, if_neg h1, if_neg h2, if_neg h3, if_pos h4]
    rw [e]
    have := rdo_failAfter w r st.ref h x hx h4
    rw [ref_failAfter] at this
    exact this
  · have e : st.doit x = (st, zeros, 0) := by unfold St.doit; rw [if_neg h0, if_neg h1, if_neg h2, if_neg h3, if_neg h4]
    rw [e]
    exact rdo_other w r st.ref h x hx (by omega)
end Go.Proofs.Ytakehkoicinlbaa.dk
