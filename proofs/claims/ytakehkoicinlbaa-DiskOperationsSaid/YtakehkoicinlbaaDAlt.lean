/- A clone answers as its original: plain laws. -/
import Derived.Test.YtakehkoicinlbaaDComplete
namespace Go.Proofs.Ytakehkoicinlbaa.dk
open Go.RowKit Go.Proofs.Ytakehkoicinlbaa.agg

/-- The same disk in memory with other spare cells. -/
def St.alt (st : St) (c : Nat) (sp : List Value) : St := { st with cap := c, spare := sp }
theorem alt_call (st : St) (c : Nat) (sp : List Value) : (st.alt c sp).call = st.call.alt c sp := by
  unfold St.call
  by_cases h : st.failed = true
  · rw [if_pos h, if_pos (show (st.alt c sp).failed = true from h)]
  · rw [if_neg h, if_neg (show ¬ (st.alt c sp).failed = true from h)]
    by_cases h0 : st.left = 0
    · rw [if_pos h0, if_pos (show (st.alt c sp).left = 0 from h0)]; rfl
    · rw [if_neg h0, if_neg (show ¬ (st.alt c sp).left = 0 from h0)]
      by_cases h1 : 0 < st.left
      · rw [if_pos h1, if_pos (show 0 < (st.alt c sp).left from h1)]; rfl
      · rw [if_neg h1, if_neg (show ¬ 0 < (st.alt c sp).left from h1)]
theorem alt_write (st : St) (c : Nat) (sp : List Value) (n : Int) (data : List Int) : (st.alt c sp).write n data = ((st.write n data).1.alt c sp, (st.write n data).2) := by
  unfold St.write
  rw [alt_call]
  by_cases h : n < 0 ∨ st.dur.length ≤ n
  · rw [if_pos h, if_pos (show n < 0 ∨ (st.alt c sp).dur.length ≤ n from h)]
  · rw [if_neg h, if_neg (show ¬ (n < 0 ∨ (st.alt c sp).dur.length ≤ n) from h)]
    by_cases h1 : st.call.failed = true
    · rw [if_pos h1, if_pos (show (st.call.alt c sp).failed = true from h1)]
    · rw [if_neg h1, if_neg (show ¬ (st.call.alt c sp).failed = true from h1)]; rfl
theorem alt_flush (st : St) (c : Nat) (sp : List Value) : (st.alt c sp).flush = (st.flush.1.alt c sp, st.flush.2) := by
  unfold St.flush
  rw [alt_call]
  by_cases h1 : st.call.failed = true
  · rw [if_pos h1, if_pos (show (st.call.alt c sp).failed = true from h1)]
  · rw [if_neg h1, if_neg (show ¬ (st.call.alt c sp).failed = true from h1)]; rfl
theorem alt_read (st : St) (c : Nat) (sp : List Value) (n : Int) : (st.alt c sp).read n = ((st.read n).1.alt c sp, (st.read n).2) := by
  unfold St.read
  by_cases h : n < 0 ∨ st.dur.length ≤ n
  · rw [if_pos h, if_pos (show n < 0 ∨ (st.alt c sp).dur.length ≤ n from h)]
  · rw [if_neg h, if_neg (show ¬ (n < 0 ∨ (st.alt c sp).dur.length ≤ n) from h)]
    by_cases h1 : st.failed = true
    · rw [if_pos h1, if_pos (show (st.alt c sp).failed = true from h1)]
    · rw [if_neg h1, if_neg (show ¬ (st.alt c sp).failed = true from h1)]; rfl
theorem alt_failAfter (st : St) (c : Nat) (sp : List Value) (n : Int) : (st.alt c sp).failAfter n = (st.failAfter n).alt c sp := by
  unfold St.failAfter
  by_cases h1 : st.failed = true
  · rw [if_pos h1, if_pos (show (st.alt c sp).failed = true from h1)]
  · rw [if_neg h1, if_neg (show ¬ (st.alt c sp).failed = true from h1)]; rfl
theorem alt_doit (st : St) (c : Nat) (sp : List Value) (x : ActV) : (st.alt c sp).doit x = ((st.doit x).1.alt c sp, (st.doit x).2) := by
  unfold St.doit
  rw [alt_write, alt_flush, alt_read, alt_failAfter]
  split
  · rfl
  · split
    · rfl
    · split
      · rfl
      · split
        · rfl
        · split <;> rfl
theorem alt_runAll (c : Nat) (sp : List Value) (l : List ActV) : ∀ st : St, runAll (st.alt c sp) l = (runAll st l).alt c sp := by
  induction l with
  | nil => intro st; rfl
  | cons x l ih =>
    intro st
    show runAll ((st.alt c sp).doit x).1 l = (runAll (st.doit x).1 l).alt c sp
    rw [alt_doit]
    exact ih _
end Go.Proofs.Ytakehkoicinlbaa.dk
