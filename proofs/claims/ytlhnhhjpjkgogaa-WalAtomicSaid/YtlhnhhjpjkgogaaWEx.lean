/- The disk of the chapter's examples, step by step: values alone. -/
import Derived.Test.YtlhnhhjpjkgogaaWOpen
import Derived.Test.YtlhnhhjpjkgogaaWAppend
namespace Go.Proofs.Ytlhnhhjpjkgogaa.wl
open Go.RowKit Go.Proofs.Ytlhnhhjpjkgogaa.agg Go.Proofs.Ytlhnhhjpjkgogaa.dk

def ex1 : St := (rootSt (reads (St.new 10) 10) 0 1 0).1
def exA : Lg := ⟨2, 0, 0, 0, 0⟩
def ex2 : St := reads ex1 10
def ex3 : St × Lg × Int := appendLg ex2 exA ⟨#[97]⟩
def ex4 : St × Lg × Int := syncLg ex3.1 ex3.2.1
def ex5 : St := (ex4.1.read 2).1
theorem ex_scan0 : (scan (St.new 10).visible 10).block = -1 ∧ (scan (St.new 10).visible 10).greatest = 0 := by decide +kernel
theorem ex_root : (rootSt (reads (St.new 10) 10) 0 1 0).2 = 0 := by decide +kernel
theorem ex_scan1 : (scan ex1.visible 10).block = 0 ∧ (scan ex1.visible 10).greatest = 1 ∧ (scan ex1.visible 10).area = 0 := by decide +kernel
theorem ex_app : ex3.2.2 = 0 ∧ ex3.2.1.failed = 0 ∧ ex3.2.1.fin = 1 ∧ ex3.2.1.area = 0 := by decide +kernel
theorem ex_syn : ex4.2.2 = 0 := by decide +kernel
theorem ex_read : (ex4.1.read 2).2.2 = 0 ∧ (ex4.1.read 2).2.1 = (⟨2, 0, 3, ⟨#[97]⟩⟩ : Fr).sec := by decide +kernel
theorem ex_scan5 : (scan ex5.visible 10).block = 0 ∧ (scan ex5.visible 10).greatest = 2 ∧ (scan ex5.visible 10).area = 0 := by decide +kernel
def exR (st : St) : Op' := openRun (scan st.visible 10).m (fun i => placeOf st (scan st.visible 10).area i) (sizeOf' st).toNat 0 ⟨[], ((getFr (scan st.visible 10).m (scan st.visible 10).block).getD Fr.none).epoch, ⟨#[]⟩, false, 0⟩
theorem ex_open1 : (exR ex1).recs.length = 0 ∧ (exR ex1).fin = 0 := by decide +kernel
theorem ex_open5 : (exR ex5).recs.map (fun b => b.data.toList) = [[97]] ∧ (exR ex5).fin = 1 := by decide +kernel
theorem ex_len : ex1.dur.length = 10 ∧ ex5.dur.length = 10 ∧ ex1.pend.length = 0 ∧ ex5.pend.length = 0 ∧ ex2.dur.length = 10 ∧ ex2.pend.length = 0 ∧ ex3.1.pend.length ≤ 1 ∧ ex4.1.pend.length = 0 ∧ ex1.failed = false ∧ ex5.failed = false ∧ sizeOf' ex1 = 4 := by decide +kernel
def okSec (s : List Int) : Bool := decide (s.length = 64) && s.all (fun c => decide (0 ≤ c) && decide (c < 256))
theorem isSec_ok {s : List Int} (h : okSec s = true) : IsSec s := by
  simp only [okSec, Bool.and_eq_true, decide_eq_true_eq, List.all_eq_true] at h
  exact ⟨h.1, h.2⟩
theorem ex_secs : ((List.range 10).all fun i => okSec ((St.new 10).visible i)) = true ∧ ((List.range 10).all fun i => okSec (ex1.visible i)) = true ∧ ((List.range 10).all fun i => okSec (ex5.visible i)) = true := by decide +kernel
end Go.Proofs.Ytlhnhhjpjkgogaa.wl
