/- A log on a new disk; the walks of Area and Err. -/
import Derived.Test.YtlhnhhjpjkgogaaWFine
import Derived.Test.YtlhnhhjpjkgogaaWCreate
import Derived.Test.YtlhnhhjpjkgogaaWEx
import Derived.Test.YtlhnhhjpjkgogaaDNew
namespace Go.Proofs.Ytlhnhhjpjkgogaa.wl
open Go.RowKit Go.Proofs.Ytlhnhhjpjkgogaa.agg Go.Proofs.Ytlhnhhjpjkgogaa.dk

set_option maxHeartbeats 400000 in
theorem epochL {w : World} {L D g : Nat} {pv : Value} {st : St} {l : Lg} (h : LogIn w L D g pv st l) :
    Calls Try.prog 27 #[.pointer (some ⟨L, 0, none⟩)] w fun e w' => e = .returned (.int .i64 l.epoch) ∧ w = w' := by
  have c1 := h.cell.2.1
  go_enter Try.func27, Try.ntmps27
  go_wp2
  go_ret
  exact ⟨rfl, rfl⟩
set_option maxHeartbeats 400000 in
theorem areaL {w : World} {L D g : Nat} {pv : Value} {st : St} {l : Lg} (h : LogIn w L D g pv st l) :
    Calls Try.prog 26 #[.pointer (some ⟨L, 0, none⟩)] w fun e w' => e = .returned (.int .i64 l.area) ∧ w = w' := by
  have c1 := h.cell.2.2.2.1
  go_enter Try.func26, Try.ntmps26
  go_wp2
  go_ret
  exact ⟨rfl, rfl⟩
set_option maxHeartbeats 400000 in
theorem errL {w : World} {L D g : Nat} {pv : Value} {st : St} {l : Lg} (h : LogIn w L D g pv st l) :
    Calls Try.prog 29 #[.pointer (some ⟨L, 0, none⟩)] w fun e w' => e = .returned (.int .i64 l.failed) ∧ w = w' := by
  have c1 := h.cell.2.2.2.2.2
  go_enter Try.func29, Try.ntmps29
  go_wp2
  go_ret
  exact ⟨rfl, rfl⟩
theorem zeros_none : (parseFr zeros).2 = false := by decide +kernel
theorem zeros_isSec : IsSec zeros := isSec_ok (by decide +kernel)
theorem new_visible (n i : Nat) (hi : i < n) : (St.new n).visible (i : Nat) = zeros := by
  have := (Fine.new n).vis i (by simpa using hi)
  rw [this, List.getD_eq_getElem?_getD, List.getElem?_replicate, if_pos hi]
  rfl
theorem scan_new (n : Nat) : ∀ k, k ≤ n → scan (St.new n).visible k = Sc.zero
  | 0, _ => rfl
  | k + 1, hk => by
    rw [scan, scan_new n k (by omega), new_visible n k (by omega)]
    unfold Sc.step
    rw [if_neg (by simp [zeros_none])]
/-- The contents behind Create on a new disk. -/
def startX (n : Nat) : List (List Int) := (List.replicate n zeros).set 0 (rootFr 1 0).sec
def startSt (n : Nat) : St := (rootSt (reads (St.new n) n) 0 1 0).1
theorem start_fine (n : Nat) (h8 : 8 ≤ n) : (rootSt (reads (St.new n) n) 0 1 0).2 = 0 ∧ Fine (startX n) (startSt n) ∧ (startSt n).pend = [] :=
  ((Fine.new n).reads n).root 0 (by simp; omega) 1 0
theorem start_walk {w : World} {D g n : Nat} {pv : Value} (h8 : 8 ≤ n) (h : DiskIn w D g pv (St.new n)) : Calls Try.prog 15 #[.pointer (some ⟨D, 0, none⟩)] w (CreateEnd w D g pv (startSt n) ⟨1, 0, 0, 0, 0⟩) := by
  have hn : (St.new n).dur.length = n := by simp [St.new]
  have hs := scan_new n n (Nat.le_refl n)
  have := create_walk h (by rw [hn]; exact h8) rfl (fun i hi => by rw [hn] at hi; rw [new_visible n i hi]; exact zeros_isSec) (by simp [St.new]) (by rw [hn, hs]; decide) (by rw [hn, hs]; decide) (by rw [hn, hs]; exact (start_fine n h8).1)
  rw [hn, hs] at this
  exact this
end Go.Proofs.Ytlhnhhjpjkgogaa.wl
