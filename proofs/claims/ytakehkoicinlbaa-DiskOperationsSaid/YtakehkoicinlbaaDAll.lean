/- The walk of confluentlaw47.All: a sector of equal bytes. -/
import Derived.Test.YtakehkoicinlbaaDBase
namespace Go.Proofs.Ytakehkoicinlbaa.dk
open Go.RowKit Go.Proofs.Ytakehkoicinlbaa.agg

def fill64 (b : Int) : List Int := List.replicate 64 b
@[go_sem] theorem length_fill64 (b : Int) : (fill64 b).length = 64 := by simp [fill64]
def part64 (b : Int) (k : Nat) : List Int := List.replicate k b ++ List.replicate (64 - k) 0
theorem part64_set (b : Int) (k : Nat) (h : k < 64) : (sec (part64 b k)).setIfInBounds k (.int .u8 b) = sec (part64 b (k + 1)) := by
  apply Array.ext'
  simp only [sec, u8s, part64, Array.toList_setIfInBounds, List.map_append, List.map_replicate]
  apply List.ext_getElem?
  intro j
  simp only [List.getElem?_set, List.getElem?_append, List.getElem?_replicate, List.length_append, List.length_replicate]
  by_cases h1 : k = j
  · subst h1; simp; omega
  · by_cases h2 : j < k
    · have : j < k + 1 := by omega
      simp [h1, h2, this]
    · have : ¬ j < k + 1 := by omega
      simp only [h1, if_false, h2, this]
      by_cases h3 : j < 64
      · rw [if_pos (by omega), if_pos (by omega)]
      · rw [if_neg (by omega), if_neg (by omega)]
theorem part64_len (b : Int) (k : Nat) (h : k ≤ 64) : (part64 b k).length = 64 := by simp [part64]; omega

set_option maxHeartbeats 400000 in
theorem all_calls (b : Int) (w : World) :
    Calls Try.prog 27 #[.int .u8 b] w fun e w' => e = .returned (.agg (sec (fill64 b))) ∧ Below w.heap.size w w' := by
  go_enter Try.func27, Try.ntmps27
  go_wp2_with fail
  go_loopw [4, 5] (fun _ i wr => ∃ k : Nat, k ≤ 64 ∧ i = .int .i64 k ∧ wr.heap[w.heap.size]? = some (.cells (sec zeros) 23 (0, 0)) ∧ wr.heap[w.heap.size + 1]? = some (.cells (sec (part64 b k)) 23 (0, 0)) ∧ Below w.heap.size w wr)
    (fun _ i _ => 64 - (intOf i).toNat)
  case atStart => exact ⟨0, by omega, rfl, heap_alloc2_old w _ _, heap_alloc2_new w _ _, ((Below.refl _ w).alloc (Nat.le_refl _) _).alloc (by simp) _⟩
  case round =>
    obtain ⟨k, hk, rfl, h0, h1, hb⟩ := hrel
    by_cases hlt : k < 64
    · have hp : 0 < (rowOf wr (w.heap.size + 1)).size := by rw [rowOf_of h1, size_sec, part64_len b k hk]; omega
      have hc : wr.cell? ⟨w.heap.size + 1, k, none⟩ = some (.int .u8 ((part64 b k).getD k 0)) := by
        rw [cell_row hp, rowOf_of h1, sec_get _ _ (by rw [part64_len b k hk]; exact hlt)]
      have hf : wr.frozen? ⟨w.heap.size + 1, k, none⟩ = false := free_row hp
      clear hp
      go_wp2
      go_roundw
      case rel => exact ⟨k + 1, by omega, by go_num, by rw [heap_setCell_other _ _ _ _ (by simp)]; exact h0, by rw [heap_setCell_same _ _ _ _ _ _ h1, part64_set b k hlt], hb.setCell (by simp) _⟩
      case measure => simp [intOf]; omega
    · obtain rfl : k = 64 := by omega
      have e : part64 b 64 = fill64 b := by simp [part64, fill64]
      rw [e] at h1
      have r1 := rowOf_of h1
      have r0 := rowOf_of h0
      have hs : (fill64 b).length = 64 := by simp [fill64]
      generalize hy : fill64 b = ys at *
      have hy' := Lib.hid hy
      clear hy e
      go_wp2
      refine bodyPost_ret (results_cell rfl ag_sec _ rfl (rowOf_setRow_same _ (by rw [r0, size_sec, length_zeros]; omega)) (by rw [size_sec, hs]) (by omega)) rfl ?_
      refine ⟨by rw [hy'.out], ?_⟩
      exact below_setRow hb (Nat.le_refl _) _
end Go.Proofs.Ytakehkoicinlbaa.dk
