/- The walk of confluentlaw47.awake: the chapter's example. -/
import Derived.Test.YtakehkoicinlbaaDFew
import Derived.Test.YtakehkoicinlbaaDAll
namespace Go.Proofs.Ytakehkoicinlbaa.dk
open Go.RowKit Go.Proofs.Ytakehkoicinlbaa.agg

theorem madeCells_sec (n : Nat) : madeCells (sec zeros) (n * 64) = (flatD (List.replicate n zeros)).toArray := by
  have hz : ∀ i, i < 64 → (sec zeros)[i]! = .int .u8 0 := by
    intro i hi
    have h : (sec zeros)[i]? = some (.int .u8 0) := by
      rw [sec_get zeros i (by rw [length_zeros]; exact hi)]
      rw [zeros, List.getD_eq_getElem?_getD, List.getElem?_replicate, if_pos hi]
      rfl
    simp [getElem!_def, h]
  have hs : (sec zeros).size = 64 := by rw [size_sec, length_zeros]
  have h1 : madeCells (sec zeros) (n * 64) = Array.replicate (n * 64) (.int .u8 0) := by
    apply Array.ext
    · simp [madeCells]
    · intro i h1 h2
      simp only [madeCells, Array.getElem_map, Array.getElem_range, Array.getElem_replicate]
      rw [hs]
      exact hz _ (Nat.mod_lt _ (by omega))
  have h2 : flatD (List.replicate n zeros) = List.replicate (n * 64) (.int .u8 0) := by
    induction n with
    | zero => rfl
    | succ n ih =>
      have := ih (by
        apply Array.ext
        · simp [madeCells]
        · intro i h1 h2
          simp only [madeCells, Array.getElem_map, Array.getElem_range, Array.getElem_replicate]
          rw [hs]
          exact hz _ (Nat.mod_lt _ (by omega)))
      simp only [flatD, List.replicate_succ, List.map_cons, List.flatten_cons] at this ⊢
      rw [this, show u8s zeros = List.replicate 64 (.int .u8 0) by simp [u8s, zeros], List.replicate_append_replicate]
      congr 1
      omega
  rw [h1, h2]
  simp

/-- New, of a number of sectors that there can be. -/
theorem new_any (n : Nat) (h1 : 1 ≤ n) (h2 : n ≤ 2048) (w : World) :
    Calls Try.prog 11 #[.int .i64 n] w fun e w' => ∃ D g, e = .returned (.tuple #[.pointer (some ⟨D, 0, none⟩), .int .i64 0]) ∧ DiskIn w' D g (.slice none 0 0) (St.new n) ∧ Below w.heap.size w w' ∧ w.heap.size ≤ D ∧ w.heap.size ≤ g := by
  refine (new_walk n h1 h2 w).mono ?_
  rintro e w' ⟨rfl, rfl⟩
  refine ⟨w.heap.size + 1, w.heap.size, rfl, ?_, ((Below.refl _ w).alloc (Nat.le_refl _) _).alloc (by simp) _, by omega, Nat.le_refl _⟩
  exact
    { blk := heap_alloc2_new w _ _
      dur := by rw [heap_alloc2_old w _ _, madeCells_sec, rowD, show (St.new n).spare = [] from rfl, List.append_nil]; rfl
      cap := by simp [St.new]
      pne := fun e => absurd rfl e
      len := by
        intro s hs
        rw [(List.mem_replicate.1 hs).2]
        exact length_zeros
      plen := by intro x hx; cases hx
      pin := by intro x hx; cases hx
      pend := World.ownsRow_nil _ _ _ _
      few := by simpa [St.new] using h2
      ne1 := by omega
      ne2 := by simp [Value.ownBlock]
      ne3 := by simp [Value.ownBlock] }

def exSec : List Int := List.replicate 3 2 ++ List.replicate 61 1
theorem ex1 : ((((St.new 1).write 0 (fill64 1)).1.flush).1.write 0 (fill64 2)).1.pend.length = 1 := by decide +kernel
theorem ex2 : ((((((St.new 1).write 0 (fill64 1)).1.flush).1.write 0 (fill64 2)).1.crash [3]).read 0).2.1 = exSec := by decide +kernel

/-- The states of the example. -/
def s1 : St := ((St.new 1).write 0 (fill64 1)).1
def s2 : St := s1.flush.1
def s3 : St := (s2.write 0 (fill64 2)).1
def s4 : St := s3.crash [3]
def s5 : St := (s4.read 0).1

set_option maxHeartbeats 4000000 in
theorem awake_calls (w : World) : Calls Try.prog 9 #[] w fun e w' => e = .returned (.bool true) ∧ Below w.heap.size w w' := by
  have hnew : ∀ W : World, Calls Try.prog 11 #[.int .i64 1] W fun e w' => ∃ D g, e = .returned (.tuple #[.pointer (some ⟨D, 0, none⟩), .int .i64 0]) ∧ DiskIn w' D g (.slice none 0 0) (St.new 1) ∧ Below W.heap.size W w' ∧ W.heap.size ≤ D ∧ W.heap.size ≤ g := fun W => new_any 1 (by omega) (by omega) W
  go_enter Try.func9, Try.ntmps9
  go_wp2_with fail
  refine (hnew _).mono ?_
  rintro e w1 ⟨D, g, rfl, hd1, hb1, hD, hg⟩
  have hl1 : ∀ k, foot D g (.slice none 0 0) k → w.heap.size ≤ k := by
    rintro k (rfl | rfl | h)
    · exact hD
    · exact hg
    · simp [Value.ownBlock] at h
  clear hnew
  go_wp2_with fail
  refine (all_calls 1 _).mono ?_
  rintro e w2 ⟨rfl, hb2⟩
  have hd2 := hd1.kept (Kept.of_below (F := fun _ => False) hb2) (fun _ _ => id)
  have B2 := hb1.trans (hb2.mono hb1.size)
  clear hd1 hb1 hb2
  go_wp2_with fail
  refine (write_any _ hd2 0 (fill64 1) (length_fill64 1) (by decide)).mono ?_
  rintro e w3 ⟨rfl, pv3, hd3, hk3, hf3⟩
  have e3 : ((St.new 1).write 0 (fill64 1)).2 = 0 := by decide +kernel
  obtain ⟨hl3, hb3⟩ := live_step hl1 B2.size hk3 hf3
  have B3 := B2.trans hb3
  change DiskIn w3 D g pv3 s1 at hd3
  clear hd2 hl1 hk3 hf3 hb3 B2
  go_wp2_with fail
  refine (flush_any _ hd3 (by decide +kernel)).mono ?_
  rintro e w4 ⟨rfl, pv4, hd4, hk4, hf4⟩
  have e4 : s1.flush.2 = 0 := by decide +kernel
  obtain ⟨hl4, hb4⟩ := live_step hl3 B3.size hk4 hf4
  have B4 := B3.trans hb4
  change DiskIn w4 D g pv4 s2 at hd4
  clear hd3 hl3 hk4 hf4 hb4 B3 e3
  go_wp2_with fail
  refine (all_calls 2 _).mono ?_
  rintro e w5 ⟨rfl, hb5⟩
  have hd5 := hd4.kept (Kept.of_below (F := fun _ => False) hb5) (fun _ _ => id)
  have B5 := B4.trans (hb5.mono B4.size)
  clear hd4 hb5 B4
  go_wp2_with fail
  refine (write_any _ hd5 0 (fill64 2) (length_fill64 2) (by decide +kernel)).mono ?_
  rintro e w6 ⟨rfl, pv6, hd6, hk6, hf6⟩
  have e6 : (s2.write 0 (fill64 2)).2 = 0 := by decide +kernel
  obtain ⟨hl6, hb6⟩ := live_step hl4 B5.size hk6 hf6
  have B6 := B5.trans hb6
  change DiskIn w6 D g pv6 s3 at hd6
  clear hd5 hl4 hk6 hf6 hb6 B5 e4
  go_wp2_with fail
  refine (pending_any _ hd6).mono ?_
  rintro e w7 ⟨rfl, rfl⟩
  have e7 : s3.pend.length = 1 := by decide +kernel
  rw [e7]
  clear e6 e7
  go_wp2_with fail
  have hd8 := hd6.alloc (.cells #[.int .i64 3] 3)
  have B8 := B6.alloc B6.size (.cells #[.int .i64 3] 3)
  have hs8 : IntsAt (w6.alloc (.cells #[.int .i64 3] 3)) (foot D g pv6) (.slice (some ⟨w6.heap.size, 0, none⟩) 1 1) [3] :=
    ⟨_, 1, rfl, fun _ => ⟨w6.heap.size, 0, rfl, fun f => by have := hd6.lt _ f; omega, fun i hi => by
      obtain rfl : i = 0 := by simp at hi; exact hi
      exact World.cell?_alloc_new w6 _ _ _⟩⟩
  refine (crash_any _ hd8 (.slice (some ⟨w6.heap.size, 0, none⟩) 1 1) [3] hs8 (by decide +kernel) (by decide)).mono ?_
  rintro e w9 ⟨rfl, pv9, hd9, hk9, hf9⟩
  obtain ⟨hl9, hb9⟩ := live_step hl6 B8.size hk9 hf9
  have B9 := B8.trans hb9
  change DiskIn w9 D g pv9 s4 at hd9
  clear hd6 hd8 hl6 hk9 hf9 hb9 B6 B8 hs8
  go_wp2_with fail
  refine (read_any _ hd9 0 (by decide +kernel)).mono ?_
  rintro e w10 ⟨rfl, hd10, hk10⟩
  have e10 : (s4.read 0).2.2 = 0 := by decide +kernel
  have e11 : (s4.read 0).2.1 = exSec := by decide +kernel
  obtain ⟨hl10, hb10⟩ := live_step hl9 B9.size hk10 (fresh_same _ _)
  have B10 := B9.trans hb10
  change DiskIn w10 D g pv9 s5 at hd10
  have x0 : exSec.length = 64 := by decide +kernel
  have x2 : (sec exSec)[2]? = some (.int .u8 2) := by rw [sec_get _ _ (by rw [x0]; omega)]; rfl
  have x3 : (sec exSec)[3]? = some (.int .u8 1) := by rw [sec_get _ _ (by rw [x0]; omega)]; rfl
  have x63 : (sec exSec)[63]? = some (.int .u8 1) := by rw [sec_get _ _ (by rw [x0]; omega)]; rfl
  rw [e11]
  clear hd9 hl9 hk10 hb10 B9 e11
  generalize exSec = xs at *
  have hp : 0 < (rowOf (w10.alloc (.cells (sec xs) 23)) w10.heap.size).size := by rw [rowOf_alloc_at _ _ _ rfl, size_sec, x0]; omega
  have y2 : (w10.alloc (.cells (sec xs) 23)).cell? ⟨w10.heap.size, 2, none⟩ = some (.int .u8 2) := by rw [cell_row hp, rowOf_alloc_at _ _ _ rfl, x2]
  have y3 : (w10.alloc (.cells (sec xs) 23)).cell? ⟨w10.heap.size, 3, none⟩ = some (.int .u8 1) := by rw [cell_row hp, rowOf_alloc_at _ _ _ rfl, x3]
  have y63 : (w10.alloc (.cells (sec xs) 23)).cell? ⟨w10.heap.size, 63, none⟩ = some (.int .u8 1) := by rw [cell_row hp, rowOf_alloc_at _ _ _ rfl, x63]
  obtain ⟨_, x2⟩ := Array.getElem?_eq_some_iff.1 x2
  obtain ⟨_, x3⟩ := Array.getElem?_eq_some_iff.1 x3
  obtain ⟨_, x63⟩ := Array.getElem?_eq_some_iff.1 x63
  have hd12 := hd10.alloc (.cells (sec xs) 23)
  clear hp hd10 hl10
  have B12 := B10.alloc B10.size (.cells (sec xs) 23)
  clear B10
  go_wp2_with fail
  refine (pending_any _ hd12).mono ?_
  rintro e w13 ⟨rfl, rfl⟩
  have e13 : s5.pend.length = 0 := by decide +kernel
  rw [e13]
  clear e13
  go_wp2_with fail
  go_ret
  exact ⟨rfl, B12⟩
end Go.Proofs.Ytakehkoicinlbaa.dk
