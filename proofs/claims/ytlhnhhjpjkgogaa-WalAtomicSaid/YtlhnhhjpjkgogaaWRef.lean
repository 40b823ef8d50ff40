/- The walks of the reference's put and number. -/
import Derived.Test.YtlhnhhjpjkgogaaWParse
namespace Go.Proofs.Ytlhnhhjpjkgogaa.wl
open Go.RowKit Go.Proofs.Ytlhnhhjpjkgogaa.agg Go.Proofs.Ytlhnhhjpjkgogaa.dk

theorem byteAt_step (n : Int) (j : Nat) : n / 2 ^ (8 * (j + 1)) = n / 2 ^ (8 * j) / 256 := by
  rw [show 8 * (j + 1) = 8 * j + 8 by omega, Int.pow_add, ← Int.ediv_ediv_of_nonneg (Int.le_of_lt (Int.pow_pos (by omega)))]
  rfl
set_option maxRecDepth 100000 in
set_option maxHeartbeats 1000000 in
theorem rput_walk (w : World) (s : List Int) (hs : s.length = 64) (o k : Nat) (hk : o + k ≤ 64) (n : Int) (hn : 0 ≤ n ∧ n < 4611686018427387904) :
    Calls Try.prog 39 #[.agg (sec s), .int .i64 o, .int .i64 k, .int .i64 n] w fun e w' => e = .returned (.agg (sec (over s o (be k n)))) ∧ Below w.heap.size w w' := by
  have hb : Below w.heap.size w ((w.alloc (.cells (sec s) 26)).alloc (.cells (sec zeros) 26)) := ((Below.refl _ w).alloc (Nat.le_refl _) _).alloc (by simp) _
  have hx := heap_alloc2_old w (.cells (sec s) 26) (.cells (sec zeros) 26)
  have hr := heap_alloc2_new w (.cells (sec s) 26) (.cells (sec zeros) 26)
  have hk' : (o : Int) + k ≤ 64 := by omega
  have hb' := Lib.hid hb
  have hx' := Lib.hid hx
  have hr' := Lib.hid hr
  have hs' := Lib.hid hs
  clear hb hx hr hs
  go_enter Try.func39, Try.ntmps39
  have hs := hs'.out
  go_wp2_with fail
  clear hs
  generalize (w.alloc _).alloc _ = W0 at *
  go_loopw [3, 9] (fun nv i wr => ∃ j : Nat, j ≤ k ∧ i = .int .i64 ((k : Int) - 1 - j) ∧ nv = .int .i64 (n / 2 ^ (8 * j)) ∧ 0 ≤ n / 2 ^ (8 * j) ∧ n / 2 ^ (8 * j) < 4611686018427387904 ∧ wr = W0.setRow w.heap.size (putTo (sec s) o k n j)) (fun _ i _ => (intOf i + 1).toNat)
  case atStart => exact ⟨0, Nat.zero_le _, by simp, by simp, by simpa using hn.1, by simpa using hn.2, (setRow_self hx'.out).symm⟩
  case round =>
    obtain ⟨j, hj, rfl, rfl, hn1, hn2, rfl⟩ := hrel
    by_cases hlt : j < k
    · have hrow := setRow_heap W0 w.heap.size (sec s) (putTo (sec s) o k n j) _ _ hx'.out
      have hsz := size_putTo (sec s) o k n j
      have h64 : (sec s).size = 64 := by rw [size_sec]; exact hs'.out
      obtain ⟨p, hp⟩ : ∃ p, k = p + j + 1 := ⟨k - 1 - j, by omega⟩
      have hpi : (k : Int) - 1 - j = (p : Nat) := by omega
      rw [hpi]
      obtain ⟨old, hcell⟩ : ∃ old, (W0.setRow w.heap.size (putTo (sec s) o k n j)).cell? ⟨w.heap.size, o + p, none⟩ = some old := by
        simp only [World.cell?, hrow]
        exact ⟨_, Array.getElem?_eq_getElem (by omega)⟩
      have hfr : (W0.setRow w.heap.size (putTo (sec s) o k n j)).frozen? ⟨w.heap.size, o + p, none⟩ = false := by simp [World.frozen?, hrow]
      have hnx : (W0.setRow w.heap.size (putTo (sec s) o k n j)).setCell ⟨w.heap.size, o + p, none⟩ (.int .u8 (n / 2 ^ (8 * j) % 256)) = W0.setRow w.heap.size (putTo (sec s) o k n (j + 1)) := by
        rw [setCell_eq_setRow _ w.heap.size _ _ _ (0, 0) _ hrow, setRow_setRow, show putTo (sec s) o k n (j + 1) = (putTo (sec s) o k n j).setIfInBounds (o + (k - 1 - j)) (.int .u8 (byteAt n j)) from rfl, show k - 1 - j = p by omega]
        rfl
      have hst := byteAt_step n j
      have hnx' := Lib.hid hnx
      have hst' := Lib.hid hst
      have hp' := Lib.hid hp
      have g1 : (0 : Int) ≤ (o : Int) + (p : Int) := by omega
      have g2 : (o : Int) + (p : Int) < 64 := by omega
      clear hnx hrow hsz h64 hst hp hpi
      generalize n / 2 ^ (8 * j) = v at *
      go_wp2_with fail
      go_roundw
      case rel =>
        exact ⟨j + 1, by have := hp'.out; omega, congrArg (Value.int .i64) (by have := hp'.out; omega), by rw [hst'.out], by rw [hst'.out]; omega, by rw [hst'.out]; omega, hnx'.out⟩
      case measure => simp [intOf] <;> omega
    · obtain rfl : j = k := by omega
      have e0 : (j : Int) - 1 - j = -1 := by omega
      rw [e0, putTo_sec s o j n (by rw [hs'.out]; omega)]
      have hl : (over s o (be j n)).length = 64 := by rw [length_over _ _ _ (by rw [length_be, hs'.out]; omega), hs'.out]
      have hrx := rowOf_of (setRow_heap W0 w.heap.size (sec s) (sec (over s o (be j n))) _ _ hx'.out)
      have hrr := rowOf_of ((setRow_other W0 w.heap.size (w.heap.size + 1) (sec (over s o (be j n))) (by omega)).trans hr'.out)
      generalize n / 2 ^ (8 * j) = v at *
      generalize ht : over s o (be j n) = t at *
      have ht' := Lib.hid ht
      clear ht
      have hbW : Below w.heap.size w (W0.setRow w.heap.size (sec t)) := ⟨hb'.out.os, hb'.out.tape, hb'.out.output, by simpa using hb'.out.size, fun i hi => (setRow_other _ _ _ _ (by omega)).trans (hb'.out.block i hi)⟩
      have hbW' := Lib.hid hbW
      clear hbW
      generalize W0.setRow _ _ = W1 at *
      go_wp2_with fail
      exact bodyPost_ret (results_cell rfl ag_sec _ rfl (rowOf_setRow_same _ (by rw [hrr, size_sec, length_zeros]; omega)) (by rw [size_sec]; exact hl) (by omega)) rfl ⟨by rw [ht'.out], hbW'.out.os, hbW'.out.tape, hbW'.out.output, by simpa using hbW'.out.size, fun i hi => (setRow_other _ _ _ _ (by omega)).trans (hbW'.out.block i hi)⟩
end Go.Proofs.Ytlhnhhjpjkgogaa.wl
