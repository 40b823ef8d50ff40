/- The walk of disk.New. -/
import Derived.Test.YtlhnhhjpjkgogaaDSmall
namespace Go.Proofs.Ytlhnhhjpjkgogaa.dk
open Go.RowKit Go.Proofs.Ytlhnhhjpjkgogaa.agg

theorem madeCells_sec (n : Nat) : madeCells (sec zeros) (n * 64) = (flatD (List.replicate n zeros)).toArray := by
  have hz : ∀ i, i < 64 → (sec zeros)[i]! = .int .u8 0 := by
    intro i hi
    have h : (sec zeros)[i]? = some (.int .u8 0) := by
      rw [sec_get zeros i (by rw [length_zeros]; exact hi)]
      rw [zeros, List.getD_eq_getElem?_getD, List.getElem?_replicate, if_pos hi]
      rfl
    simp [getElem!_def, h]
  have hs : (sec zeros).size = 64 := by rw [size_sec, length_zeros]
  have h1 : madeCells (sec zeros) (n * 64) = Array.replicate (n * 64) (.int .u8 0) := by
    apply Array.ext
    · simp [madeCells]
    · intro i h1 h2
      simp only [madeCells, Array.getElem_map, Array.getElem_range, Array.getElem_replicate]
      rw [hs]
      exact hz _ (Nat.mod_lt _ (by omega))
  have h2 : flatD (List.replicate n zeros) = List.replicate (n * 64) (.int .u8 0) := by
    induction n with
    | zero => rfl
    | succ n ih =>
      have := ih (by
        apply Array.ext
        · simp [madeCells]
        · intro i h1 h2
          simp only [madeCells, Array.getElem_map, Array.getElem_range, Array.getElem_replicate]
          rw [hs]
          exact hz _ (Nat.mod_lt _ (by omega)))
      simp only [flatD, List.replicate_succ, List.map_cons, List.flatten_cons] at this ⊢
      rw [this, show u8s zeros = List.replicate 64 (.int .u8 0) by simp [u8s, zeros], List.replicate_append_replicate]
      congr 1
      omega
  rw [h1, h2]
  simp

/-- New, of a number of sectors that there can be. -/
theorem new_any (n : Nat) (h1 : 1 ≤ n) (h2 : n ≤ 2048) (w : World) :
    Calls Try.prog 14 #[.int .i64 n] w fun e w' => ∃ D g, e = .returned (.tuple #[.pointer (some ⟨D, 0, none⟩), .int .i64 0]) ∧ DiskIn w' D g (.slice none 0 0) (St.new n) ∧ Below w.heap.size w w' ∧ w.heap.size ≤ D ∧ w.heap.size ≤ g := by
  refine (new_walk n h1 h2 w).mono ?_
  rintro e w' ⟨rfl, rfl⟩
  refine ⟨w.heap.size + 1, w.heap.size, rfl, ?_, ((Below.refl _ w).alloc (Nat.le_refl _) _).alloc (by simp) _, by omega, Nat.le_refl _⟩
  exact
    { blk := heap_alloc2_new w _ _
      dur := by rw [heap_alloc2_old w _ _, madeCells_sec, rowD, show (St.new n).spare = [] from rfl, List.append_nil]; rfl
      cap := by simp [St.new]
      pne := fun e => absurd rfl e
      len := by
        intro s hs
        rw [(List.mem_replicate.1 hs).2]
        exact length_zeros
      plen := by intro x hx; cases hx
      pin := by intro x hx; cases hx
      pend := World.ownsRow_nil _ _ _ _
      few := by simpa [St.new] using h2
      ne1 := by omega
      ne2 := by simp [Value.ownBlock]
      ne3 := by simp [Value.ownBlock] }

end Go.Proofs.Ytlhnhhjpjkgogaa.dk
