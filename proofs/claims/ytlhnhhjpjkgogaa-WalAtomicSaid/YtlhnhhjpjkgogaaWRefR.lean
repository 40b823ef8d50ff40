/- The walks of the reference's number and Read. -/
import Derived.Test.YtlhnhhjpjkgogaaWRefW
namespace Go.Proofs.Ytlhnhhjpjkgogaa.wl
open Go.RowKit Go.Proofs.Ytlhnhhjpjkgogaa.agg Go.Proofs.Ytlhnhhjpjkgogaa.dk

set_option maxHeartbeats 1000000 in
theorem rnumber_walk (w : World) (s : List Int) (hs : IsSec s) (o k : Nat) (hk : k ≤ 4) (ho : o + k ≤ 64) :
    Calls Try.prog 40 #[.agg (sec s), .int .i64 o, .int .i64 k] w fun e w' => e = .returned (.int .i64 (num ((s.drop o).take k))) ∧ Below w.heap.size w w' := by
  have h64 := hs.len
  have hl : ((s.drop o).take k).length = k := by simp; omega
  have hcell : ∀ j, j < k → (w.alloc (.cells (sec s) 26)).cell? ⟨w.heap.size, o + j, none⟩ = some (.int .u8 (((s.drop o).take k).getD j 0)) := by
    have := seg_cells (heap_alloc_new w (.cells (sec s) 26)) o k (by omega)
    rw [hl] at this
    exact this
  have hrng : ∀ c ∈ (s.drop o).take k, 0 ≤ c ∧ c < 256 := fun c hc => hs.rng c (List.mem_of_mem_drop (List.mem_of_mem_take hc))
  have hb : Below w.heap.size w (w.alloc (.cells (sec s) 26)) := (Below.refl _ _).alloc (Nat.le_refl _) _
  have hb' := Lib.hid hb
  have hcell' := Lib.hid hcell
  have hrng' := Lib.hid hrng
  have h64' := Lib.hid h64
  have hl' := Lib.hid hl
  have hok : (o : Int) + k ≤ 64 := by omega
  clear hb hcell hrng hl h64 hs
  go_enter Try.func40, Try.ntmps40
  go_wp2_with fail
  generalize w.alloc _ = W at *
  generalize hlx : (s.drop o).take k = l at *
  have hlx' := Lib.hid hlx
  clear hlx
  go_loop [7, 8] (fun n i => ∃ j : Nat, j ≤ k ∧ i = .int .i64 j ∧ n = .int .i64 (num (l.take j))) (fun _ i => k - (intOf i).toNat)
  case atStart => exact ⟨0, Nat.zero_le _, rfl, rfl⟩
  case round =>
    obtain ⟨j, hj, rfl, rfl⟩ := hrel
    by_cases hlt : j < k
    · have hlj : j < l.length := by rw [hl'.out]; exact hlt
      have h1 := hcell'.out j hlt
      obtain ⟨n1, n2⟩ := num_take4 l (by rw [hl'.out]; exact hk) hrng'.out j hlj
      obtain ⟨b1, b2⟩ := hrng'.out _ (List.getElem_mem hlj)
      rw [List.getD_eq_getElem?_getD, List.getElem?_eq_getElem hlj, Option.getD_some] at h1
      have hs : Hid (num (l.take (j + 1)) = num (l.take j) * 256 + l[j]) := by
        rw [List.take_succ_eq_append_getElem hlj, num_snoc]
        exact rfl
      have g1 : (0 : Int) ≤ (o : Int) + j := by omega
      have g2 : (o : Int) + j < 64 := by omega
      generalize l[j] = c at *
      generalize num (l.take j) = v at *
      go_wp2
      go_round
      case rel => exact ⟨j + 1, by omega, by go_num, by rw [hs.out]⟩
      case measure => simp [intOf]; omega
    · obtain rfl : j = k := by omega
      have hx : Hid (num (l.take j) = num l) := by
        rw [List.take_of_length_le (by rw [hl'.out]; exact Nat.le_refl _)]
        exact rfl
      go_wp2
      go_ret
      exact ⟨by rw [hlx'.out]; show Ending.returned (.int .i64 (num (l.take j))) = _; rw [hx.out], hb'.out⟩
end Go.Proofs.Ytlhnhhjpjkgogaa.wl
