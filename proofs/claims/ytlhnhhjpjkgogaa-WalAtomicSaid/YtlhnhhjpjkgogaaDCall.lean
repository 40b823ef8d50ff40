/- The walk of (*disk.Disk).call: what it answers and what it writes. -/
import Derived.Test.YtlhnhhjpjkgogaaDBase
namespace Go.Proofs.Ytlhnhhjpjkgogaa.dk
open Go.RowKit

set_option maxHeartbeats 400000 in
theorem call_failed (D : Nat) (w : World) (h3 : w.cell? ⟨D, 3, none⟩ = some (.bool true)) :
    Calls Try.prog 62 #[.pointer (some ⟨D, 0, none⟩)] w fun e w' => e = .returned (.bool false) ∧ w' = w := by
  go_enter Try.func62, Try.ntmps62
  go_wp2
  go_ret
  exact ⟨rfl, rfl⟩

set_option maxHeartbeats 400000 in
theorem call_last (D : Nat) (w : World) (h2 : w.cell? ⟨D, 2, none⟩ = some (.int .i64 0)) (h3 : w.cell? ⟨D, 3, none⟩ = some (.bool false)) (hf : ∀ i, w.frozen? ⟨D, i, none⟩ = false) :
    Calls Try.prog 62 #[.pointer (some ⟨D, 0, none⟩)] w fun e w' => e = .returned (.bool false) ∧ w' = w.setCell ⟨D, 3, none⟩ (.bool true) := by
  have f3 := hf 3
  clear hf
  go_enter Try.func62, Try.ntmps62
  go_wp2
  go_ret
  exact ⟨rfl, rfl⟩

set_option maxHeartbeats 400000 in
theorem call_some (D : Nat) (left : Int) (hl : 0 < left) (w : World) (h2 : w.cell? ⟨D, 2, none⟩ = some (.int .i64 left)) (h3 : w.cell? ⟨D, 3, none⟩ = some (.bool false)) (hf : ∀ i, w.frozen? ⟨D, i, none⟩ = false) :
    Calls Try.prog 62 #[.pointer (some ⟨D, 0, none⟩)] w fun e w' => e = .returned (.bool true) ∧ w' = w.setCell ⟨D, 2, none⟩ (.int .i64 (wrap64 (left - 1))) := by
  have f2 := hf 2
  have hn : (left == 0) = false := by simpa using (by omega : left ≠ 0)
  clear hf
  go_enter Try.func62, Try.ntmps62
  go_wp2
  go_ret
  exact ⟨rfl, rfl⟩

set_option maxHeartbeats 400000 in
theorem call_free (D : Nat) (left : Int) (hl : left < 0) (w : World) (h2 : w.cell? ⟨D, 2, none⟩ = some (.int .i64 left)) (h3 : w.cell? ⟨D, 3, none⟩ = some (.bool false)) :
    Calls Try.prog 62 #[.pointer (some ⟨D, 0, none⟩)] w fun e w' => e = .returned (.bool true) ∧ w' = w := by
  have hn : (left == 0) = false := by simpa using (by omega : left ≠ 0)
  go_enter Try.func62, Try.ntmps62
  go_wp2
  go_ret
  exact ⟨rfl, rfl⟩

/-- call, of whatever disk. -/
theorem call_any {D g : Nat} {pv : Value} {st : St} (w : World) (h : DiskIn w D g pv st) :
    Calls Try.prog 62 #[.pointer (some ⟨D, 0, none⟩)] w fun e w' => e = .returned (.bool (!st.call.failed)) ∧ DiskIn w' D g pv st.call ∧ Kept (foot D g pv) w w' := by
  obtain ⟨c0, c1, c2, c3, c4, c5, c6⟩ := h.cell
  have hsame : ∀ (i : Nat) (v : Value) (k : Nat), k ≠ D → foot D g pv k → (w.setCell ⟨D, i, none⟩ v).heap[k]? = w.heap[k]? := fun i v k hk _ => heap_setCell_other w ⟨D, i, none⟩ k v hk
  by_cases hf : st.failed = true
  · rw [hf] at c3
    refine (call_failed D w c3).mono ?_
    rintro e w' ⟨rfl, rfl⟩
    have : st.call = st := by simp [St.call, hf]
    rw [this, hf]
    exact ⟨rfl, h, Kept.refl _ _⟩
  · have hf' : st.failed = false := by simpa using hf
    rw [hf'] at c3
    by_cases h0 : st.left = 0
    · rw [h0] at c2
      refine (call_last D w c2 c3 h.free).mono ?_
      rintro e w' ⟨rfl, rfl⟩
      have : st.call = { st with failed := true } := by simp [St.call, hf', h0]
      rw [this]
      refine ⟨rfl, h.turn ?_ (hsame _ _) rfl rfl, Kept.setCell _ (.inl rfl) _⟩
      rw [heap_setCell_same _ _ _ _ _ _ h.blk]
      simp [dcells]
    · by_cases h1 : 0 < st.left
      · refine (call_some D _ h1 w c2 c3 h.free).mono ?_
        rintro e w' ⟨rfl, rfl⟩
        have : st.call = { st with left := wrap64 (st.left - 1) } := by simp [St.call, hf', h0, h1]
        rw [this]
        refine ⟨by simp [hf'], h.turn ?_ (hsame _ _) rfl rfl, Kept.setCell _ (.inl rfl) _⟩
        rw [heap_setCell_same _ _ _ _ _ _ h.blk]
        simp [dcells]
      · refine (call_free D _ (by omega) w c2 c3).mono ?_
        rintro e w' ⟨rfl, rfl⟩
        have : st.call = st := by simp [St.call, hf', h0, h1]
        rw [this, hf']
        exact ⟨rfl, h, Kept.refl _ _⟩
end Go.Proofs.Ytlhnhhjpjkgogaa.dk
