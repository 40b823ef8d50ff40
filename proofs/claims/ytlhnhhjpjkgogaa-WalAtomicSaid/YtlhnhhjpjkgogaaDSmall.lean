/- The walks of the disk's small methods: New, Sectors, Pending, Failed, FailAfter, Counts. -/
import Derived.Test.YtlhnhhjpjkgogaaDFlush
namespace Go.Proofs.Ytlhnhhjpjkgogaa.dk
open Go.RowKit Go.Proofs.Ytlhnhhjpjkgogaa.agg

/-- A new disk, as a value. -/
def St.new (n : Nat) : St := { dur := List.replicate n zeros, pend := [], left := -1, failed := false, rd := 0, wr := 0, fl := 0, cap := n, spare := [] }
def St.failAfter (st : St) (n : Int) : St := if st.failed then st else { st with left := max n (-1) }

set_option maxHeartbeats 400000 in
theorem sectors_any {D g : Nat} {pv : Value} {st : St} (w : World) (h : DiskIn w D g pv st) :
    Calls Try.prog 52 #[.pointer (some ⟨D, 0, none⟩)] w fun e w' => e = .returned (.int .i64 st.dur.length) ∧ w = w' := by
  have c0 := h.cell.1
  go_enter Try.func52, Try.ntmps52
  go_wp2
  go_ret
  exact ⟨rfl, rfl⟩
set_option maxHeartbeats 400000 in
theorem pending_any {D g : Nat} {pv : Value} {st : St} (w : World) (h : DiskIn w D g pv st) :
    Calls Try.prog 22 #[.pointer (some ⟨D, 0, none⟩)] w fun e w' => e = .returned (.int .i64 st.pend.length) ∧ w = w' := by
  have c1 := h.cell.2.1
  rcases pend_form h.pend with ⟨rfl, hp⟩ | ⟨q, cap, rest, rfl, _⟩
  · have hp' := Lib.hid hp
    clear hp
    go_enter Try.func22, Try.ntmps22
    go_wp2
    go_ret
    exact ⟨by rw [hp'.out]; rfl, rfl⟩
  · go_enter Try.func22, Try.ntmps22
    go_wp2
    go_ret
    exact ⟨rfl, rfl⟩
set_option maxHeartbeats 400000 in
theorem failed_any {D g : Nat} {pv : Value} {st : St} (w : World) (h : DiskIn w D g pv st) :
    Calls Try.prog 53 #[.pointer (some ⟨D, 0, none⟩)] w fun e w' => e = .returned (.bool st.failed) ∧ w = w' := by
  have c3 := h.cell.2.2.2.1
  go_enter Try.func53, Try.ntmps53
  go_wp2
  go_ret
  exact ⟨rfl, rfl⟩
set_option maxHeartbeats 400000 in
theorem failAfter_walk {D g : Nat} {pv : Value} {st : St} (w : World) (h : DiskIn w D g pv st) (n : Int) (hf : st.failed = false) :
    Calls Try.prog 35 #[.pointer (some ⟨D, 0, none⟩), .int .i64 n] w fun e w' => e = .returned (.tuple #[]) ∧ w' = w.setCell ⟨D, 2, none⟩ (.int .i64 (max n (-1))) := by
  obtain ⟨c0, c1, c2, c3, c4, c5, c6⟩ := h.cell
  have f2 := h.free 2
  clear c0 c1 c4 c5 c6
  by_cases hn : n < -1
  · have e : (max n (-1) : Int) = -1 := by omega
    rw [e]
    go_enter Try.func35, Try.ntmps35
    go_wp2
    go_end0
    exact ⟨rfl, rfl⟩
  · have e : (max n (-1) : Int) = n := by omega
    rw [e]
    go_enter Try.func35, Try.ntmps35
    go_wp2
    all_goals go_end0
    all_goals first | exact ⟨rfl, rfl⟩ | exact ⟨rfl, by congr 2; omega⟩
set_option maxHeartbeats 400000 in
theorem failAfter_no {D g : Nat} {pv : Value} {st : St} (w : World) (h : DiskIn w D g pv st) (n : Int) (hf : st.failed = true) :
    Calls Try.prog 35 #[.pointer (some ⟨D, 0, none⟩), .int .i64 n] w fun e w' => e = .returned (.tuple #[]) ∧ w' = w := by
  have c3 := h.cell.2.2.2.1
  go_enter Try.func35, Try.ntmps35
  go_wp2
  go_end0
  exact ⟨rfl, rfl⟩
theorem failAfter_any {D g : Nat} {pv : Value} {st : St} (w : World) (h : DiskIn w D g pv st) (n : Int) :
    Calls Try.prog 35 #[.pointer (some ⟨D, 0, none⟩), .int .i64 n] w fun e w' => e = .returned (.tuple #[]) ∧ Applied D g pv (st.failAfter n) w w' := by
  by_cases hf : st.failed = true
  · refine (failAfter_no w h n hf).mono ?_
    rintro e w' ⟨rfl, rfl⟩
    have e1 : st.failAfter n = st := by simp only [St.failAfter]; rw [if_pos hf]
    rw [e1]
    exact ⟨rfl, h, Kept.refl _ _⟩
  · refine (failAfter_walk w h n (by simpa using hf)).mono ?_
    rintro e w' ⟨rfl, rfl⟩
    have e1 : st.failAfter n = { st with left := max n (-1) } := by simp only [St.failAfter]; rw [if_neg hf]
    rw [e1]
    refine ⟨rfl, ?_, Kept.setCell _ (.inl rfl) _⟩
    refine h.turn ?_ (fun k hk _ => heap_setCell_other w ⟨D, 2, none⟩ k _ hk) rfl rfl
    rw [heap_setCell_same _ _ _ _ _ _ h.blk]
    simp [dcells]

set_option maxHeartbeats 400000 in
theorem new_no (n : Int) (hn : n < 1 ∨ 2048 < n) (w : World) :
    Calls Try.prog 14 #[.int .i64 n] w fun e w' => e = .returned (.tuple #[.pointer none, .int .i64 1]) ∧ w = w' := by
  rcases hn with hn | hn
  · go_enter Try.func14, Try.ntmps14
    go_wp2
    go_ret2
    exact ⟨rfl, rfl⟩
  · have h' : ¬ n < 1 := by omega
    go_enter Try.func14, Try.ntmps14
    go_wp2
    go_ret2
    exact ⟨rfl, rfl⟩
theorem info_sec : (Try.prog.info? 26).map (fun i => (i.zero, i.size, i.bytes)) = some (some (.agg (sec zeros)), 64, 64) := by kernel_rfl
set_option maxHeartbeats 400000 in
theorem new_walk (n : Nat) (h1 : 1 ≤ n) (h2 : n ≤ 2048) (w : World) :
    Calls Try.prog 14 #[.int .i64 n] w fun e w' => e = .returned (.tuple #[.pointer (some ⟨w.heap.size + 1, 0, none⟩), .int .i64 0]) ∧
      w' = (w.alloc (.cells (madeCells (sec zeros) (n * 64)) 26)).alloc (.cells (dcells w.heap.size (.slice none 0 0) (St.new n)) 94) := by
  obtain ⟨i0, hi, hz0, hz1, hz2⟩ := info_parts info_sec
  have hmk : ∀ u : World, (Instr.makeSlice 31 (.int .i64 (n : Int)) (.int .i64 (n : Int))).run Try.prog u =
      .ok (.slice (some ⟨u.heap.size, 0, none⟩) n n) (u.alloc (.cells (madeCells (sec zeros) (n * 64)) 26)) := fun u => by
    have h := run_make (P := Try.prog) u 31 26 i0 (.agg (sec zeros)) Try.underlying31 hi hz0 .i64 .i64 (n : Int) (n : Int) (by omega) (Int.le_refl _) (by rw [hz2]; omega) (by omega)
    simpa [hz1, Value.cells] using h
  clear hi hz0 hz1 hz2
  go_enter Try.func14, Try.ntmps14
  go_wp2
  go_ret2
  exact ⟨rfl, by simp [dcells, St.new]⟩
end Go.Proofs.Ytlhnhhjpjkgogaa.dk
