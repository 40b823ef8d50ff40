/- The walk of the reference's Frames. -/
import Derived.Test.YtlhnhhjpjkgogaaWFrames
import Derived.Test.YtlhnhhjpjkgogaaWRead
namespace Go.Proofs.Ytlhnhhjpjkgogaa.wl
open Go.RowKit Go.Proofs.Ytlhnhhjpjkgogaa.agg Go.Proofs.Ytlhnhhjpjkgogaa.dk
set_option linter.unusedSimpArgs false
set_option linter.unusedVariables false

theorem info_rfr : (Try.prog.info? 23).map (fun i => (i.zero, i.size, i.bytes)) = some (some (.agg Fr.none.cells), 4, 40) := by kernel_rfl
/-- An append onto a slice of one's own, behind a new box. -/
theorem below_grown1 {B : Nat} {w w1 w' : World} {base : Nat} {e : TypeId} {size : Nat} {v : Value} {n : Nat} {xs : List Value} (hb : Below B w w1) (o : Obj) (hs : B ≤ w1.heap.size) (hown : w1.ownsRow base e size v n xs) (hB : B ≤ base) (hg : (w1.alloc o).grownBy w' v.ownBlock) : Below B w w' := by
  have hkp := (Kept.alloc (F := fun b => v.ownBlock = some b) w1 o).trans' (Kept.grown hg (fun b hb => hb)) (fun _ _ e => e)
  have hk2 := hkp.below B hs (fun b hb => Nat.le_trans hB (hown.lt b hb).1)
  exact ⟨hk2.os.trans hb.os, hk2.tape.trans hb.tape, hk2.output.trans hb.output, Nat.le_trans hb.size hk2.size, fun i hi => (hk2.block i hi).trans (hb.block i hi)⟩
def rmin (x y : Int) : Int := if y < x then y else x
theorem min_rr (ats : Array TypeId) (ty : TypeId) (k j : IntKind) (x y : Int) : Builtin.min_ ats ty #[.int k x, .int j y] = pure (.int k (rmin x y)) := rfl
attribute [local go_sem] min_rr
set_option maxRecDepth 100000 in
set_option maxHeartbeats 2000000 in
theorem rframes_walk (w : World) (r : ByteArray) (e p : Int) (hr : r.size ≤ 65536) (hp : 0 ≤ p ∧ p ≤ 1000000) :
    Calls Try.prog 49 #[.string r, .int .i64 e, .int .i64 p] w fun x w' => ∃ g cap, x = .returned (.slice (some ⟨g, 0, none⟩) (nfr r) cap) ∧ w'.ownsRow w.heap.size 23 4 (.slice (some ⟨g, 0, none⟩) (nfr r) cap) (nfr r) (flatF (framesOf r e p)) ∧ Below w.heap.size w w' := by
  go_enter Try.func49, Try.ntmps49
  go_wp2_with fail
  have h0 : (w.alloc (.cells #[] 23)).ownsRow w.heap.size 23 4 (.slice (some ⟨w.heap.size, 0, none⟩) 0 0) 0 [] := ⟨rfl, .inr ⟨w.heap.size, 0, #[], rfl, Nat.le_refl _, heap_alloc_new _ _, Nat.le_refl _, by unfold maxLen; omega, rfl, rfl⟩⟩
  have hb0 : Below w.heap.size w (w.alloc (.cells #[] 23)) := (Below.refl _ w).alloc (Nat.le_refl _) _
  have h0' := Lib.hid h0
  have hb0' := Lib.hid hb0
  clear h0 hb0
  generalize w.alloc _ = W0 at *
  go_loopw [7, 8, 9] (fun v s f wr => ∃ j a g cap : Nat, j ≤ nfr r ∧ a = min (50 * j) r.size ∧ s = .int .i64 a ∧ f = .bool (j == 0) ∧ v = .slice (some ⟨g, 0, none⟩) j cap ∧ wr.ownsRow w.heap.size 23 4 v j (flatF ((framesOf r e p).take j)) ∧ Below w.heap.size w wr) (fun v _ _ _ => match v with | .slice _ n _ => nfr r + 1 - n | _ => 0)
  case atStart => exact ⟨0, 0, w.heap.size, 0, Nat.zero_le _, by simp, rfl, rfl, rfl, h0'.out, hb0'.out⟩
  case round =>
    obtain ⟨j, a, ao, cap, hj, ha, rfl, rfl, rfl, hown, hbl⟩ := hrel
    clear h0' hb0'
    have hn4 : nfr r ≤ 1311 := by unfold nfr; omega
    have hj2 : j ≤ 1311 := by omega
    by_cases hjn : j < nfr r
    · have ha' : a = 50 * j := by unfold nfr at hjn; omega
      have hk0 : frameAt r e p j = ⟨e, p + j, kindOf (nfr r) j, chunk r j⟩ := rfl
      have hTk := Lib.hid (take_frames r e p j hjn)
      obtain ⟨i0, hi, hz0, hz1, hz2⟩ := info_parts info_rfr
      have hex : ∃ E : Nat, rmin ((a : Int) + 50) r.size = (E : Int) ∧ chunk r j = r.extract a E ∧ a ≤ E ∧ E ≤ r.size ∧ E = min (50 * (j + 1)) r.size ∧ (E = r.size ↔ j + 1 = nfr r) := by
        refine ⟨min (50 * (j + 1)) r.size, ?_, ?_, ?_, ?_, rfl, ?_⟩
        · unfold rmin; split <;> omega
        · unfold chunk; rw [ha']; congr 1
        · unfold nfr at hjn; omega
        · omega
        · unfold nfr at hjn ⊢; omega
      obtain ⟨E, hE, hch, haE, hEr, hE2, hEl⟩ := hex
      have hE2' := Lib.hid hE2
      have haE0 : (0 : Int) ≤ a := by omega
      have haE1 : (a : Int) ≤ E := by omega
      have haE2 : (E : Int) ≤ r.size := by omega
      have hs1 : (r.extract a E).size ≤ 50 := by rw [ByteArray.size_extract]; omega
      have hE3' := Lib.hid (show E = r.size ↔ j + 1 = nfr r from hEl)
      rw [hch] at hk0
      have hk0' := Lib.hid hk0
      have ha'' := Lib.hid ha'
      clear hch hE2 hk0 ha hEl hEr haE ha'
      by_cases hl : E = r.size
      · have hn' := Lib.hid (hE3'.out.1 hl)
        have hb1 : ((E : Int) == (r.size : Int)) = true := by simp [hl]
        by_cases h0 : j = 0
        · have hf1 : (j == 0) = true := by simp [h0]
          rw [hf1]
          have h0' := Lib.hid h0
          clear h0 hl hf1
          have hk : Hid (frameAt r e p j = ⟨e, p + j, 3, r.extract a E⟩) := by
            have := hk0'.out
            rw [this]
            have : kindOf (nfr r) j = 3 := by unfold kindOf; rw [if_pos (by have := hn'.out; have := h0'.out; omega)]
            rw [this]
            exact rfl
          clear hk0'
          go_wp2_with (at_builtin; refine wpList_append_mine rfl (.tmp 37) (.tmp 49) 99 rfl w.heap.size 23 i0 _ 4 40 Try.underlying99 hi hz0 hz1 hz2 (by decide) _ j _ rfl (hown.alloc _) ⟨wr.heap.size, 0, none⟩ 1 1 (Fr.cells ⟨e, p + j, 3, r.extract a E⟩).toList (by rfl) (by rfl) (by omega) (cells_new wr _ _) (by have := one_fr ⟨e, p + j, 3, r.extract a E⟩; simpa only [oneCells, List.all_eq_true] using this) (by unfold maxLen; omega) (by omega) (by have := hbl.size; simp; omega) ?_; intro g' cap' w' hown' hgrow hnew)
          go_roundw
          case rel =>
            refine ⟨j + 1, E, g', cap', by omega, hE2'.out, rfl, by simp, rfl, ?_, below_grown1 hbl _ hbl.size hown (Nat.le_refl _) hgrow⟩
            rw [hTk.out, flatF_snoc, hk.out]
            exact hown'
          case measure => simp; omega
        · have hf1 : (j == 0) = false := by simp [h0]
          rw [hf1]
          have hlt : (a : Int) < r.size := by have := ha''.out; unfold nfr at hjn; omega
          have h0' := Lib.hid h0
          clear h0 hl hf1
          have hk : Hid (frameAt r e p j = ⟨e, p + j, 2, r.extract a E⟩) := by
            have := hk0'.out
            rw [this]
            have : kindOf (nfr r) j = 2 := by unfold kindOf; rw [if_neg (by have := hn'.out; have := h0'.out; omega), if_neg h0'.out, if_pos hn'.out]
            rw [this]
            exact rfl
          clear hk0'
          go_wp2_with (at_builtin; refine wpList_append_mine rfl (.tmp 37) (.tmp 49) 99 rfl w.heap.size 23 i0 _ 4 40 Try.underlying99 hi hz0 hz1 hz2 (by decide) _ j _ rfl (hown.alloc _) ⟨wr.heap.size, 0, none⟩ 1 1 (Fr.cells ⟨e, p + j, 2, r.extract a E⟩).toList (by rfl) (by rfl) (by omega) (cells_new wr _ _) (by have := one_fr ⟨e, p + j, 2, r.extract a E⟩; simpa only [oneCells, List.all_eq_true] using this) (by unfold maxLen; omega) (by omega) (by have := hbl.size; simp; omega) ?_; intro g' cap' w' hown' hgrow hnew)
          go_roundw
          case rel =>
            refine ⟨j + 1, E, g', cap', by omega, hE2'.out, rfl, by simp, rfl, ?_, below_grown1 hbl _ hbl.size hown (Nat.le_refl _) hgrow⟩
            rw [hTk.out, flatF_snoc, hk.out]
            exact hown'
          case measure => simp; omega
      · have hn' := Lib.hid (show ¬ j + 1 = nfr r from fun h => hl (hE3'.out.2 h))
        have hb1 : ((E : Int) == (r.size : Int)) = false := by simp; omega
        by_cases h0 : j = 0
        · have hf1 : (j == 0) = true := by simp [h0]
          rw [hf1]
          have h0' := Lib.hid h0
          clear h0 hl hf1
          have hk : Hid (frameAt r e p j = ⟨e, p + j, 1, r.extract a E⟩) := by
            have := hk0'.out
            rw [this]
            have : kindOf (nfr r) j = 1 := by unfold kindOf; rw [if_neg (by have := hn'.out; have := h0'.out; omega), if_pos h0'.out]
            rw [this]
            exact rfl
          clear hk0'
          go_wp2_with (at_builtin; refine wpList_append_mine rfl (.tmp 37) (.tmp 49) 99 rfl w.heap.size 23 i0 _ 4 40 Try.underlying99 hi hz0 hz1 hz2 (by decide) _ j _ rfl (hown.alloc _) ⟨wr.heap.size, 0, none⟩ 1 1 (Fr.cells ⟨e, p + j, 1, r.extract a E⟩).toList (by rfl) (by rfl) (by omega) (cells_new wr _ _) (by have := one_fr ⟨e, p + j, 1, r.extract a E⟩; simpa only [oneCells, List.all_eq_true] using this) (by unfold maxLen; omega) (by omega) (by have := hbl.size; simp; omega) ?_; intro g' cap' w' hown' hgrow hnew)
          go_roundw
          case rel =>
            refine ⟨j + 1, E, g', cap', by omega, hE2'.out, rfl, by simp, rfl, ?_, below_grown1 hbl _ hbl.size hown (Nat.le_refl _) hgrow⟩
            rw [hTk.out, flatF_snoc, hk.out]
            exact hown'
          case measure => simp; omega
        · have hf1 : (j == 0) = false := by simp [h0]
          rw [hf1]
          have hlt : (a : Int) < r.size := by have := ha''.out; unfold nfr at hjn; omega
          have h0' := Lib.hid h0
          clear h0 hl hf1
          have hk : Hid (frameAt r e p j = ⟨e, p + j, 4, r.extract a E⟩) := by
            have := hk0'.out
            rw [this]
            have : kindOf (nfr r) j = 4 := by unfold kindOf; rw [if_neg (by have := hn'.out; have := h0'.out; omega), if_neg h0'.out, if_neg hn'.out]
            rw [this]
            exact rfl
          clear hk0'
          go_wp2_with (at_builtin; refine wpList_append_mine rfl (.tmp 37) (.tmp 49) 99 rfl w.heap.size 23 i0 _ 4 40 Try.underlying99 hi hz0 hz1 hz2 (by decide) _ j _ rfl (hown.alloc _) ⟨wr.heap.size, 0, none⟩ 1 1 (Fr.cells ⟨e, p + j, 4, r.extract a E⟩).toList (by rfl) (by rfl) (by omega) (cells_new wr _ _) (by have := one_fr ⟨e, p + j, 4, r.extract a E⟩; simpa only [oneCells, List.all_eq_true] using this) (by unfold maxLen; omega) (by omega) (by have := hbl.size; simp; omega) ?_; intro g' cap' w' hown' hgrow hnew)
          go_roundw
          case rel =>
            refine ⟨j + 1, E, g', cap', by omega, hE2'.out, rfl, by simp, rfl, ?_, below_grown1 hbl _ hbl.size hown (Nat.le_refl _) hgrow⟩
            rw [hTk.out, flatF_snoc, hk.out]
            exact hown'
          case measure => simp; omega
    · obtain rfl : j = nfr r := by omega
      have ha' : a = r.size := by unfold nfr at ha; omega
      have hf1 : (nfr r == 0) = false := by unfold nfr; simp
      have hall : (framesOf r e p).take (nfr r) = framesOf r e p := List.take_of_length_le (by rw [length_framesOf]; exact Nat.le_refl _)
      rw [hall] at hown
      rw [hf1, ha']
      clear ha ha' hf1 hall
      go_wp2_with fail
      go_ret
      exact ⟨ao, cap, rfl, hown, hbl⟩
end Go.Proofs.Ytlhnhhjpjkgogaa.wl
