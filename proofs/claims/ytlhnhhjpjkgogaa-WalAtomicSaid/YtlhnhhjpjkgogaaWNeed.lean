/- The walk of confluentlaw48.need. -/
import Derived.Test.YtlhnhhjpjkgogaaWRFrames
import Derived.Test.YtlhnhhjpjkgogaaWFew
namespace Go.Proofs.Ytlhnhhjpjkgogaa.wl
open Go.RowKit Go.Proofs.Ytlhnhhjpjkgogaa.agg Go.Proofs.Ytlhnhhjpjkgogaa.dk
set_option linter.unusedSimpArgs false
set_option linter.unusedVariables false

/-- The number of frames of records. -/
def needN (l : List ByteArray) : Nat := (l.map nfr).sum
theorem needN_snoc (l : List ByteArray) (r : ByteArray) : needN (l ++ [r]) = needN l + nfr r := by simp [needN]
theorem needN_le : ∀ (l : List ByteArray), (∀ r ∈ l, r.size ≤ 65536) → needN l ≤ 1311 * l.length
  | [], _ => by simp [needN]
  | r :: l, h => by
    have ih := needN_le l (fun x hx => h x (by simp [hx]))
    have h1 := h r (by simp)
    have h2 : nfr r ≤ 1311 := by unfold nfr; omega
    simp only [needN, List.map_cons, List.sum_cons, List.length_cons] at ih ⊢
    omega
theorem strs_get {B : Nat} {w wr : World} {ao : Option Addr} {n cap : Nat} {l : List ByteArray} (h : StrsUnder B w (.slice ao n cap) l) (hb : Below B w wr) (k : Nat) (hk : k < l.length) : n = l.length ∧ ∃ b o, ao = some ⟨b, o, none⟩ ∧ b < B ∧ wr.cell? ⟨b, o + k, none⟩ = some (.string l[k]) := by
  obtain ⟨ao', cap', e, h1⟩ := h.below hb
  injection e with e1 e2 e3
  obtain ⟨b, o, h2, hB, h3⟩ := h1 (by omega)
  exact ⟨e2, b, o, by rw [e1, h2], hB, h3 k hk⟩

set_option maxRecDepth 100000 in
set_option maxHeartbeats 1000000 in
theorem need_walk (w : World) (v : Value) (l : List ByteArray) (h : StrsUnder w.heap.size w v l) (hs : ∀ r ∈ l, r.size ≤ 65536) (hl : l.length ≤ 1000) :
    Calls Try.prog 18 #[v] w fun e w' => e = .returned (.int .i64 (needN l)) ∧ Below w.heap.size w w' := by
  have hh := Lib.hid h
  obtain ⟨ao, cap, rfl, _⟩ := h
  go_enter Try.func18, Try.ntmps18
  go_wp2_with fail
  go_loopw [3, 8] (fun s i wr => ∃ k : Nat, k ≤ l.length ∧ i = .int .i64 k ∧ s = .int .i64 (needN (l.take k)) ∧ Below w.heap.size w wr) (fun _ i _ => l.length - (intOf i).toNat)
  case atStart => exact ⟨0, Nat.zero_le _, rfl, rfl, Below.refl _ _⟩
  case round =>
    obtain ⟨k, hk, rfl, rfl, hb⟩ := hrel
    have hn := needN_le (l.take k) (fun r hr => hs r (List.mem_of_mem_take hr))
    have hn2 : needN (l.take k) ≤ 1311000 := by rw [List.length_take] at hn; omega
    clear hn
    by_cases hlt : k < l.length
    · have hlt' : k < l.length := hlt
      obtain ⟨_, b, o, rfl, hB, hc⟩ := strs_get hh.out hb k hlt'
      have hr := hs l[k] (List.getElem_mem hlt')
      have htk' := Lib.hid (take_more l k hlt')
      have hsnoc' := Lib.hid (needN_snoc (l.take k) l[k])
      generalize l[k] = r at *
      have hn4 : nfr r ≤ 1311 := by unfold nfr; omega
      have hr2 : ¬ (65536 : Int) < r.size := by omega
      have hb' := Lib.hid hb
      clear hb
      generalize needN (l.take k) = m at *
      go_wp2_with (go_at_call 49; refine (rframes_walk _ r 1 0 hr (by omega)).mono ?_; rintro e w' ⟨g, cap', rfl, hown, hb2⟩)
      go_roundw
      case rel => exact ⟨k + 1, by omega, by go_num, by rw [htk'.out, hsnoc'.out]; go_num, hb'.out.trans ⟨hb2.os, hb2.tape, hb2.output, hb2.size, fun i hi => hb2.block i (Nat.lt_of_lt_of_le hi hb'.out.size)⟩⟩
      case measure => simp [intOf]; omega
    · obtain rfl : k = l.length := by omega
      rw [List.take_of_length_le (l := l) (Nat.le_refl l.length)] at hn2 ⊢
      have hb' := Lib.hid hb
      clear hb
      generalize hm : needN l = m at *
      have hm' := Lib.hid hm
      clear hm
      go_wp2_with fail
      go_ret
      exact ⟨by rw [hm'.out]; rfl, hb'.out⟩
end Go.Proofs.Ytlhnhhjpjkgogaa.wl
