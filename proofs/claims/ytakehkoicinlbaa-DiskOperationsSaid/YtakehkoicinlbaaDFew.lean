/- The walk of confluentref47.Few; how calls and numbers lie in memory. -/
import Derived.Test.YtakehkoicinlbaaDDo
namespace Go.Proofs.Ytakehkoicinlbaa.dk
open Go.RowKit Go.Proofs.Ytakehkoicinlbaa.agg

/-- A slice of ints that lies below block B. -/
def IntsIn (B : Nat) (w : World) (v : Value) (sv : List Int) : Prop :=
  ∃ ao cap, v = .slice ao sv.length cap ∧ (0 < sv.length → ∃ b o, ao = some ⟨b, o, none⟩ ∧ b < B ∧ ∀ i, i < sv.length → w.cell? ⟨b, o + i, none⟩ = some (.int .i64 (sv.getD i 0)))
theorem IntsIn.below {B : Nat} {w w' : World} {v : Value} {sv : List Int} (h : IntsIn B w v sv) (hb : Below B w w') : IntsIn B w' v sv := by
  obtain ⟨ao, cap, rfl, h⟩ := h
  refine ⟨ao, cap, rfl, fun h0 => ?_⟩
  obtain ⟨b, o, rfl, hB, hc⟩ := h h0
  exact ⟨b, o, rfl, hB, fun i hi => (hb.cell (p := ⟨b, o + i, none⟩) hB).trans (hc i hi)⟩
theorem IntsIn.at {B : Nat} {w : World} {v : Value} {sv : List Int} (h : IntsIn B w v sv) {F : Nat → Prop} (hF : ∀ k, F k → B ≤ k) : IntsAt w F v sv := by
  obtain ⟨ao, cap, rfl, h⟩ := h
  refine ⟨ao, cap, rfl, fun h0 => ?_⟩
  obtain ⟨b, o, rfl, hB, hc⟩ := h h0
  exact ⟨b, o, rfl, fun f => by have := hF b f; omega, hc⟩
/-- A slice of calls that lies below block B. -/
structure ActsIn (B : Nat) (w : World) (v : Value) (l : List ActV) : Prop where
  at_ : ∃ ao cap, v = .slice ao l.length cap ∧ (0 < l.length → ∃ b o, ao = some ⟨b, o, none⟩ ∧ b < B ∧ ∀ i (h : i < l.length) j u, (acells l[i]).toList[j]? = some u → w.cell? ⟨b, o + i * 68 + j, none⟩ = some u)
  data : ∀ x ∈ l, x.data.length = 64
  ints : ∀ x ∈ l, IntsIn B w x.svv x.sv
theorem ActsIn.below {B : Nat} {w w' : World} {v : Value} {l : List ActV} (h : ActsIn B w v l) (hb : Below B w w') : ActsIn B w' v l := by
  refine ⟨?_, h.data, fun x hx => (h.ints x hx).below hb⟩
  obtain ⟨ao, cap, rfl, h1⟩ := h.at_
  refine ⟨ao, cap, rfl, fun h0 => ?_⟩
  obtain ⟨b, o, rfl, hB, hc⟩ := h1 h0
  exact ⟨b, o, rfl, hB, fun i hi j u hu => (hb.cell (p := ⟨b, o + i * 68 + j, none⟩) hB).trans (hc i hi j u hu)⟩

def fewB (l : List ActV) (most : Int) : Bool := l.all (fun x => decide (x.sv.length ≤ 60)) && decide ((l.length : Int) ≤ most)
theorem fewB_true {l : List ActV} {most : Int} (h : fewB l most = true) : (∀ x ∈ l, x.sv.length ≤ 60) ∧ (l.length : Int) ≤ most := by
  unfold fewB at h
  simpa using h

theorem ret_bool {a b : Bool} (h : a = b) : Ending.returned (.bool a) = .returned (.bool b) := by rw [h]

set_option maxHeartbeats 1000000 in
theorem few_any (B : Nat) (w : World) (v : Value) (l : List ActV) (h : ActsIn B w v l) (most : Int) (hl : l.length ≤ 9223372036854775807) :
    Calls Try.prog 10 #[v, .int .i64 most] w fun e w' => e = .returned (.bool (fewB l most)) ∧ w = w' := by
  obtain ⟨ao, cap, rfl, hat⟩ := h.at_
  go_enter Try.func10, Try.ntmps10
  go_wp2_with fail
  go_loop [5] (fun i => ∃ k : Nat, k ≤ l.length ∧ i = .int .i64 k ∧ ∀ x ∈ l.take k, x.sv.length ≤ 60) (fun i => l.length - (intOf i).toNat)
  case atStart => exact ⟨0, Nat.zero_le _, rfl, by simp⟩
  case round =>
    obtain ⟨k, hk, rfl, hs⟩ := hrel
    by_cases hlt : k < l.length
    · have hlt' : k < l.length := hlt
      obtain ⟨b, o, rfl, hB, hc⟩ := hat (by omega)
      have hd := h.data l[k] (List.getElem_mem hlt')
      have hc66 := hc k hlt' 66 l[k].svv (by rw [Array.getElem?_toList]; exact (acells_get l[k] hd).2.2.1)
      obtain ⟨ao2, cap2, e2, _⟩ := h.ints l[k] (List.getElem_mem hlt')
      rw [e2] at hc66
      have htk : l.take (k + 1) = l.take k ++ [l[k]] := take_snoc' l k hlt'
      have htk' := Lib.hid htk
      have hmem : l[k] ∈ l := List.getElem_mem hlt'
      have hs' := Lib.hid hs
      clear htk e2 hat hc h hd hs
      generalize l[k] = x at *
      by_cases h60 : x.sv.length ≤ 60
      · have h60' : decide ((60 : Int) < (x.sv.length : Int)) = false := by simp; omega
        go_wp2
        go_round
        case rel => exact ⟨k + 1, by omega, by go_num, by rw [htk'.out]; exact fun y hy => (List.mem_append.1 hy).elim (hs'.out y) (fun e => by simp at e; subst e; exact h60)⟩
        case measure => simp [intOf]; omega
      · have h60' : decide ((60 : Int) < (x.sv.length : Int)) = true := by simp; omega
        have hfin : fewB l most = false := by
          unfold fewB
          rw [Bool.and_eq_false_iff]
          left
          rw [List.all_eq_false]
          exact ⟨x, hmem, by simpa using h60⟩
        have hfin' := Lib.hid hfin
        clear hfin
        go_wp2
        go_ret
        exact ⟨ret_bool hfin'.out.symm, rfl⟩
    · obtain rfl : k = l.length := by omega
      have hfin : fewB l most = decide ((l.length : Int) ≤ most) := by
        unfold fewB
        have : l.all (fun x => decide (x.sv.length ≤ 60)) = true := by
          rw [List.all_eq_true]
          intro x hx
          rw [List.take_of_length_le (Nat.le_refl _)] at hs
          simpa using hs x hx
        rw [this, Bool.true_and]
      have hfin' := Lib.hid hfin
      clear hfin hs
      go_wp2
      go_ret
      exact ⟨ret_bool hfin'.out.symm, rfl⟩
end Go.Proofs.Ytakehkoicinlbaa.dk
