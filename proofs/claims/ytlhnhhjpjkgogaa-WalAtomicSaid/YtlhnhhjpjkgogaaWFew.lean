/- How calls of a log lie in memory; the walk of the reference's Few. -/
import Derived.Test.YtlhnhhjpjkgogaaM1
namespace Go.Proofs.Ytlhnhhjpjkgogaa.wl
open Go.RowKit Go.Proofs.Ytlhnhhjpjkgogaa.agg Go.Proofs.Ytlhnhhjpjkgogaa.dk
set_option linter.unusedSimpArgs false
set_option linter.unusedVariables false

/-- A slice of strings that lies below block B. -/
def StrsUnder (B : Nat) (w : World) (v : Value) (l : List ByteArray) : Prop :=
  ∃ ao cap, v = .slice ao l.length cap ∧ (0 < l.length → ∃ b o, ao = some ⟨b, o, none⟩ ∧ b < B ∧ ∀ i, (hi : i < l.length) → w.cell? ⟨b, o + i, none⟩ = some (.string l[i]))
theorem StrsUnder.below {B : Nat} {w w' : World} {v : Value} {l : List ByteArray} (h : StrsUnder B w v l) (hb : Below B w w') : StrsUnder B w' v l := by
  obtain ⟨ao, cap, rfl, h⟩ := h
  refine ⟨ao, cap, rfl, fun h0 => ?_⟩
  obtain ⟨b, o, rfl, hB, hc⟩ := h h0
  exact ⟨b, o, rfl, hB, fun i hi => (hb.cell (p := ⟨b, o + i, none⟩) hB).trans (hc i hi)⟩
theorem StrsUnder.mono {B C : Nat} {w : World} {v : Value} {l : List ByteArray} (h : StrsUnder B w v l) (hC : B ≤ C) : StrsUnder C w v l := by
  obtain ⟨ao, cap, rfl, h⟩ := h
  refine ⟨ao, cap, rfl, fun h0 => ?_⟩
  obtain ⟨b, o, rfl, hB, hc⟩ := h h0
  exact ⟨b, o, rfl, Nat.lt_of_lt_of_le hB hC, hc⟩
/-- A slice of ints that lies below block B. -/
def IntsUnder (B : Nat) (w : World) (v : Value) (sv : List Int) : Prop :=
  ∃ ao cap, v = .slice ao sv.length cap ∧ (0 < sv.length → ∃ b o, ao = some ⟨b, o, none⟩ ∧ b < B ∧ ∀ i, i < sv.length → w.cell? ⟨b, o + i, none⟩ = some (.int .i64 (sv.getD i 0)))
theorem IntsUnder.below {B : Nat} {w w' : World} {v : Value} {sv : List Int} (h : IntsUnder B w v sv) (hb : Below B w w') : IntsUnder B w' v sv := by
  obtain ⟨ao, cap, rfl, h⟩ := h
  refine ⟨ao, cap, rfl, fun h0 => ?_⟩
  obtain ⟨b, o, rfl, hB, hc⟩ := h h0
  exact ⟨b, o, rfl, hB, fun i hi => (hb.cell (p := ⟨b, o + i, none⟩) hB).trans (hc i hi)⟩
/-- A call. -/
structure ActW where
  kind : Int
  rv : Value
  recs : List ByteArray
  svv : Value
  sv : List Int
  n : Int
def ActW.cells (x : ActW) : Array Value := #[.int .i64 x.kind, x.rv, x.svv, .int .i64 x.n]
/-- A slice of calls that lies below block B. -/
structure ActsW (B : Nat) (w : World) (v : Value) (l : List ActW) : Prop where
  at_ : ∃ ao cap, v = .slice ao l.length cap ∧ (0 < l.length → ∃ b o, ao = some ⟨b, o, none⟩ ∧ b < B ∧ ∀ i (h : i < l.length) j u, (l[i].cells).toList[j]? = some u → w.cell? ⟨b, o + i * 4 + j, none⟩ = some u)
  strs : ∀ x ∈ l, StrsUnder B w x.rv x.recs
  ints : ∀ x ∈ l, IntsUnder B w x.svv x.sv
theorem ActsW.below {B : Nat} {w w' : World} {v : Value} {l : List ActW} (h : ActsW B w v l) (hb : Below B w w') : ActsW B w' v l := by
  refine ⟨?_, fun x hx => (h.strs x hx).below hb, fun x hx => (h.ints x hx).below hb⟩
  obtain ⟨ao, cap, rfl, h1⟩ := h.at_
  refine ⟨ao, cap, rfl, fun h0 => ?_⟩
  obtain ⟨b, o, rfl, hB, hc⟩ := h1 h0
  exact ⟨b, o, rfl, hB, fun i hi j u hu => (hb.cell (p := ⟨b, o + i * 4 + j, none⟩) hB).trans (hc i hi j u hu)⟩

def fewOk (x : ActW) : Bool := decide (x.recs.length ≤ 6) && decide (x.sv.length ≤ 80) && x.recs.all (fun r => decide (r.size ≤ 300))
def fewW (l : List ActW) (most : Int) : Bool := l.all fewOk && decide ((l.length : Int) ≤ most)
theorem fewW_true {l : List ActW} {most : Int} (h : fewW l most = true) : (∀ x ∈ l, x.recs.length ≤ 6 ∧ x.sv.length ≤ 80 ∧ ∀ r ∈ x.recs, r.size ≤ 300) ∧ (l.length : Int) ≤ most := by
  unfold fewW fewOk at h
  simp only [Bool.and_eq_true, List.all_eq_true, decide_eq_true_eq] at h
  exact ⟨fun x hx => ⟨(h.1 x hx).1.1, (h.1 x hx).1.2, (h.1 x hx).2⟩, h.2⟩
theorem few_no {l : List ActW} {most : Int} {x : ActW} (hx : x ∈ l) (h : fewOk x = false) : fewW l most = false := by
  unfold fewW
  rw [Bool.and_eq_false_iff]
  left
  rw [List.all_eq_false]
  exact ⟨x, hx, by simp [h]⟩
theorem ret_b {a b : Bool} (h : a = b) : Ending.returned (.bool a) = .returned (.bool b) := by rw [h]
theorem take_more {α : Type} (l : List α) (k : Nat) (h : k < l.length) : l.take (k + 1) = l.take k ++ [l[k]] := by
  rw [List.take_succ_eq_append_getElem h]

set_option maxRecDepth 100000 in
set_option maxHeartbeats 2000000 in
theorem few48_any (B : Nat) (w : World) (v : Value) (l : List ActW) (h : ActsW B w v l) (most : Int) (hl : l.length ≤ 9223372036854775807) :
    Calls Try.prog 13 #[v, .int .i64 most] w fun e w' => e = .returned (.bool (fewW l most)) ∧ w = w' := by
  obtain ⟨ao, cap, rfl, hat⟩ := h.at_
  go_enter Try.func13, Try.ntmps13
  go_wp2_with fail
  go_loop [5] (fun i => ∃ k : Nat, k ≤ l.length ∧ i = .int .i64 k ∧ ∀ x ∈ l.take k, fewOk x = true) (fun i => l.length - (intOf i).toNat)
  case atStart => exact ⟨0, Nat.zero_le _, rfl, by simp⟩
  case round =>
    obtain ⟨k, hk, rfl, hs⟩ := hrel
    by_cases hlt : k < l.length
    · have hlt' : k < l.length := hlt
      obtain ⟨b, o, rfl, hB, hc⟩ := hat (by omega)
      have hc1 := hc k hlt' 1 l[k].rv rfl
      have hc2 := hc k hlt' 2 l[k].svv rfl
      obtain ⟨ao1, cap1, e1, hst⟩ := h.strs l[k] (List.getElem_mem hlt')
      obtain ⟨ao2, cap2, e2, _⟩ := h.ints l[k] (List.getElem_mem hlt')
      rw [e1] at hc1
      rw [e2] at hc2
      have htk := take_more l k hlt'
      have htk' := Lib.hid htk
      have hmem : l[k] ∈ l := List.getElem_mem hlt'
      have hmem' := Lib.hid hmem
      have hs' := Lib.hid hs
      clear htk e1 e2 hat hc h hs hmem
      generalize l[k] = x at *
      by_cases h6 : x.recs.length ≤ 6
      · by_cases h80 : x.sv.length ≤ 80
        · have g1 : ¬ (6 : Int) < (x.recs.length : Int) := by omega
          have g2 : ¬ (80 : Int) < (x.sv.length : Int) := by omega
          have hst' := Lib.hid hst
          clear hst
          go_wp2_with fail
          go_loop [6] (fun i => ∃ j : Nat, j ≤ x.recs.length ∧ i = .int .i64 j ∧ ∀ r ∈ x.recs.take j, r.size ≤ 300) (fun i => x.recs.length - (intOf i).toNat)
          case atStart => exact ⟨0, Nat.zero_le _, rfl, by simp⟩
          case round =>
            obtain ⟨j, hj, rfl, hr⟩ := hrel
            by_cases hjl : j < x.recs.length
            · have hjl' : j < x.recs.length := hjl
              obtain ⟨b1, o1, rfl, hB1, hcs⟩ := hst'.out (by omega)
              have hcj := hcs j hjl'
              have htj' := Lib.hid (take_more x.recs j hjl')
              have hm' := Lib.hid (List.getElem_mem hjl')
              have hr' := Lib.hid hr
              clear hcs hr
              generalize x.recs[j] = r at *
              by_cases h3 : r.size ≤ 300
              · have g3 : ¬ (300 : Int) < (r.size : Int) := by omega
                go_wp2_with fail
                go_round
                case rel => exact ⟨j + 1, by omega, by go_num, by rw [htj'.out]; exact fun y hy => (List.mem_append.1 hy).elim (hr'.out y) (fun e => by simp at e; subst e; exact h3)⟩
                case measure => simp [intOf]; omega
              · have g3 : (300 : Int) < (r.size : Int) := by omega
                have hfin' := Lib.hid (few_no (most := most) hmem'.out (x := x) (by
                  unfold fewOk
                  rw [Bool.and_eq_false_iff]
                  right
                  rw [List.all_eq_false]
                  exact ⟨r, hm'.out, by simpa using h3⟩))
                go_wp2_with fail
                go_ret
                exact ⟨ret_b hfin'.out.symm, rfl⟩
            · obtain rfl : j = x.recs.length := by omega
              have hok' : Hid (fewOk x = true) := by
                have : ∀ r ∈ x.recs, r.size ≤ 300 := by rw [List.take_of_length_le (Nat.le_refl _)] at hr; exact hr
                show fewOk x = true
                unfold fewOk
                simp only [Bool.and_eq_true, decide_eq_true_eq, List.all_eq_true]
                exact ⟨⟨h6, h80⟩, this⟩
              clear hr
              go_wp2_with fail
              go_round
              case rel => exact ⟨k + 1, by omega, by go_num, by rw [htk'.out]; exact fun y hy => (List.mem_append.1 hy).elim (hs'.out y) (fun e => by simp at e; subst e; exact hok'.out)⟩
              case measure => simp [intOf]; omega
        · have g1 : ¬ (6 : Int) < (x.recs.length : Int) := by omega
          have g2 : (80 : Int) < (x.sv.length : Int) := by omega
          have hfin' := Lib.hid (few_no (most := most) hmem'.out (x := x) (by unfold fewOk; simp [h80]))
          go_wp2_with fail
          go_ret
          exact ⟨ret_b hfin'.out.symm, rfl⟩
      · have g1 : (6 : Int) < (x.recs.length : Int) := by omega
        have hfin' := Lib.hid (few_no (most := most) hmem'.out (x := x) (by unfold fewOk; simp [h6]))
        go_wp2_with fail
        go_ret
        exact ⟨ret_b hfin'.out.symm, rfl⟩
    · obtain rfl : k = l.length := by omega
      have hfin : fewW l most = decide ((l.length : Int) ≤ most) := by
        unfold fewW
        have : l.all fewOk = true := by
          rw [List.all_eq_true]
          rw [List.take_of_length_le (Nat.le_refl _)] at hs
          exact hs
        rw [this, Bool.true_and]
      have hfin' := Lib.hid hfin
      clear hfin hs
      go_wp2_with fail
      go_ret
      exact ⟨ret_b hfin'.out.symm, rfl⟩
end Go.Proofs.Ytlhnhhjpjkgogaa.wl
