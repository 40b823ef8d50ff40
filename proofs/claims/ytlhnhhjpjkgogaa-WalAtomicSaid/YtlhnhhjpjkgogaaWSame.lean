/- The walk of the reference's Same. -/
import Derived.Test.YtlhnhhjpjkgogaaM1
import Derived.Deep.QuietTactic
import Derived.BigQuiet
namespace Go.Proofs.Ytlhnhhjpjkgogaa.wl
open Go.RowKit Go.Proofs.Ytlhnhhjpjkgogaa.agg Go.Proofs.Ytlhnhhjpjkgogaa.dk

/-- A slice of strings that is read. -/
def StrsIn (w : World) (v : Value) (l : List ByteArray) : Prop :=
  ∃ ao cap, v = .slice ao l.length cap ∧ ∀ j, (hj : j < l.length) → ∃ b o, ao = some ⟨b, o, none⟩ ∧ w.cell? ⟨b, o + j, none⟩ = some (.string l[j])
theorem beq_str (a b : ByteArray) : (a.toList == b.toList) = decide (a = b) := by
  rw [ByteArray.toList_eq, ByteArray.toList_eq]
  by_cases h : a = b
  · subst h; simp
  · rw [decide_eq_false h, beq_eq_false_iff_ne]
    intro e
    refine h ?_
    obtain ⟨⟨x⟩⟩ := a
    obtain ⟨⟨y⟩⟩ := b
    simp only at e
    rw [e]
set_option maxHeartbeats 1000000 in
theorem rsame_walk (w : World) (v1 v2 : Value) (a b : List ByteArray) (h1 : StrsIn w v1 a) (h2 : StrsIn w v2 b) (hl : a.length < 1000000) (hl2 : b.length < 1000000) :
    Calls Try.prog 36 #[v1, v2] w fun e w' => e = .returned (.bool (decide (a = b))) ∧ ∃ n, w' = w.drewN n := by
  obtain ⟨ao, ca, rfl, h1⟩ := h1
  obtain ⟨bo, cb, rfl, h2⟩ := h2
  by_cases hlen : a.length = b.length
  · have h1' := Lib.hid h1
    have h2' := Lib.hid h2
    have hne : ((a.length : Int) != (b.length : Int)) = false := by simp [hlen]
    have hlen' := Lib.hid hlen
    clear h1 h2 hlen
    go_enter Try.func36, Try.ntmps36
    go_wp2_with fail
    go_loopw [5] (fun i wr => ∃ j : Nat, j ≤ a.length ∧ i = .int .i64 j ∧ (∃ n, wr = w.drewN n) ∧ a.take j = b.take j) (fun i _ => a.length - (intOf i).toNat)
    case atStart => exact ⟨0, Nat.zero_le _, rfl, ⟨0, rfl⟩, rfl⟩
    case round =>
      obtain ⟨j, hj, rfl, ⟨n0, rfl⟩, htk⟩ := hrel
      have htk' := Lib.hid htk
      clear htk
      by_cases hlt : j < a.length
      · have hlb : j < b.length := by have := hlen'.out; omega
        obtain ⟨b1, o1, rfl, c1⟩ := h1'.out j hlt
        obtain ⟨b2, o2, rfl, c2⟩ := h2'.out j hlb
        have hb := beq_str a[j] b[j]
        by_cases he : a[j] = b[j]
        · rw [decide_eq_true he] at hb
          have he' : Hid (a.take (j + 1) = b.take (j + 1)) := by
            rw [List.take_succ_eq_append_getElem hlt, List.take_succ_eq_append_getElem hlb, htk'.out, he]
            exact rfl
          clear he
          generalize a[j] = x at *
          generalize b[j] = y at *
          go_wp2_with fail
          go_quiet (fail)
          go_wp2_with fail
          refine ⟨⟨j + 1, by omega, by go_num, ⟨_, rfl⟩, he'.out⟩, by simp [intOf]; omega⟩
        · rw [decide_eq_false he] at hb
          have hab : Hid (decide (a = b) = false) := Lib.hid (decide_eq_false (fun e => by subst e; exact he rfl))
          clear he
          generalize a[j] = x at *
          generalize b[j] = y at *
          go_wp2_with fail
          go_quiet (fail)
          go_wp2_with fail
          go_ret
          exact ⟨by rw [hab.out]; rfl, n0 + nq, by rw [World.drewN_drewN]⟩
      · obtain rfl : j = a.length := by omega
        have hab : Hid (decide (a = b) = true) := Lib.hid (decide_eq_true (by
          have := htk'.out
          rw [List.take_of_length_le (Nat.le_refl _), List.take_of_length_le (by have := hlen'.out; omega)] at this
          exact this))
        go_wp2_with fail
        go_ret
        exact ⟨by rw [hab.out]; rfl, n0, rfl⟩
  · have hab : Hid (decide (a = b) = false) := Lib.hid (decide_eq_false (fun e => by subst e; exact hlen rfl))
    have hne : ((a.length : Int) != (b.length : Int)) = true := by simp; omega
    clear hlen h1 h2
    go_enter Try.func36, Try.ntmps36
    go_wp2_with fail
    go_ret
    exact ⟨by rw [hab.out]; rfl, 0, rfl⟩
end Go.Proofs.Ytlhnhhjpjkgogaa.wl
