/- confluentlaw47.DiskDurable returns true whatever the input, and the input reads as it did: the statement, proved. -/
import Derived.Test.YtakehkoicinlbaaRows
import Derived.Test.YtakehkoicinlbaaDDurable
import Derived.Test.YtakehkoicinlbaaDOpen
namespace Go.Proofs.Ytakehkoicinlbaa.dk
open Go.ChangeShapes Go.WideShapes Go.ChangeAt Go.RowKit Go.Proofs.Ytakehkoicinlbaa.agg

theorem own : ownKnob Try.prog.godebug = none := by kernel_rfl
theorem laidOut : laidOutB Try.prog = true := by kernel_rfl

set_option maxRecDepth 100000 in
theorem durable_lifted (os : Os) (started : os.Started) (H : Type) (enc : TypeId × Value → H) :
    ReturnsInHanded {} Try.checked os 3 .any (Rows.diskDurableSpec.pre6 enc Try.prog Try.f3 Rows.diskDurableRow.domain false) (Rows.diskDurableSpec.post enc Try.prog Try.f3 false true false false) := by
  refine returnsInHanded_of_change (C := Try.checked) own started (by kernel_rfl) Try.func3
    (ChangeSpec.witness6 (enc := enc) (C := Try.checked) false ⟨#[], #[.int .i64 0, .int .i64 0, .agg (Array.replicate 64 (.int .u8 0)), .slice none 0 0, .slice none 0 0], []⟩ 8 (by kernel_rfl) (by kernel_rfl) (by kernel_rfl) (by kernel_rfl)) ?_
  intro W base args ds gs before hval0 hW _ _
  have hval : ∀ (j : Nat) t v, Try.f3.params[j]? = some t → args[j]? = some v → Value.okWide Try.prog W .any base t v := hval0
  have hW' := hW
  obtain ⟨p, q, hA0, hV, rfl, hfz, hnd⟩ := hW
  have hA : DataW.TrodAll enc Try.prog W 0 (fun _ => true) true Try.f3.params.toList args.toList ds p := hA0
  rw [Try.params3] at hA hval
  obtain ⟨v0, vs0, d0, ds0, p0, q0, e0, rfl, rfl, h0, hA1⟩ := trodAll_cons hA
  obtain ⟨v1, vs1, d1, ds1, p1, q1, rfl, rfl, rfl, h1, hA2⟩ := trodAll_cons hA1
  obtain ⟨v2, vs2, d2, ds2, p2, q2, rfl, rfl, rfl, h2, hA3⟩ := trodAll_cons hA2
  obtain ⟨v3, vs3, d3, ds3, p3, q3, rfl, rfl, rfl, h3, hA4⟩ := trodAll_cons hA3
  obtain ⟨v4, vs4, d4, ds4, p4, q4, rfl, rfl, rfl, h4, hA5⟩ := trodAll_cons hA4
  obtain ⟨rfl, rfl, rfl⟩ := trodAll_nil hA5
  have eargs : args = #[v0, v1, v2, v3, v4] := Array.ext' e0
  subst eargs
  obtain ⟨rfl, rfl⟩ := trodVars_none hV
  obtain ⟨sectors, rfl, rfl, rfl, _⟩ := open_int Try.underlying3 (hval 0 3 v0 rfl rfl) h0
  obtain ⟨n, rfl, rfl, rfl, _⟩ := open_int Try.underlying3 (hval 1 3 v1 rfl rfl) h1
  obtain ⟨data, hdata, rfl, _⟩ := open_sec (hval 2 23 v2 rfl rfl) h2
  obtain ⟨l, hl, hlm⟩ := open_sact (hval 3 24 v3 rfl rfl) h3
  obtain ⟨sv, hs, _⟩ := open_sint (hval 4 25 v4 rfl rfl) h4
  clear hval0 hA hA1 hA2 hA3 hA4 hA5
  refine (durable_walk W sectors n data hdata v3 l hl hlm v4 sv hs).mono fun e W' ⟨he, hb⟩ => ?_
  subst he
  have hlt := hW'.lt
  refine ⟨_, rfl, _, _, _, [], _, [], hW', trodAll_cons_mk (shut_bool Try.underlying4 _) trodAll_mk0, trodAll_below laidOut hb (by kernel_rfl) hA0 fun p hp => hlt p (by simpa using hp), rfl, hb.frame _, fun h => by cases h⟩

theorem durable_holds : Rows.DiskDurableSaid :=
  OpenClaim.holds_of_wide 3 Try.f3 rfl rfl rfl rfl rfl rfl rfl ⟨rfl, rfl, rfl, rfl, rfl⟩ rfl rfl rfl rfl rfl (by kernel_rfl) Try.func3 (by kernel_rfl)
    (of_decide_eq_true (by kernel_rfl)) (by unfold Func.isWrapper; first | (rw [if_pos (by decide +kernel)]; kernel_rfl) | (rw [if_neg (by decide +kernel)]; exact ⟨rfl, rfl⟩))
    (fun os started H enc _ => durable_lifted os started H enc)
end Go.Proofs.Ytakehkoicinlbaa.dk
