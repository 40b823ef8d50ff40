/- confluentlaw48.WalSynced returns true whatever the input, and the input reads as it did: the statement, proved. -/
import Derived.Test.YtlhnhhjpjkgogaaRows
import Derived.Test.YtlhnhhjpjkgogaaWSynced
import Derived.Test.YtlhnhhjpjkgogaaM5
namespace Go.Proofs.Ytlhnhhjpjkgogaa.wl
open Go.ChangeShapes Go.WideShapes Go.ChangeAt Go.RowKit Go.Proofs.Ytlhnhhjpjkgogaa.agg Go.Proofs.Ytlhnhhjpjkgogaa.dk

theorem walSynced_own : ownKnob Try.prog.godebug = none := by kernel_rfl
theorem walSynced_laidOut : laidOutB Try.prog = true := by kernel_rfl

set_option maxRecDepth 100000 in
theorem walSynced_lifted (os : Os) (started : os.Started) (H : Type) (enc : TypeId × Value → H) :
    ReturnsInHanded {} Try.checked os 6 .any (Rows.walSyncedSpec.pre6 enc Try.prog Try.f6 Rows.walSyncedRow.domain false) (Rows.walSyncedSpec.post enc Try.prog Try.f6 false true false false) := by
  refine returnsInHanded_of_change (C := Try.checked) walSynced_own started (by kernel_rfl) Try.func6
    (ChangeSpec.witness6 (enc := enc) (C := Try.checked) false ⟨#[], #[.int .i64 0, .slice none 0 0, .slice none 0 0, .slice none 0 0], []⟩ 8 (by kernel_rfl) (by kernel_rfl) (by kernel_rfl) (by kernel_rfl)) ?_
  intro W base args ds gs before hval0 hW _ _
  have hval : ∀ (j : Nat) t v, Try.f6.params[j]? = some t → args[j]? = some v → Value.okWide Try.prog W .any base t v := hval0
  have hW' := hW
  obtain ⟨p, q, hA0, hV, rfl, hfz, hnd⟩ := hW
  have hA : DataW.TrodAll enc Try.prog W 0 (fun _ => true) true Try.f6.params.toList args.toList ds p := hA0
  rw [Try.params6] at hA hval
  obtain ⟨v0, vs0, d0, ds0, p0, q0, e0, rfl, rfl, h0, hA1⟩ := trodAll_cons hA
  obtain ⟨v1, vs1, d1, ds1, p1, q1, rfl, rfl, rfl, h1, hA2⟩ := trodAll_cons hA1
  obtain ⟨v2, vs2, d2, ds2, p2, q2, rfl, rfl, rfl, h2, hA3⟩ := trodAll_cons hA2
  obtain ⟨v3, vs3, d3, ds3, p3, q3, rfl, rfl, rfl, h3, hA4⟩ := trodAll_cons hA3
  obtain ⟨rfl, rfl, rfl⟩ := trodAll_nil hA4
  have eargs : args = #[v0, v1, v2, v3] := Array.ext' e0
  subst eargs
  obtain ⟨rfl, rfl⟩ := trodVars_none hV
  obtain ⟨sectors, rfl, rfl, rfl, wf_sectors⟩ := open_int Try.underlying3 (hval 0 3 v0 rfl rfl) h0
  obtain ⟨l, hl, hll⟩ := open_actsW (hval 1 40 v1 rfl rfl) h1
  obtain ⟨l2, hl2, hll2⟩ := open_strsU (hval 2 35 v2 rfl rfl) h2
  obtain ⟨l3, hl3, hll3⟩ := open_intsU (hval 3 47 v3 rfl rfl) h3
  clear hval0 hA hA1 hA2 hA3 hA4
  refine (synced_walk W sectors v1 l hl hll v2 l2 hl2 hll2 v3 l3 hl3 hll3).mono fun e W' ⟨he, hb⟩ => ?_
  subst he
  have hlt := hW'.lt
  refine ⟨_, rfl, _, _, _, [], _, [], hW', trodAll_cons_mk (shut_bool Try.underlying4 _) trodAll_mk0, trodAll_below walSynced_laidOut hb (by kernel_rfl) hA0 fun p hp => hlt p (by simpa using hp), rfl, hb.frame _, fun h => by cases h⟩

theorem walSynced_holds : Rows.WalSyncedSaid :=
  OpenClaim.holds_of_wide 6 Try.f6 rfl rfl rfl rfl rfl rfl rfl ⟨rfl, rfl, rfl, rfl, rfl⟩ rfl rfl rfl rfl rfl (by kernel_rfl) Try.func6 (by kernel_rfl)
    (of_decide_eq_true (by kernel_rfl)) (by unfold Func.isWrapper; first | (rw [if_pos (by decide +kernel)]; kernel_rfl) | (rw [if_neg (by decide +kernel)]; exact ⟨rfl, rfl⟩))
    (fun os started H enc _ => walSynced_lifted os started H enc)
end Go.Proofs.Ytlhnhhjpjkgogaa.wl
