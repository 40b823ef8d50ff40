/- confluentlaw48.WalAtomic returns true whatever the input, and the input reads as it did: the statement, proved. -/
import Derived.Test.YtlhnhhjpjkgogaaRows
import Derived.Test.YtlhnhhjpjkgogaaWAtomic
import Derived.Test.YtlhnhhjpjkgogaaM5
namespace Go.Proofs.Ytlhnhhjpjkgogaa.wl
open Go.ChangeShapes Go.WideShapes Go.ChangeAt Go.RowKit Go.Proofs.Ytlhnhhjpjkgogaa.agg Go.Proofs.Ytlhnhhjpjkgogaa.dk

theorem walAtomic_own : ownKnob Try.prog.godebug = none := by kernel_rfl
theorem walAtomic_laidOut : laidOutB Try.prog = true := by kernel_rfl

set_option maxRecDepth 100000 in
theorem walAtomic_lifted (os : Os) (started : os.Started) (H : Type) (enc : TypeId × Value → H) :
    ReturnsInHanded {} Try.checked os 7 .any (Rows.walAtomicSpec.pre6 enc Try.prog Try.f7 Rows.walAtomicRow.domain false) (Rows.walAtomicSpec.post enc Try.prog Try.f7 false true false false) := by
  refine returnsInHanded_of_change (C := Try.checked) walAtomic_own started (by kernel_rfl) Try.func7
    (ChangeSpec.witness6 (enc := enc) (C := Try.checked) false ⟨#[], #[.int .i64 0, .slice none 0 0, .slice none 0 0, .slice none 0 0, .int .u8 0, .slice none 0 0], []⟩ 8 (by kernel_rfl) (by kernel_rfl) (by kernel_rfl) (by kernel_rfl)) ?_
  intro W base args ds gs before hval0 hW _ _
  have hval : ∀ (j : Nat) t v, Try.f7.params[j]? = some t → args[j]? = some v → Value.okWide Try.prog W .any base t v := hval0
  have hW' := hW
  obtain ⟨p, q, hA0, hV, rfl, hfz, hnd⟩ := hW
  have hA : DataW.TrodAll enc Try.prog W 0 (fun _ => true) true Try.f7.params.toList args.toList ds p := hA0
  rw [Try.params7] at hA hval
  obtain ⟨v0, vs0, d0, ds0, p0, q0, e0, rfl, rfl, h0, hA1⟩ := trodAll_cons hA
  obtain ⟨v1, vs1, d1, ds1, p1, q1, rfl, rfl, rfl, h1, hA2⟩ := trodAll_cons hA1
  obtain ⟨v2, vs2, d2, ds2, p2, q2, rfl, rfl, rfl, h2, hA3⟩ := trodAll_cons hA2
  obtain ⟨v3, vs3, d3, ds3, p3, q3, rfl, rfl, rfl, h3, hA4⟩ := trodAll_cons hA3
  obtain ⟨v4, vs4, d4, ds4, p4, q4, rfl, rfl, rfl, h4, hA5⟩ := trodAll_cons hA4
  obtain ⟨v5, vs5, d5, ds5, p5, q5, rfl, rfl, rfl, h5, hA6⟩ := trodAll_cons hA5
  obtain ⟨rfl, rfl, rfl⟩ := trodAll_nil hA6
  have eargs : args = #[v0, v1, v2, v3, v4, v5] := Array.ext' e0
  subst eargs
  obtain ⟨rfl, rfl⟩ := trodVars_none hV
  obtain ⟨sectors, rfl, rfl, rfl, wf_sectors⟩ := open_int Try.underlying3 (hval 0 3 v0 rfl rfl) h0
  obtain ⟨l1, hl1, hll1⟩ := open_strsU (hval 1 35 v1 rfl rfl) h1
  obtain ⟨l2, hl2, hll2⟩ := open_strsU (hval 2 35 v2 rfl rfl) h2
  obtain ⟨l3, hl3, hll3⟩ := open_strsU (hval 3 35 v3 rfl rfl) h3
  obtain ⟨after, rfl, rfl, rfl, wf_after⟩ := open_int Try.underlying5 (hval 4 5 v4 rfl rfl) h4
  have hk : 0 ≤ after ∧ after < 256 := by
    have h : IntKind.u8.min ≤ after ∧ after ≤ IntKind.u8.max := by simpa [Lit.wf] using wf_after
    rw [show IntKind.u8.min = 0 by rfl, show IntKind.u8.max = 255 by rfl] at h
    omega
  obtain ⟨l5, hl5, hll5⟩ := open_intsU (hval 5 47 v5 rfl rfl) h5
  clear hval0 hA hA1 hA2 hA3 hA4 hA5 hA6
  refine (atomic_walk W sectors v1 l1 hl1 v2 l2 hl2 v3 l3 hl3 after hk v5 l5 hl5 hll5).mono fun e W' ⟨he, hb⟩ => ?_
  subst he
  have hlt := hW'.lt
  refine ⟨_, rfl, _, _, _, [], _, [], hW', trodAll_cons_mk (shut_bool Try.underlying4 _) trodAll_mk0, trodAll_below walAtomic_laidOut hb (by kernel_rfl) hA0 fun p hp => hlt p (by simpa using hp), rfl, hb.frame _, fun h => by cases h⟩

theorem walAtomic_holds : Rows.WalAtomicSaid :=
  OpenClaim.holds_of_wide 7 Try.f7 rfl rfl rfl rfl rfl rfl rfl ⟨rfl, rfl, rfl, rfl, rfl⟩ rfl rfl rfl rfl rfl (by kernel_rfl) Try.func7 (by kernel_rfl)
    (of_decide_eq_true (by kernel_rfl)) (by unfold Func.isWrapper; first | (rw [if_pos (by decide +kernel)]; kernel_rfl) | (rw [if_neg (by decide +kernel)]; exact ⟨rfl, rfl⟩))
    (fun os started H enc _ => walAtomic_lifted os started H enc)
end Go.Proofs.Ytlhnhhjpjkgogaa.wl
