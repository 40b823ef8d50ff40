/- confluentlaw48.WalTorn returns true whatever the input, and the input reads as it did: the statement, proved. -/
import Derived.Test.YtlhnhhjpjkgogaaRows
import Derived.Test.YtlhnhhjpjkgogaaWTornLaw
import Derived.Test.YtlhnhhjpjkgogaaWTornRow
namespace Go.Proofs.Ytlhnhhjpjkgogaa.wl
open Go.ChangeShapes Go.WideShapes Go.ChangeAt Go.RowKit Go.Proofs.Ytlhnhhjpjkgogaa.agg Go.Proofs.Ytlhnhhjpjkgogaa.dk

theorem walTorn_own : ownKnob Try.prog.godebug = none := by kernel_rfl
theorem walTorn_laidOut : laidOutB Try.prog = true := by kernel_rfl

set_option maxRecDepth 100000 in
theorem walTorn_lifted (os : Os) (started : os.Started) (H : Type) (enc : TypeId × Value → H) :
    ReturnsInHanded {} Try.checked os 3 .any (Rows.walTornSpec.pre6 enc Try.prog Try.f3 Rows.walTornRow.domain false) (Rows.walTornSpec.post enc Try.prog Try.f3 false true false false) := by
  refine returnsInHanded_of_change (C := Try.checked) walTorn_own started (by kernel_rfl) Try.func3
    (ChangeSpec.witness6 (enc := enc) (C := Try.checked) false ⟨#[], #[.agg #[.int .i64 0, .int .i64 0, .int .i64 0, .string ⟨#[]⟩], .agg #[.int .i64 0, .int .i64 0, .int .i64 0, .string ⟨#[]⟩], .int .u8 0], []⟩ 8 (by kernel_rfl) (by kernel_rfl) (by kernel_rfl) (by kernel_rfl)) ?_
  intro W base args ds gs before hval0 hW _ _
  have hval : ∀ (j : Nat) t v, Try.f3.params[j]? = some t → args[j]? = some v → Value.okWide Try.prog W .any base t v := hval0
  have hW' := hW
  obtain ⟨p, q, hA0, hV, rfl, hfz, hnd⟩ := hW
  have hA : DataW.TrodAll enc Try.prog W 0 (fun _ => true) true Try.f3.params.toList args.toList ds p := hA0
  rw [Try.params3] at hA hval
  obtain ⟨v0, vs0, d0, ds0, p0, q0, e0, rfl, rfl, h0, hA1⟩ := trodAll_cons hA
  obtain ⟨v1, vs1, d1, ds1, p1, q1, rfl, rfl, rfl, h1, hA2⟩ := trodAll_cons hA1
  obtain ⟨v2, vs2, d2, ds2, p2, q2, rfl, rfl, rfl, h2, hA3⟩ := trodAll_cons hA2
  obtain ⟨rfl, rfl, rfl⟩ := trodAll_nil hA3
  have eargs : args = #[v0, v1, v2] := Array.ext' e0
  subst eargs
  obtain ⟨rfl, rfl⟩ := trodVars_none hV
  obtain ⟨f, rfl, hzf⟩ := open_frame (hval 0 23 v0 rfl rfl) h0
  obtain ⟨g, rfl, hzg⟩ := open_frame (hval 1 23 v1 rfl rfl) h1
  obtain ⟨front, rfl, rfl, rfl, wf_front⟩ := open_int Try.underlying5 (hval 2 5 v2 rfl rfl) h2
  have hfr : 0 ≤ front ∧ front < 256 := by
    have h : IntKind.u8.min ≤ front ∧ front ≤ IntKind.u8.max := by simpa [Lit.wf] using wf_front
    rw [show IntKind.u8.min = 0 by rfl, show IntKind.u8.max = 255 by rfl] at h
    omega
  clear hval0 hA hA1 hA2 hA3
  refine (torn_walk W f g front hfr).mono fun e W' ⟨he, hb⟩ => ?_
  subst he
  have hlt := hW'.lt
  refine ⟨_, rfl, _, _, _, [], _, [], hW', trodAll_cons_mk (shut_bool Try.underlying4 _) trodAll_mk0, trodAll_below walTorn_laidOut hb (by kernel_rfl) hA0 fun p hp => hlt p (by simpa using hp), rfl, hb.frame _, fun h => by cases h⟩

theorem walTorn_holds : Rows.WalTornSaid :=
  OpenClaim.holds_of_wide 3 Try.f3 rfl rfl rfl rfl rfl rfl rfl ⟨rfl, rfl, rfl, rfl, rfl⟩ rfl rfl rfl rfl rfl (by kernel_rfl) Try.func3 (by kernel_rfl)
    (of_decide_eq_true (by kernel_rfl)) (by unfold Func.isWrapper; first | (rw [if_pos (by decide +kernel)]; kernel_rfl) | (rw [if_neg (by decide +kernel)]; exact ⟨rfl, rfl⟩))
    (fun os started H enc _ => walTorn_lifted os started H enc)
end Go.Proofs.Ytlhnhhjpjkgogaa.wl
