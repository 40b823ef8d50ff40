/- confluentlaw04.ParserSpaces returns true whatever the input, and the input reads as it did: the statement, its tied card, proved. -/
import Derived.Test.YthggagophcnkfaaGreatDoorCards
import Derived.Test.YthggagophcnkfaaGreatDoorPRow
import Derived.Test.YthggagophcnkfaaGreatDoorSpaces
namespace Go.Proofs.YthggagophcnkfaaGreatDoor.px
open Go.ChangeShapes Go.WideShapes Go.ChangeAt Go.RowKit Go.Joins Go.ChangeMaps Go.Proofs.YthggagophcnkfaaGreatDoor.agg Go.Proofs.YthggagophcnkfaaGreatDoor.sx Go.Proofs.YthggagophcnkfaaGreatDoor.lx

section
variable {H : Type} {enc : TypeId × Value → H} {w : World} {base : Nat} {spare : Nat → Bool} {held : Bool} {fuel : Nat}
set_option maxRecDepth 100000 in
/-- A slice of bytes that is read. -/
theorem open_bytesU {r : Reach} {b0 : Nat} {v : Value} {d : DataW H} {ps : List MemPlace} (hval : Value.okWide Tryz.prog w r b0 51 v) (hd : DataW.Trod enc Tryz.prog w base spare held 51 v d ps) : BytesU w v := by
  obtain ⟨fuel, hf⟩ := hd
  obtain ⟨a0, len0, cap0, rfl⟩ := okWide_slice Tryz.underlying51 hval
  have hf2 : DataW.trod enc Tryz.prog w base spare held fuel 51 [.slice a0 len0 cap0] = some (d, ps) := hf
  rcases open_ints Tryz.underlying51 Tryz.underlying5 (by kernel_rfl) hf2 with ⟨h0, _⟩ | ⟨a, len, cap, zs, hv, _, hl, hm, hz, _, hc, hw⟩
  · rw [List.cons.inj h0 |>.1]
    exact ⟨none, 0, 0, [], rfl, by decide, fun i hi => by omega⟩
  · rw [List.cons.inj hv |>.1]
    have hlz : len ≤ zs.length := by rw [hz]; split <;> omega
    refine ⟨some a, cap, len, zs.map Int.toNat, rfl, Nat.le_trans hl hm, fun i hi => ?_⟩
    have hi2 : i < zs.length := by omega
    have hci := hc i hi2
    have hc0 := hc 0 (by omega)
    obtain ⟨b, o, spot⟩ := a
    have hs : spot = none := by simpa [Addr.add] using World.cell?_spot hc0
    subst hs
    have hwf := hw zs[i] (List.getElem_mem hi2)
    simp only [Lit.wf, IntKind.min, IntKind.max, IntKind.signed, IntKind.bits, Bool.and_eq_true, decide_eq_true_eq, Bool.false_eq_true, if_false] at hwf
    have e1 : (zs.map Int.toNat).getD i 0 = zs[i].toNat := by simp [List.getD_eq_getElem?_getD, hi2]
    have e2 : zs.getD i 0 = zs[i] := by simp [List.getD_eq_getElem?_getD, hi2]
    rw [e1]
    rw [e2, Addr.add_lit] at hci
    refine ⟨b, o, rfl, World.block_lt_of_cell? _ ⟨b, o + i, none⟩ hci, by omega, ?_⟩
    rw [hci]
    congr 2
    omega
end
theorem parserSpaces_same : Rows.parserSpacesRow.laid = rowLaid := rfl
set_option maxRecDepth 100000 in
theorem parserSpaces_lifted (os : Os) (started : os.Started) (H : Type) (enc : TypeId × Value → H) :
    ReturnsInHanded {} Tryz.checked os 8 .any (fun w args => (Rows.parserSpacesSpec.pre enc Tryz.prog Tryz.f8 Rows.parserSpacesRow.domain false w args ∧ laidMetH Tryz.prog rowLaid w) ∧ sizedMet enc Tryz.prog Tryz.f8 (OpenSpec.ofChange Rows.parserSpacesSpec) false w args)
      (Rows.parserSpacesSpec.post enc Tryz.prog Tryz.f8 false true false false) := by
  refine returnsInHanded_of_change_and (C := Tryz.checked) (X := fun w _ => laidMetH Tryz.prog rowLaid w) (fun _ _ _ hh h => h.of_heap hh) row_own started (by kernel_rfl) Tryz.func8
    (ChangeSpec.witness_shaped (enc := enc) (C := Tryz.checked) (os := os) (X := fun w _ => laidMetH Tryz.prog rowLaid w) false (World.laidAll Tryz.prog os rowLaid) #[.string ⟨#[]⟩, .slice none 0 0] 8 (World.laidAll_os _ _ _)
      (World.shaped_of_ZipB (by kernel_rfl) (by kernel_rfl)) (by kernel_rfl) (by kernel_rfl) (by kernel_rfl) (row_met os _)) ?_
  intro W base args ds gs before hval0 hW _ _ hL _
  have hval : ∀ (j : Nat) t v, Tryz.f8.params[j]? = some t → args[j]? = some v → Value.okWide Tryz.prog W .any base t v := hval0
  have hW' := hW
  obtain ⟨p, q, hA0, hV, rfl, hfz, hnd⟩ := hW
  have hA : DataW.TrodAll enc Tryz.prog W 0 (fun _ => true) true Tryz.f8.params.toList args.toList ds p := hA0
  rw [Tryz.params8] at hA hval
  obtain ⟨v0, vs0, d0, ds0, p0, q0, e0, rfl, rfl, h0, hA1⟩ := trodAll_cons hA
  obtain ⟨v1, vs1, d1, ds1, p1, q1, rfl, rfl, rfl, h1, hA2⟩ := trodAll_cons hA1
  obtain ⟨rfl, rfl, rfl⟩ := trodAll_nil hA2
  have eargs : args = #[v0, v1] := Array.ext' e0
  subst eargs
  obtain ⟨rfl, rfl⟩ := trodVars_none hV
  obtain ⟨text, rfl, rfl, rfl, htext⟩ := open_string Tryz.underlying9 (hval 0 9 v0 rfl rfl) h0
  have hwhich : BytesU W v1 := open_bytesU (hval 1 51 v1 rfl rfl) h1
  have hTab := tab_of_laid hL
  clear hval0 hA hA1 hA2
  refine (spaces_walk W hTab text htext v1 hwhich).mono fun e W' ⟨he, hb⟩ => ?_
  subst he
  have hlt := hW'.lt
  refine ⟨_, rfl, _, _, _, [], _, [], hW', trodAll_cons_mk (shut_bool Tryz.underlying4 _) trodAll_mk0, trodAll_below row_laidOut hb (by kernel_rfl) hA0 fun p hp => hlt p (by simpa using hp), rfl, hb.frame _, fun h => by cases h⟩

theorem parserSpaces_row : Rows.ParserSpacesSaid :=
  OpenClaim.holds_of_wide 8 Tryz.f8 rfl rfl rfl rfl rfl rfl rfl ⟨rfl, rfl, rfl, rfl, rfl⟩ rfl rfl rfl rfl rfl (by kernel_rfl) Tryz.func8 (by kernel_rfl)
    (of_decide_eq_true (by kernel_rfl)) (by unfold Func.isWrapper; first | (rw [if_pos (by decide +kernel)]; kernel_rfl) | (rw [if_neg (by decide +kernel)]; exact ⟨rfl, rfl⟩))
    (fun os started H enc _ => parserSpaces_lifted os started H enc)
theorem parserSpaces_holds : Rows.ParserSpacesCardSaid :=
  Claim7.holds_tied_plain_at .later [] [.data, .data, .data, .data, .sentinel, .sentinel, .listed, .data, .pinned] true Rows.parserSpacesCard.stood.harness true parserSpaces_row (fun _ h => by cases h) (by kernel_rfl) (fun _ h => by cases h) parserSpaces_row_tie rfl ⟨rfl, rfl⟩ (by kernel_rfl) rfl
    (fun f fn hf hfn => by
      obtain rfl : f = 8 := Option.some.inj ((show Tryz.prog.funcNamed "confluent/confluentlaw04.ParserSpaces" = some 8 by kernel_rfl).symm.trans hf) |>.symm
      obtain rfl : fn = Tryz.f8 := (Option.some.inj (Tryz.func8.symm.trans hfn)).symm
      exact ⟨by kernel_rfl, fun j t ht => by
        rw [Tryz.params8] at ht
        have hm : t ∈ [9, 51] := by simpa using Array.mem_of_getElem? ht
        have hall : ([9, 51].all fun u => !Tryz.prog.wantsStandIn u) = true := by kernel_rfl
        exact (show Tryz.prog.wantsStandIn t = false by simpa using List.all_eq_true.1 hall t hm)⟩)
    (by kernel_rfl)
end Go.Proofs.YthggagophcnkfaaGreatDoor.px
