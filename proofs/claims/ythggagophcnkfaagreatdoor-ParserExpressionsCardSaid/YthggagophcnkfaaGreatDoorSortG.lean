/- The walk of the merge of a slice of diagnostics: the general branch, and the whole. -/
import Derived.Test.YthggagophcnkfaaGreatDoorTk
import Derived.Test.YthggagophcnkfaaGreatDoorM10
namespace Go.Proofs.YthggagophcnkfaaGreatDoor.so
open Go.RowKit Go.Proofs.YthggagophcnkfaaGreatDoor.agg Go.Proofs.YthggagophcnkfaaGreatDoor.sx Go.Proofs.YthggagophcnkfaaGreatDoor.px Go.Proofs.YthggagophcnkfaaGreatDoor.lx
set_option linter.unusedSimpArgs false
set_option linter.unusedVariables false
set_option maxRecDepth 100000 in
set_option maxHeartbeats 10000000 in
theorem merge_main {n : Nat} (ih : MergeOk n) {w : World} {g cap : Nat} (X U V Y : List Dg) {N : Nat} (hn' : U.length + V.length ≤ n + 1) (hu1 : 1 < U.length) (hv1 : 1 < V.length) (hA : ArrIn w g cap (X ++ (U ++ (V ++ Y)))) (hN : (X ++ (U ++ (V ++ Y))).length = N) (hn : N ≤ 100000) (hok : OkD (X ++ (U ++ (V ++ Y)))) (hU : Srt U) (hV : Srt V) {a m b : Int} (ha : a = X.length) (hm : m = (X.length + U.length : Nat)) (hb : b = (X.length + (U.length + V.length) : Nat)) :
 Calls Tryz.prog 158 #[.slice (some ⟨g, 0, none⟩) N cap, .int .i64 a, .int .i64 m, .int .i64 b, .func (.func 76) #[] #[]] w (ArrEnd w g cap (MrgEnd X U V Y)) := by
 obtain ⟨p, hp⟩ : ∃ p, X.length = p := ⟨_, rfl⟩
 obtain ⟨u, hu⟩ : ∃ u, U.length = u := ⟨_, rfl⟩
 obtain ⟨v, hv⟩ : ∃ v, V.length = v := ⟨_, rfl⟩
 have hpz : p + (u + v) ≤ N := by rw [← hN, ← hp, ← hu, ← hv]; simp only [List.length_append]; omega
 obtain ⟨D, hD1, hD2⟩ : ∃ D, 2 * D ≤ p + (p + (u + v)) ∧ p + (p + (u + v)) ≤ 2 * D + 1 := ⟨(p + (p + (u + v))) / 2, by omega, by omega⟩
 obtain ⟨E, hE⟩ : ∃ E, D + (p + u) = E := ⟨_, rfl⟩
 rw [hp] at ha
 rw [hp, hu] at hm
 rw [hp, hu, hv] at hb
 rw [hu, hv] at hn'
 rw [hu] at hu1
 rw [hv] at hv1
 have ih' : Hid (MergeOk n) := Lib.hid ih
 have ha' := Lib.hid ha
 have hm' := Lib.hid hm
 have hb' := Lib.hid hb
 have hp' := Lib.hid hp
 have hu' := Lib.hid hu
 have hv' := Lib.hid hv
 have hE' := Lib.hid hE
 have hA' := Lib.hid hA
 have hok' := Lib.hid hok
 have hN' := Lib.hid hN
 have hU' := Lib.hid hU
 have hV' := Lib.hid hV
 have g1 : 0 ≤ a := by omega
 have g2 : m - a ≠ 1 := by omega
 have g2b : (m - a == 1) = false := by simpa using g2
 have g3 : b - m ≠ 1 := by omega
 have g3b : (b - m == 1) = false := by simpa using g3
 have g4 : a ≤ m := by omega
 have g5 : m ≤ b := by omega
 have g6 : b ≤ N := by omega
 have g7 : (a + b) / 2 ≤ N := by omega
 have g8 : 0 ≤ (a + b) / 2 := by omega
 have hcr := cmp_run
 have hDi : Hid ((a + b) / 2 = D) := Lib.hid (by omega)
 clear hA hN hok ha hb hp hu hv hm hU hV hE ih
 go_enter Tryz.func158, Tryz.ntmps158
 go_upto_if 140 with fail
 go_cut [18, 19, 20, 21] (fun s18 s19 s20 s21 wr => s18 = .int .i64 D ∧ s19 = .int .i64 E ∧ (∃ lo hi : Nat, s20 = .int .i64 lo ∧ s21 = .int .i64 hi ∧ Hid (LoHi p D (p + u) (p + (u + v)) lo hi)) ∧ Hid (ArrIn wr g cap (X ++ (U ++ (V ++ Y)))) ∧ Hid (Kept (gfoot g) w wr))
 case first =>
  have hkr : Hid (Kept (gfoot g) w w) := Kept.refl _ _
  by_cases hmd : (a + b) / 2 < m
  ·have hgo : Hid (Value.int IntKind.i64 ((a + b) / 2) = Value.int IntKind.i64 D ∧ Value.int IntKind.i64 ((a + b) / 2 + m) = Value.int IntKind.i64 E ∧ (∃ lo hi : Nat, Value.int IntKind.i64 ((a + b) / 2 + m - b) = Value.int IntKind.i64 lo ∧ Value.int IntKind.i64 ((a + b) / 2) = Value.int IntKind.i64 hi ∧ Hid (LoHi p D (p + u) (p + (u + v)) lo hi)) ∧ Hid (ArrIn w g cap (X ++ (U ++ (V ++ Y)))) ∧ Hid (Kept (gfoot g) w w)) := by
    have k1 := hDi.out
    have k2 := hm'.out
    have k3 := hb'.out
    have k4 := hE'.out
    exact ⟨by congr 1, by congr 1; omega, ⟨D + (p + u) - (p + (u + v)), D, by congr 1; omega, by congr 1, Or.inl ⟨by omega, rfl, rfl⟩⟩, hA', hkr⟩
   go_wp2_with fail
   go_meet
   exact hgo.out
  ·have hgo : Hid (Value.int IntKind.i64 ((a + b) / 2) = Value.int IntKind.i64 D ∧ Value.int IntKind.i64 ((a + b) / 2 + m) = Value.int IntKind.i64 E ∧ (∃ lo hi : Nat, Value.int IntKind.i64 a = Value.int IntKind.i64 lo ∧ Value.int IntKind.i64 m = Value.int IntKind.i64 hi ∧ Hid (LoHi p D (p + u) (p + (u + v)) lo hi)) ∧ Hid (ArrIn w g cap (X ++ (U ++ (V ++ Y)))) ∧ Hid (Kept (gfoot g) w w)) := by
    have k1 := hDi.out
    have k2 := hm'.out
    have k3 := hb'.out
    have k4 := hE'.out
    have k5 := ha'.out
    exact ⟨by congr 1, by congr 1; omega, ⟨p, p + u, by congr 1, by congr 1, Or.inr ⟨by omega, rfl, rfl⟩⟩, hA', hkr⟩
   go_wp2_with fail
   go_meet
   exact hgo.out
 case rest =>
  obtain ⟨rfl, rfl, ⟨lo, hi, rfl, rfl, hlh⟩, hA1, hK1⟩ := hcut
  have hlo : p ≤ lo ∧ lo ≤ hi ∧ hi ≤ p + u ∧ hi ≤ D ∧ D ≤ p + (u + v) ∧ D + (p + u) - lo ≤ p + (u + v) := by
   have := hlh.out
   unfold LoHi at this
   omega
  obtain ⟨o1, o2, o3, o4, o5, o6⟩ := hlo
  have hEN : (E : Int) ≤ 2 * N ∧ 1 ≤ (E : Int) := by have := hE'.out; omega
  obtain ⟨hE1, hE2⟩ := hEN
  clear hDi g7 g8
  go_wp2_with fail
  go_loopw [20, 21] (fun s20 s21 wr => ∃ i j : Nat, s20 = .int .i64 i ∧ s21 = .int .i64 j ∧ Hid (SearchM (X ++ (U ++ (V ++ Y))) D (p + u) lo hi i j) ∧ Hid (ArrIn wr g cap (X ++ (U ++ (V ++ Y)))) ∧ Hid (Kept (gfoot g) w wr)) (fun s20 s21 wr => (intOf s21).toNat - (intOf s20).toNat)
  case atStart => exact ⟨lo, hi, rfl, rfl, ⟨Nat.le_refl _, o2, Nat.le_refl _, Or.inl rfl, Or.inl rfl⟩, hA1, hK1⟩
  case round =>
   obtain ⟨i, j, rfl, rfl, hS, hA2, hK2⟩ := hrel
   have hij : lo ≤ i ∧ i ≤ j ∧ j ≤ hi := ⟨hS.out.1, hS.out.2.1, hS.out.2.2.1⟩
   obtain ⟨r1, r2, r3⟩ := hij
   by_cases hlt : i < j
   ·obtain ⟨h, hh⟩ : ∃ h, (i + j) / 2 = h := ⟨_, rfl⟩
    obtain ⟨q, hq⟩ : ∃ q, D + (p + u) - 1 - h = q := ⟨_, rfl⟩
    have hh1 : i ≤ h := by omega
    have hh2 : h < j := by omega
    have hEq : q + (h + 1) = E := by have := hE'.out; omega
    have hqN : q < N := by omega
    have hhN : h < N := by omega
    have hq1 : p + u ≤ q := by have := hlh.out; unfold LoHi at this; omega
    have hq2 : q < p + (u + v) := by omega
    have hLN : Hid (∀ k, k < N → ∃ z, (X ++ (U ++ (V ++ Y)))[k]? = some z) := fun k hk => ⟨_, List.getElem?_eq_getElem (by rw [hN'.out]; exact hk)⟩
    obtain ⟨x, hx⟩ := hLN.out h hhN
    obtain ⟨y, hy⟩ := hLN.out q hqN
    have hxl := Lib.hid hx
    have hyl := Lib.hid hy
    have hox : 0 ≤ x.at_ ∧ x.at_ ≤ 4096 := hok'.out x (List.mem_of_getElem? hx)
    have hoy : 0 ≤ y.at_ ∧ y.at_ ≤ 4096 := hok'.out y (List.mem_of_getElem? hy)
    rw [← hq] at hy
    have hup := Lib.hid (fun (k : x.at_ ≤ y.at_) => hS.out.up hh1 hh2 hx hy k)
    have hdn := Lib.hid (fun (k : y.at_ < x.at_) => hS.out.down hh1 hh2 hx hy k)
    have hi1 : ((i : Int) + j) / 2 = h := by omega
    have hi1' := Lib.hid hi1
    have s1 : (0 : Int) ≤ ((i : Int) + j) / 2 := by omega
    have s2 : ((i : Int) + j) / 2 < N := by omega
    have s3 : (((i : Int) + j) / 2).toNat = h := by omega
    have s4 : (0 : Int) ≤ (E : Int) - 1 - ((i : Int) + j) / 2 := by omega
    have s4b : ((i : Int) + j) / 2 ≤ (E : Int) - 1 := by omega
    have s4c : ¬ ((E : Int) - 1 < ((i : Int) + j) / 2) := by omega
    have s5 : (E : Int) - 1 - ((i : Int) + j) / 2 < N := by omega
    have s6 : ((E : Int) - 1 - ((i : Int) + j) / 2).toNat = q := by omega
    have s7 : IntKind.i64.wrap ((E : Int) - 1 - ((i : Int) + j) / 2) = (E : Int) - 1 - ((i : Int) + j) / 2 := IntWalk.i64_in _ (by omega)
    clear hx hy hh hq hi1 hEq hLN
    by_cases hvx : y.at_ < x.at_
    ·have s8 : decide (y.at_ - x.at_ < 0) = true := decide_eq_true (by omega)
     have s9 : y.at_ - x.at_ < 0 := by omega
     go_upto_region 35 with fail
     refine wp_region_held_drew (S := fun u => ArrIn u g cap (X ++ (U ++ (V ++ Y)))) (by kernel_rfl) (hA2.out.below (Below.refl _ _).drew) (fun hHeld => ?_)
     refine tk (i := 0) (v := .func (.func 76) #[] #[]) rfl hHeld ?_
     try simp only [Act.put, kA, kB, kC, kD, kE, kF]
     refine tk (i := 1) (v := .slice (some ⟨g, 0, none⟩) N cap) rfl hHeld ?_
     try simp only [Act.put, kA, kB, kC, kD, kE, kF]
     refine tk (i := 2) (v := .int .i64 ((E : Int) - 1)) rfl hHeld ?_
     try simp only [Act.put, kA, kB, kC, kD, kE, kF]
     refine tk (i := 3) (v := .int .i64 (((i : Int) + j) / 2)) rfl hHeld ?_
     try simp only [Act.put, kA, kB, kC, kD, kE, kF]
     refine tk (i := 4) (v := .int .i64 ((E : Int) - 1 - ((i : Int) + j) / 2)) rfl hHeld ?_
     try simp only [Act.put, kA, kB, kC, kD, kE, kF]
     refine tk (i := 5) (v := .pointer (some ⟨g, q * 4, none⟩)) rfl hHeld ?_
     try simp only [Act.put, kA, kB, kC, kD, kE, kF]
     refine tk (i := 6) (v := .agg #[.int .i64 y.code, .int .i64 y.at_, .int .i64 y.to, .string y.text]) (hy := yieldsIf_load_mid (by rfl) _ _ rfl _ _ rfl [.int .i64 y.code, .int .i64 y.at_, .int .i64 y.to, .string y.text] _ (fun _ h => h.range hyl.out) Tryz.underlying34 rfl info_dg4) rfl hHeld ?_
     try simp only [Act.put, kA, kB, kC, kD, kE, kF]
     refine tk (i := 7) (v := .slice (some ⟨g, 0, none⟩) N cap) rfl hHeld ?_
     try simp only [Act.put, kA, kB, kC, kD, kE, kF]
     refine tk (i := 8) (v := .int .i64 (((i : Int) + j) / 2)) rfl hHeld ?_
     try simp only [Act.put, kA, kB, kC, kD, kE, kF]
     refine tk (i := 9) (v := .pointer (some ⟨g, h * 4, none⟩)) rfl hHeld ?_
     try simp only [Act.put, kA, kB, kC, kD, kE, kF]
     refine tk (i := 10) (v := .agg #[.int .i64 x.code, .int .i64 x.at_, .int .i64 x.to, .string x.text]) (hy := yieldsIf_load_mid (by rfl) _ _ rfl _ _ rfl [.int .i64 x.code, .int .i64 x.at_, .int .i64 x.to, .string x.text] _ (fun _ h => h.range hxl.out) Tryz.underlying34 rfl info_dg4) rfl hHeld ?_
     try simp only [Act.put, kA, kB, kC, kD, kE, kF]
     refine wpAnyH_ready (rs := [11]) (by kernel_rfl) (by simp) ?_
     refine AllReadyH.cons rfl (fun K hK => ?_) AllReadyH.nil
     rw [if_pos (by rfl)]
     go_simp
     go_at_call 76
     refine (cmp_walk _ y x hoy hox).mono ?_
     rintro e u2 ⟨rfl, hb2⟩
     refine hK.out _ _ (hHeld.below hb2) (fun hHeld => ?_)
     clear hK K
     have hAr2 := Lib.hid hHeld
     have hKu : Hid (Kept (gfoot g) w u2) := hK2.out.trans (.of_below ((Below.refl _ _).drew.trans hb2))
     clear hb2
     try simp only [Act.put, kA, kB, kC, kD, kE, kF]
     refine tk (i := 12) (v := .bool true) rfl hHeld ?_
     try simp only [Act.put, kA, kB, kC, kD, kE, kF]
     refine tk (i := 13) (v := .bool false) rfl hHeld ?_
     try simp only [Act.put, kA, kB, kC, kD, kE, kF]
     refine wpAnyH_done (by kernel_rfl) ?_ _
     clear hHeld
     have hnx := Lib.hid (hdn.out hvx)
     clear s1 s2 s3 s4 s4b s4c s5 s6 s7 s8 s9 hup hdn
     go_wp2
     go_roundw
     case rel => exact ⟨i, h, rfl, by rw [hi1'.out], hnx, hAr2, hKu⟩
     case measure => simp [intOf]; omega
    ·have s8 : decide (y.at_ - x.at_ < 0) = false := decide_eq_false (by omega)
     have s9 : 0 ≤ y.at_ - x.at_ := by omega
     go_upto_region 35 with fail
     refine wp_region_held_drew (S := fun u => ArrIn u g cap (X ++ (U ++ (V ++ Y)))) (by kernel_rfl) (hA2.out.below (Below.refl _ _).drew) (fun hHeld => ?_)
     refine tk (i := 0) (v := .func (.func 76) #[] #[]) rfl hHeld ?_
     try simp only [Act.put, kA, kB, kC, kD, kE, kF]
     refine tk (i := 1) (v := .slice (some ⟨g, 0, none⟩) N cap) rfl hHeld ?_
     try simp only [Act.put, kA, kB, kC, kD, kE, kF]
     refine tk (i := 2) (v := .int .i64 ((E : Int) - 1)) rfl hHeld ?_
     try simp only [Act.put, kA, kB, kC, kD, kE, kF]
     refine tk (i := 3) (v := .int .i64 (((i : Int) + j) / 2)) rfl hHeld ?_
     try simp only [Act.put, kA, kB, kC, kD, kE, kF]
     refine tk (i := 4) (v := .int .i64 ((E : Int) - 1 - ((i : Int) + j) / 2)) rfl hHeld ?_
     try simp only [Act.put, kA, kB, kC, kD, kE, kF]
     refine tk (i := 5) (v := .pointer (some ⟨g, q * 4, none⟩)) rfl hHeld ?_
     try simp only [Act.put, kA, kB, kC, kD, kE, kF]
     refine tk (i := 6) (v := .agg #[.int .i64 y.code, .int .i64 y.at_, .int .i64 y.to, .string y.text]) (hy := yieldsIf_load_mid (by rfl) _ _ rfl _ _ rfl [.int .i64 y.code, .int .i64 y.at_, .int .i64 y.to, .string y.text] _ (fun _ h => h.range hyl.out) Tryz.underlying34 rfl info_dg4) rfl hHeld ?_
     try simp only [Act.put, kA, kB, kC, kD, kE, kF]
     refine tk (i := 7) (v := .slice (some ⟨g, 0, none⟩) N cap) rfl hHeld ?_
     try simp only [Act.put, kA, kB, kC, kD, kE, kF]
     refine tk (i := 8) (v := .int .i64 (((i : Int) + j) / 2)) rfl hHeld ?_
     try simp only [Act.put, kA, kB, kC, kD, kE, kF]
     refine tk (i := 9) (v := .pointer (some ⟨g, h * 4, none⟩)) rfl hHeld ?_
     try simp only [Act.put, kA, kB, kC, kD, kE, kF]
     refine tk (i := 10) (v := .agg #[.int .i64 x.code, .int .i64 x.at_, .int .i64 x.to, .string x.text]) (hy := yieldsIf_load_mid (by rfl) _ _ rfl _ _ rfl [.int .i64 x.code, .int .i64 x.at_, .int .i64 x.to, .string x.text] _ (fun _ h => h.range hxl.out) Tryz.underlying34 rfl info_dg4) rfl hHeld ?_
     try simp only [Act.put, kA, kB, kC, kD, kE, kF]
     refine wpAnyH_ready (rs := [11]) (by kernel_rfl) (by simp) ?_
     refine AllReadyH.cons rfl (fun K hK => ?_) AllReadyH.nil
     rw [if_pos (by rfl)]
     go_simp
     go_at_call 76
     refine (cmp_walk _ y x hoy hox).mono ?_
     rintro e u2 ⟨rfl, hb2⟩
     refine hK.out _ _ (hHeld.below hb2) (fun hHeld => ?_)
     clear hK K
     have hAr2 := Lib.hid hHeld
     have hKu : Hid (Kept (gfoot g) w u2) := hK2.out.trans (.of_below ((Below.refl _ _).drew.trans hb2))
     clear hb2
     try simp only [Act.put, kA, kB, kC, kD, kE, kF]
     refine tk (i := 12) (v := .bool false) rfl hHeld ?_
     try simp only [Act.put, kA, kB, kC, kD, kE, kF]
     refine tk (i := 13) (v := .bool true) rfl hHeld ?_
     try simp only [Act.put, kA, kB, kC, kD, kE, kF]
     refine wpAnyH_done (by kernel_rfl) ?_ _
     clear hHeld
     have hnx := Lib.hid (hup.out (by omega))
     clear s1 s2 s3 s4 s4b s4c s5 s6 s7 s8 s9 hup hdn
     go_wp2
     go_roundw
     case rel => exact ⟨h + 1, j, by rw [hi1'.out]; rfl, rfl, hnx, hAr2, hKu⟩
     case measure => simp [intOf]; omega
   ·have hij : i = j := by omega
    subst hij
    have hz := search_done (X := X) (U := U) (V := V) (Y := Y) hU'.out hV'.out (D := D) (lo := lo) (hi := hi) (s := i)
    rw [hp'.out, hu'.out, hv'.out] at hz
    obtain ⟨U1, U2, V1, V2, e1, e2, e3, e4, e5, e6⟩ := hz hD1 hD2 hlh.out hS.out
    obtain ⟨u1, hu1l⟩ : ∃ u1, U1.length = u1 := ⟨_, rfl⟩
    obtain ⟨u2, hu2l⟩ : ∃ u2, U2.length = u2 := ⟨_, rfl⟩
    obtain ⟨v1, hv1l⟩ : ∃ v1, V1.length = v1 := ⟨_, rfl⟩
    obtain ⟨v2, hv2l⟩ : ∃ v2, V2.length = v2 := ⟨_, rfl⟩
    have t1 : u1 + u2 = u := by rw [← hu'.out, e1, List.length_append, hu1l, hu2l]
    have t2 : v1 + v2 = v := by rw [← hv'.out, e2, List.length_append, hv1l, hv2l]
    rw [hu1l] at e3
    rw [hu1l, hv1l] at e4
    obtain ⟨e, he⟩ : ∃ e, E - i = e := ⟨_, rfl⟩
    have t3 : D + u2 = e := by have := hE'.out; omega
    have t4 : e + v2 = p + (u + v) := by omega
    have t5 : i + e = E := by have := hE'.out; omega
    have hsr : Srt U1 ∧ Srt U2 ∧ Srt V1 ∧ Srt V2 := by
     have k1 := hU'.out
     have k2 := hV'.out
     rw [e1] at k1
     rw [e2] at k2
     exact ⟨(srt_app.1 k1).1, (srt_app.1 k1).2.1, (srt_app.1 k2).1, (srt_app.1 k2).2.1⟩
    have hX : Hid (X ++ (U ++ (V ++ Y)) = (X ++ U1) ++ (U2 ++ (V1 ++ (V2 ++ Y)))) := Lib.hid (by rw [e1, e2]; simp)
    have hX2 : Hid ((X ++ U1) ++ (V1 ++ (U2 ++ (V2 ++ Y))) = X ++ (U1 ++ (V1 ++ (U2 ++ (V2 ++ Y))))) := Lib.hid (by simp)
    have hlen : Hid ((X ++ (U1 ++ (V1 ++ (U2 ++ (V2 ++ Y))))).length = N) := by
     have := hN'.out
     rw [e1, e2] at this
     unfold Hid
     rw [← this]
     simp only [List.length_append]
     omega
    have hok2 : Hid (OkD (X ++ (U1 ++ (V1 ++ (U2 ++ (V2 ++ Y)))))) := hok'.out.perm (fun d hd => by
     rw [e1, e2]
     simp only [List.mem_append] at hd ⊢
     grind)
    have e1' := Lib.hid e1
    have e2' := Lib.hid e2
    have e5' := Lib.hid e5
    have e6' := Lib.hid e6
    have hsr' := Lib.hid hsr
    have hl4 : Hid (U1.length = u1 ∧ U2.length = u2 ∧ V1.length = v1 ∧ V2.length = v2) := ⟨hu1l, hu2l, hv1l, hv2l⟩
    have ht : Hid (p + u1 = i ∧ p + (u1 + v1) = D ∧ u1 + u2 = u ∧ v1 + v2 = v ∧ D + u2 = e ∧ e + v2 = p + (u + v) ∧ i + e = E) := ⟨e3, e4, t1, t2, t3, t4, t5⟩
    have w1 : (e : Int) ≤ N := by omega
    have w2 : (i : Int) ≤ N := by omega
    have w3 : (D : Int) ≤ N := by omega
    clear e1 e2 e3 e4 e5 e6 hu1l hu2l hv1l hv2l t1 t2 t3 t4 t5 he hsr hz
    go_upto_region 39 with fail
    go_cut [24, 185] (fun s24 s185 wx => s24 = .int .i64 e ∧ s185 = .bool (decide (0 < u2 ∧ 0 < v1)) ∧ wr = wx)
    case first =>
     have hee : Hid (Value.int .i64 ((E : Int) - i) = Value.int .i64 e) := by have := ht.out; unfold Hid; congr 1; omega
     by_cases c1 : (i : Int) < m
     ·by_cases c2 : m < (E : Int) - i
      ·have hd : Hid (Value.bool true = Value.bool (decide (0 < u2 ∧ 0 < v1))) := by have := ht.out; have := hm'.out; have := hE'.out; unfold Hid; rw [decide_eq_true (by omega)]
       go_wp2_with fail
       go_meet
       exact ⟨hee.out, hd.out, rfl⟩
      ·have hd : Hid (Value.bool false = Value.bool (decide (0 < u2 ∧ 0 < v1))) := by have := ht.out; have := hm'.out; have := hE'.out; unfold Hid; rw [decide_eq_false (by omega)]
       go_wp2_with fail
       go_meet
       exact ⟨hee.out, hd.out, rfl⟩
     ·have hd : Hid (Value.bool false = Value.bool (decide (0 < u2 ∧ 0 < v1))) := by have := ht.out; have := hm'.out; have := hE'.out; unfold Hid; rw [decide_eq_false (by omega)]
      go_wp2_with fail
      go_meet
      exact ⟨hee.out, hd.out, rfl⟩
    case rest =>
    obtain ⟨rfl, rfl, rfl⟩ := hcut
    obtain ⟨rt, hrt⟩ : ∃ rt, decide (0 < u2 ∧ 0 < v1) = rt := ⟨_, rfl⟩
    rw [hrt]
    go_upto_if 185 with fail
    rename_i hkk1
    go_cut [24] (fun s24 wr => s24 = .int .i64 e ∧ Hid (ArrIn wr g cap (X ++ (U1 ++ (V1 ++ (U2 ++ (V2 ++ Y)))))) ∧ Hid (Kept (gfoot g) w wr))
    case first =>
     by_cases hrot : 0 < u2 ∧ 0 < v1
     ·obtain rfl : rt = true := by rw [← hrt]; exact decide_eq_true hrot
      have hC := Lib.hid (rotate_walk (w := wr) (X ++ U1) U2 V1 (V2 ++ Y) (by rw [← hX.out]; exact hA2.out) (by rw [← hX.out]; exact hN'.out) hn (by rw [hl4.out.2.1]; exact hrot.1) (by rw [hl4.out.2.2.1]; exact hrot.2) (a := i) (m := m) (b := e)
       (by rw [List.length_append, hp'.out, hl4.out.1]; have := ht.out; omega) (by rw [List.length_append, hp'.out, hl4.out.1, hl4.out.2.1]; have := ht.out; have := hm'.out; omega) (by rw [List.length_append, hp'.out, hl4.out.1, hl4.out.2.1, hl4.out.2.2.1]; have := ht.out; have := hE'.out; omega) (.func (.func 76) #[] #[]))
      go_wp2_with (go_at_call 181; refine hC.out.mono ?_; rintro e' w2 ⟨l', rfl, rfl, q1, q2⟩; have q1' := Lib.hid q1; have q2' := Lib.hid q2; clear q1 q2)
      go_meet
      exact ⟨rfl, Lib.hid (hX2.out ▸ q1'.out), hK2.out.trans q2'.out⟩
     ·obtain rfl : rt = false := by rw [← hrt]; exact decide_eq_false hrot
      have hA3 : Hid (ArrIn wr g cap (X ++ (U1 ++ (V1 ++ (U2 ++ (V2 ++ Y)))))) := by
       have k := hA2.out
       rw [hX.out] at k
       rw [← hX2.out]
       rcases Nat.eq_zero_or_pos u2 with h0 | h0
       ·have : U2 = [] := List.eq_nil_of_length_eq_zero (by rw [hl4.out.2.1]; exact h0)
        subst this
        exact Lib.hid (by simpa using k)
       ·have : V1 = [] := List.eq_nil_of_length_eq_zero (by rw [hl4.out.2.2.1]; omega)
        subst this
        exact Lib.hid (by simpa using k)
      go_wp2_with fail
      go_meet
      exact ⟨rfl, hA3, hK2⟩
    case rest =>
     obtain ⟨rfl, hA3, hK3⟩ := hcut
     refine hkk1 _ _ ?_
     refine merge_tail ih'.out (w := w) X U V Y U1 U2 V1 V2 (by rw [hl4.out.1, hl4.out.2.2.1]; have := ht.out; omega) (by rw [hl4.out.2.1, hl4.out.2.2.2]; have := ht.out; omega) hA3.out hlen.out hn hok2.out hsr'.out.1 hsr'.out.2.1 hsr'.out.2.2.1 hsr'.out.2.2.2 hK3.out
      (by rw [hp'.out]; exact ha'.out) (by rw [hp'.out, hl4.out.1]; have := ht.out; omega) (by rw [hp'.out, hl4.out.1, hl4.out.2.2.1]; have := ht.out; omega) (by rw [hp'.out, hl4.out.1, hl4.out.2.2.1, hl4.out.2.1]; have := ht.out; omega) (by rw [hp'.out, hl4.out.1, hl4.out.2.2.1, hl4.out.2.1, hl4.out.2.2.2]; have := ht.out; have := hb'.out; omega)
      (fun W1 l' z1 z2 z3 k => MrgEnd.join hU'.out hV'.out e1'.out e2'.out e5'.out e6'.out z1 z2 z3 k) (by kernel_rfl) ?_
     intro v192 v193 v194 v195 v196 v197 v198 v199 v200 v201 v202 v203 v204 v205 v206 v207 v208 v209 v210 v211 v212 v213 v214 v215 v216 v217 v218 v219 wy l' q0 q1 q2
     go_end0
     exact ⟨_, rfl, q0, q1, q2⟩
theorem merge_ok : ∀ n, MergeOk n := by
 intro n
 induction n with
 | zero =>
  intro w g cap X U V Y N h1 h2
  omega
 | succ n ih =>
  intro w g cap X U V Y N h1 h2 h3 hA hN hn hok hU hV a m b ha hm hb
  by_cases hu : U.length = 1
  ·obtain ⟨x, rfl⟩ := List.length_eq_one_iff.1 hu
   exact merge_left_walk X x V Y hA hN hn hok hV ha (by rw [hm]; rfl) (by rw [hb]; rfl)
  ·by_cases hv : V.length = 1
   ·obtain ⟨y, rfl⟩ := List.length_eq_one_iff.1 hv
    exact merge_right_walk X U y Y hA hN hn hok hU hu ha hm (by rw [hb]; rfl)
   ·exact merge_main ih X U V Y h1 (by omega) (by omega) hA hN hn hok hU hV ha hm hb
end Go.Proofs.YthggagophcnkfaaGreatDoor.so
