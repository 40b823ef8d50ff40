/- The walk of the merge of a slice of diagnostics where the right stretch is a single element. -/
import Derived.Test.YthggagophcnkfaaGreatDoorTk
import Derived.Test.YthggagophcnkfaaGreatDoorSortD
namespace Go.Proofs.YthggagophcnkfaaGreatDoor.so
open Go.RowKit Go.Proofs.YthggagophcnkfaaGreatDoor.agg Go.Proofs.YthggagophcnkfaaGreatDoor.sx Go.Proofs.YthggagophcnkfaaGreatDoor.px Go.Proofs.YthggagophcnkfaaGreatDoor.lx
set_option linter.unusedSimpArgs false
set_option linter.unusedVariables false
def SearchR (y : Dg) (U U1 Um U2 : List Dg) : Prop := U = U1 ++ (Um ++ U2) ∧ (∀ u ∈ U1, u.at_ ≤ y.at_) ∧ (∀ u ∈ U2, y.at_ < u.at_)
theorem SearchR.up {y u : Dg} {U U1 Ua Ub U2 : List Dg} (hU : Srt U) (h : SearchR y U U1 (Ua ++ (u :: Ub)) U2) (hu : u.at_ ≤ y.at_) : SearchR y U (U1 ++ (Ua ++ [u])) Ub U2 := by
 obtain ⟨h1, h2, h3⟩ := h
 refine ⟨by rw [h1]; simp, fun v hv => ?_, h3⟩
 rcases List.mem_append.1 hv with hv | hv
 ·exact h2 v hv
 ·rcases List.mem_append.1 hv with hv | hv
  ·rw [h1] at hU
   have h4 := (srt_app.1 (srt_app.1 (srt_app.1 hU).2.1).1).2.2 v hv u (by simp)
   omega
  ·obtain rfl := List.mem_singleton.1 hv
   exact hu
theorem SearchR.down {y u : Dg} {U U1 Ua Ub U2 : List Dg} (hU : Srt U) (h : SearchR y U U1 (Ua ++ (u :: Ub)) U2) (hu : y.at_ < u.at_) : SearchR y U U1 Ua (u :: (Ub ++ U2)) := by
 obtain ⟨h1, h2, h3⟩ := h
 refine ⟨by rw [h1]; simp, h2, fun v hv => ?_⟩
 rw [h1] at hU
 rcases List.mem_cons.1 hv with rfl | hv
 ·exact hu
 ·rcases List.mem_append.1 hv with hv | hv
  ·have h4 := (srt_app.1 (srt_app.1 (srt_app.1 hU).2.1).1).2.1
   have h5 := (List.pairwise_cons.1 h4).1 v hv
   omega
  ·exact h3 v hv
set_option maxRecDepth 100000 in
set_option maxHeartbeats 8000000 in
theorem merge_right_walk {w : World} {g cap : Nat} (X U : List Dg) (y0 : Dg) (Y : List Dg) {N : Nat} (hA : ArrIn w g cap (X ++ (U ++ ([y0] ++ Y)))) (hN : (X ++ (U ++ ([y0] ++ Y))).length = N) (hn : N ≤ 100000) (hok : OkD (X ++ (U ++ ([y0] ++ Y)))) (hU : Srt U) (hU1 : U.length ≠ 1) {a m b : Int} (ha : a = X.length) (hm : m = (X.length + U.length : Nat)) (hb : b = (X.length + U.length + 1 : Nat)) :
 Calls Tryz.prog 158 #[.slice (some ⟨g, 0, none⟩) N cap, .int .i64 a, .int .i64 m, .int .i64 b, .func (.func 76) #[] #[]] w (ArrEnd w g cap (MrgEnd X U [y0] Y)) := by
 obtain ⟨p, hp⟩ : ∃ p, X.length = p := ⟨_, rfl⟩
 obtain ⟨z, hz⟩ : ∃ z, U.length = z := ⟨_, rfl⟩
 have hpz : p + (z + 1) ≤ N := by rw [← hN, ← hp, ← hz]; simp only [List.length_append, List.length_cons, List.length_nil]; omega
 rw [hp] at ha
 rw [hp, hz] at hb hm
 rw [hz] at hU1
 have ha' := Lib.hid ha
 have hm' := Lib.hid hm
 have hb' := Lib.hid hb
 have hp' := Lib.hid hp
 have hz' := Lib.hid hz
 have hA' := Lib.hid hA
 have hok' := Lib.hid hok
 have hN' := Lib.hid hN
 have hU' := Lib.hid hU
 have g1 : 0 ≤ a := by omega
 have g1b : 0 ≤ m := by omega
 have g0 : m - a ≠ 1 := by omega
 have g0b : (m - a == 1) = false := by simpa using g0
 have g2 : b - m = 1 := by omega
 have g2' : a ≤ m := by omega
 have g3 : m ≤ b := by omega
 have g4 : b ≤ N := by omega
 have g5 : m < N := by omega
 have hcr := cmp_run
 clear hA hN hok ha hb hp hz hm hU
 go_enter Tryz.func158, Tryz.ntmps158
 go_wp2_with fail
 go_loopw [14, 15] (fun s14 s15 wr => ∃ (i j : Nat) (U1 Um U2 : List Dg), s14 = .int .i64 i ∧ s15 = .int .i64 j ∧ Hid (p + U1.length = i ∧ i + Um.length = j) ∧ Hid (SearchR y0 U U1 Um U2) ∧ Hid (ArrIn wr g cap (X ++ (U ++ ([y0] ++ Y)))) ∧ Hid (Kept (gfoot g) w wr)) (fun s14 s15 wr => (intOf s15).toNat - (intOf s14).toNat)
 case atStart =>
  exact ⟨p, p + z, [], U, [], by rw [ha'.out], by rw [hm'.out], ⟨rfl, by rw [hz'.out]⟩, ⟨by simp, by simp, by simp⟩, hA', .refl _ _⟩
 case round =>
  obtain ⟨i, j, U1, Um, U2, rfl, rfl, hij, hS, hA2, hK2⟩ := hrel
  have hiN : j < N := by
   have h1 := hS.out.1
   have h2 := congrArg List.length h1
   simp only [List.length_append, hz'.out] at h2
   have := hij.out
   omega
  by_cases hlt : i < j
  ·obtain ⟨Va, v, Vb, rfl, hVa⟩ := mid_split (l := Um) (by have := hij.out; omega)
   obtain ⟨h, hh⟩ : ∃ h, (i + j) / 2 = h := ⟨_, rfl⟩
   have hhi : h = i + Va.length := by have := hij.out; omega
   have s1 : (0 : Int) ≤ ((i : Int) + j) / 2 := by omega
   have s2 : ((i : Int) + j) / 2 < N := by omega
   have s3 : (((i : Int) + j) / 2).toNat = h := by omega
   have s5 : m.toNat = p + z := by have := hm'.out; omega
   have hvl : Hid ((X ++ (U ++ ([y0] ++ Y)))[h]? = some v) := by
    unfold Hid
    rw [hS.out.1, List.getElem?_append_right (by rw [hp'.out]; have := hij.out; omega), hp'.out]
    rw [List.append_assoc, List.getElem?_append_right (by have := hij.out; omega)]
    rw [List.append_assoc, List.append_assoc, List.getElem?_append_right (by have := hij.out; omega)]
    have : h - p - U1.length - Va.length = 0 := by have := hij.out; omega
    rw [this]
    rfl
   have hxl : Hid ((X ++ (U ++ ([y0] ++ Y)))[p + z]? = some y0) := by
    unfold Hid
    rw [← hp'.out, ← hz'.out, List.getElem?_append_right (by omega), List.getElem?_append_right (by omega)]
    have : X.length + U.length - X.length - U.length = 0 := by omega
    rw [this]
    rfl
   have hov : 0 ≤ v.at_ ∧ v.at_ ≤ 4096 := hok'.out v (List.mem_of_getElem? hvl.out)
   have hox : 0 ≤ y0.at_ ∧ y0.at_ ≤ 4096 := hok'.out y0 (List.mem_of_getElem? hxl.out)
   have hij1 : Hid (p + (U1 ++ (Va ++ [v])).length = h + 1 ∧ h + 1 + Vb.length = j) := by
    have := hij.out
    simp only [List.length_append, List.length_cons, List.length_nil] at this ⊢
    unfold Hid
    omega
   have hij2 : Hid (p + U1.length = i ∧ i + Va.length = h) := by
    have := hij.out
    unfold Hid
    omega
   clear hVa
   have hh2 : ((i : Int) + j) / 2 = h := by omega
   have hh2' := Lib.hid hh2
   clear hh hh2 hhi
   by_cases hvx : y0.at_ < v.at_
   ·have s6 : decide (y0.at_ - v.at_ < 0) = true := decide_eq_true (by omega)
    have s7 : y0.at_ - v.at_ < 0 := by omega
    go_upto_region 17 with fail
    refine wp_region_held_drew (S := fun u => ArrIn u g cap (X ++ (U ++ ([y0] ++ Y)))) (by kernel_rfl) (hA2.out.below (Below.refl _ _).drew) (fun hHeld => ?_)
    refine tk (i := 0) (v := .func (.func 76) #[] #[]) rfl hHeld ?_
    try simp only [Act.put, kA, kB, kC, kD, kE, kF]
    refine tk (i := 1) (v := .slice (some ⟨g, 0, none⟩) N cap) rfl hHeld ?_
    try simp only [Act.put, kA, kB, kC, kD, kE, kF]
    refine tk (i := 2) (v := .int .i64 m) rfl hHeld ?_
    try simp only [Act.put, kA, kB, kC, kD, kE, kF]
    refine tk (i := 3) (v := .pointer (some ⟨g, (p + z) * 4, none⟩)) rfl hHeld ?_
    try simp only [Act.put, kA, kB, kC, kD, kE, kF]
    refine tk (i := 4) (v := .agg #[.int .i64 y0.code, .int .i64 y0.at_, .int .i64 y0.to, .string y0.text]) (hy := yieldsIf_load_mid (by rfl) _ _ rfl _ _ rfl [.int .i64 y0.code, .int .i64 y0.at_, .int .i64 y0.to, .string y0.text] _ (fun _ h => h.range hxl.out) Tryz.underlying34 rfl info_dg4) rfl hHeld ?_
    try simp only [Act.put, kA, kB, kC, kD, kE, kF]
    refine tk (i := 5) (v := .slice (some ⟨g, 0, none⟩) N cap) rfl hHeld ?_
    try simp only [Act.put, kA, kB, kC, kD, kE, kF]
    refine tk (i := 6) (v := .int .i64 (((i : Int) + j) / 2)) rfl hHeld ?_
    try simp only [Act.put, kA, kB, kC, kD, kE, kF]
    refine tk (i := 7) (v := .pointer (some ⟨g, h * 4, none⟩)) rfl hHeld ?_
    try simp only [Act.put, kA, kB, kC, kD, kE, kF]
    refine tk (i := 8) (v := .agg #[.int .i64 v.code, .int .i64 v.at_, .int .i64 v.to, .string v.text]) (hy := yieldsIf_load_mid (by rfl) _ _ rfl _ _ rfl [.int .i64 v.code, .int .i64 v.at_, .int .i64 v.to, .string v.text] _ (fun _ h => h.range hvl.out) Tryz.underlying34 rfl info_dg4) rfl hHeld ?_
    try simp only [Act.put, kA, kB, kC, kD, kE, kF]
    refine wpAnyH_ready (rs := [9]) (by kernel_rfl) (by simp) ?_
    refine AllReadyH.cons rfl (fun K hK => ?_) AllReadyH.nil
    rw [if_pos (by rfl)]
    go_simp
    go_at_call 76
    refine (cmp_walk _ y0 v hox hov).mono ?_
    rintro e u2 ⟨rfl, hb2⟩
    refine hK.out _ _ (hHeld.below hb2) (fun hHeld => ?_)
    clear hK K
    have hAr2 := Lib.hid hHeld
    have hKu : Hid (Kept (gfoot g) w u2) := hK2.out.trans (.of_below ((Below.refl _ _).drew.trans hb2))
    clear hb2
    try simp only [Act.put, kA, kB, kC, kD, kE, kF]
    refine tk (i := 10) (v := .bool true) rfl hHeld ?_
    try simp only [Act.put, kA, kB, kC, kD, kE, kF]
    refine tk (i := 11) (v := .bool false) rfl hHeld ?_
    try simp only [Act.put, kA, kB, kC, kD, kE, kF]
    refine wpAnyH_done (by kernel_rfl) ?_ _
    clear hHeld
    have hnx := Lib.hid (hS.out.down hU'.out hvx)
    clear s1 s2 s3 s5 s6 s7
    go_wp2
    go_roundw
    case rel => exact ⟨i, h, _, _, _, rfl, by rw [hh2'.out], hij2, hnx, hAr2, hKu⟩
    case measure => simp [intOf]; omega
   ·have s6 : decide (y0.at_ - v.at_ < 0) = false := decide_eq_false (by omega)
    have s7 : 0 ≤ y0.at_ - v.at_ := by omega
    go_upto_region 17 with fail
    refine wp_region_held_drew (S := fun u => ArrIn u g cap (X ++ (U ++ ([y0] ++ Y)))) (by kernel_rfl) (hA2.out.below (Below.refl _ _).drew) (fun hHeld => ?_)
    refine tk (i := 0) (v := .func (.func 76) #[] #[]) rfl hHeld ?_
    try simp only [Act.put, kA, kB, kC, kD, kE, kF]
    refine tk (i := 1) (v := .slice (some ⟨g, 0, none⟩) N cap) rfl hHeld ?_
    try simp only [Act.put, kA, kB, kC, kD, kE, kF]
    refine tk (i := 2) (v := .int .i64 m) rfl hHeld ?_
    try simp only [Act.put, kA, kB, kC, kD, kE, kF]
    refine tk (i := 3) (v := .pointer (some ⟨g, (p + z) * 4, none⟩)) rfl hHeld ?_
    try simp only [Act.put, kA, kB, kC, kD, kE, kF]
    refine tk (i := 4) (v := .agg #[.int .i64 y0.code, .int .i64 y0.at_, .int .i64 y0.to, .string y0.text]) (hy := yieldsIf_load_mid (by rfl) _ _ rfl _ _ rfl [.int .i64 y0.code, .int .i64 y0.at_, .int .i64 y0.to, .string y0.text] _ (fun _ h => h.range hxl.out) Tryz.underlying34 rfl info_dg4) rfl hHeld ?_
    try simp only [Act.put, kA, kB, kC, kD, kE, kF]
    refine tk (i := 5) (v := .slice (some ⟨g, 0, none⟩) N cap) rfl hHeld ?_
    try simp only [Act.put, kA, kB, kC, kD, kE, kF]
    refine tk (i := 6) (v := .int .i64 (((i : Int) + j) / 2)) rfl hHeld ?_
    try simp only [Act.put, kA, kB, kC, kD, kE, kF]
    refine tk (i := 7) (v := .pointer (some ⟨g, h * 4, none⟩)) rfl hHeld ?_
    try simp only [Act.put, kA, kB, kC, kD, kE, kF]
    refine tk (i := 8) (v := .agg #[.int .i64 v.code, .int .i64 v.at_, .int .i64 v.to, .string v.text]) (hy := yieldsIf_load_mid (by rfl) _ _ rfl _ _ rfl [.int .i64 v.code, .int .i64 v.at_, .int .i64 v.to, .string v.text] _ (fun _ h => h.range hvl.out) Tryz.underlying34 rfl info_dg4) rfl hHeld ?_
    try simp only [Act.put, kA, kB, kC, kD, kE, kF]
    refine wpAnyH_ready (rs := [9]) (by kernel_rfl) (by simp) ?_
    refine AllReadyH.cons rfl (fun K hK => ?_) AllReadyH.nil
    rw [if_pos (by rfl)]
    go_simp
    go_at_call 76
    refine (cmp_walk _ y0 v hox hov).mono ?_
    rintro e u2 ⟨rfl, hb2⟩
    refine hK.out _ _ (hHeld.below hb2) (fun hHeld => ?_)
    clear hK K
    have hAr2 := Lib.hid hHeld
    have hKu : Hid (Kept (gfoot g) w u2) := hK2.out.trans (.of_below ((Below.refl _ _).drew.trans hb2))
    clear hb2
    try simp only [Act.put, kA, kB, kC, kD, kE, kF]
    refine tk (i := 10) (v := .bool false) rfl hHeld ?_
    try simp only [Act.put, kA, kB, kC, kD, kE, kF]
    refine tk (i := 11) (v := .bool true) rfl hHeld ?_
    try simp only [Act.put, kA, kB, kC, kD, kE, kF]
    refine wpAnyH_done (by kernel_rfl) ?_ _
    clear hHeld
    have hnx := Lib.hid (hS.out.up hU'.out (by omega))
    clear s1 s2 s3 s5 s6 s7
    go_wp2
    go_roundw
    case rel => exact ⟨h + 1, j, _, _, _, by rw [hh2'.out]; rfl, rfl, hij1, hnx, hAr2, hKu⟩
    case measure => simp [intOf]; omega
  ·have hUm : Um = [] := List.eq_nil_of_length_eq_zero (by have := hij.out; omega)
   subst hUm
   have hie : Hid (p + U1.length = i) := hij.out.1
   have hst : Hid (ArrIn wr g cap ((X ++ U1) ++ (U2 ++ (y0 :: ([] ++ Y))))) := by
    have h1 := hA2.out
    rw [hS.out.1] at h1
    exact Lib.hid (by simpa using h1)
   have hstk : Hid (p + U1.length + U2.length = p + z) := by
    have h1 := congrArg List.length hS.out.1
    simp only [List.length_append, hz'.out, List.length_nil] at h1
    unfold Hid
    omega
   go_wp2
   go_loopw [17] (fun s17 wr => ∃ (k : Nat) (Ua Ub : List Dg), s17 = .int .i64 k ∧ Hid (p + U1.length + Ua.length = k ∧ U2 = Ua ++ Ub) ∧ Hid (ArrIn wr g cap ((X ++ U1) ++ (Ua ++ (y0 :: (Ub ++ Y))))) ∧ Hid (Kept (gfoot g) w wr)) (fun s17 wr => (intOf s17).toNat)
   case atStart => exact ⟨p + z, U2, [], by rw [hm'.out], ⟨hstk.out, by simp⟩, hst, hK2⟩
   case round =>
    obtain ⟨k, Ua, Ub, rfl, hk, hA3, hK3⟩ := hrel
    have hNl : Hid (((X ++ U1) ++ (Ua ++ (y0 :: (Ub ++ Y)))).length = N) := by
     have h1 := hN'.out
     rw [hS.out.1, hk.out.2] at h1
     unfold Hid
     rw [← h1]
     simp only [List.length_append, List.length_cons, List.length_nil]
     omega
    rcases List.eq_nil_or_concat Ua with hUa | ⟨Uc, u, hUa⟩
    ·subst hUa
     have hki : (k : Int) ≤ i := by
      have h1 := hk.out
      have h2 := hie.out
      simp only [List.length_nil] at h1
      omega
     have hki3 : decide ((i : Int) < k) = false := decide_eq_false (by omega)
     have hfin : Hid (MrgEnd X U [y0] Y ((X ++ U1) ++ ([] ++ (y0 :: (Ub ++ Y))))) := by
      have h0 := hS.out
      have h1 := hk.out.2
      rw [List.nil_append] at h1
      subst h1
      obtain ⟨e1, e2, e3⟩ := h0
      have e4 : U = U1 ++ U2 := by simpa using e1
      have h5 := hU'.out
      rw [e4] at h5
      obtain ⟨m1, m2⟩ := merge_right h5 e2 e3
      refine ⟨U1 ++ ([y0] ++ U2), by simp, m1, by rw [e4]; exact m2, ?_⟩
      rw [e4]; simp; omega
     go_wp2
     exact bodyPost_ret (results_none rfl _ _ _) rfl ⟨_, rfl, hfin.out, hA3.out, hK3.out⟩
    ·rw [List.concat_eq_append] at hUa
     subst hUa
     obtain ⟨q, rfl⟩ : ∃ q, k = q + 1 := ⟨k - 1, by have := hk.out.1; simp only [List.length_append, List.length_cons, List.length_nil] at this; omega⟩
     have hki : (i : Int) < (q : Int) + 1 := by
      have h1 := hk.out
      have h2 := hie.out
      simp only [List.length_append, List.length_cons, List.length_nil] at h1
      omega
     have hki3 : decide ((i : Int) < (q : Int) + 1) = true := decide_eq_true (by omega)
     have hqN : q + 1 < N := by
      have h1 := hNl.out
      have h2 := hk.out.1
      have h3 := hp'.out
      simp only [List.length_append, List.length_cons, List.length_nil] at h1 h2
      omega
     have s1 : IntKind.i64.wrap (q : Int) = q := IntWalk.i64_in _ (by omega)
     have s2 : (0 : Int) ≤ (q : Int) + 1 := by omega
     have s3 : ((q : Int) + 1).toNat = q + 1 := by omega
     have s4 : (q : Int) + 1 < N := by omega
     have s5 : (q : Int) < N := by omega
     have hcur : (X ++ U1) ++ ((Uc ++ [u]) ++ (y0 :: (Ub ++ Y))) = ((X ++ U1) ++ Uc) ++ (u :: ([] ++ (y0 :: (Ub ++ Y)))) := by simp
     have hAr := Lib.hid (show ArrIn wr g cap (((X ++ U1) ++ Uc) ++ (u :: ([] ++ (y0 :: (Ub ++ Y))))) from hcur ▸ hA3.out)
     obtain ⟨cx, cy⟩ := hAr.out.two
     have hP2 : Hid (((X ++ U1) ++ Uc).length = q) := by
      have h1 := hk.out.1
      have h3 := hp'.out
      unfold Hid
      simp only [List.length_append, List.length_cons, List.length_nil] at h1 ⊢
      omega
     have hJ2 : Hid (((X ++ U1) ++ Uc).length + 1 + ([] : List Dg).length = q + 1) := by rw [hP2.out]; rfl
     rw [hJ2.out] at cy
     rw [hP2.out] at cx
     obtain ⟨cx0, cx1, cx2, cx3⟩ := cx
     obtain ⟨cy0, cy1, cy2, cy3⟩ := cy
     have hfr := hAr.out.free
     have hLl : Hid ((((X ++ U1) ++ Uc) ++ (u :: ([] ++ (y0 :: (Ub ++ Y))))).length = N) := by rw [← hcur]; exact hNl
     have hk2 : Hid (p + U1.length + Uc.length = q ∧ U2 = Uc ++ (u :: Ub)) := by
      have h1 := hk.out
      refine ⟨?_, by rw [h1.2]; simp⟩
      have h2 := h1.1
      simp only [List.length_append, List.length_cons, List.length_nil] at h2
      omega
     clear hcur
     go_upto_region 23 with fail
     refine wp_region_held_drew (S := fun u => True) (by kernel_rfl) trivial (fun hHeld => ?_)
     refine tk (i := 0) (v := .slice (some ⟨g, 0, none⟩) N cap) rfl hHeld ?_
     try simp only [Act.put, kA, kB, kC, kD, kE, kF]
     refine tk (i := 1) (v := .int .i64 ((q : Int) + 1)) rfl hHeld ?_
     try simp only [Act.put, kA, kB, kC, kD, kE, kF]
     refine tk (i := 2) (v := .slice (some ⟨g, 0, none⟩) N cap) rfl hHeld ?_
     try simp only [Act.put, kA, kB, kC, kD, kE, kF]
     refine tk (i := 3) (v := .int .i64 ((q : Int) + 1)) rfl hHeld ?_
     try simp only [Act.put, kA, kB, kC, kD, kE, kF]
     refine tk (i := 4) (v := .int .i64 q) rfl hHeld ?_
     try simp only [Act.put, kA, kB, kC, kD, kE, kF]
     refine tk (i := 5) (v := .slice (some ⟨g, 0, none⟩) N cap) rfl hHeld ?_
     try simp only [Act.put, kA, kB, kC, kD, kE, kF]
     refine tk (i := 6) (v := .int .i64 ((q : Int) + 1)) rfl hHeld ?_
     try simp only [Act.put, kA, kB, kC, kD, kE, kF]
     refine tk (i := 7) (v := .int .i64 q) rfl hHeld ?_
     try simp only [Act.put, kA, kB, kC, kD, kE, kF]
     refine tk (i := 8) (v := .pointer (some ⟨g, q * 4, none⟩)) rfl hHeld ?_
     try simp only [Act.put, kA, kB, kC, kD, kE, kF]
     refine tk (i := 10) (v := .slice (some ⟨g, 0, none⟩) N cap) rfl hHeld ?_
     try simp only [Act.put, kA, kB, kC, kD, kE, kF]
     refine tk (i := 11) (v := .int .i64 ((q : Int) + 1)) rfl hHeld ?_
     try simp only [Act.put, kA, kB, kC, kD, kE, kF]
     refine tk (i := 12) (v := .pointer (some ⟨g, (q + 1) * 4, none⟩)) rfl hHeld ?_
     try simp only [Act.put, kA, kB, kC, kD, kE, kF]
     refine wpAnyH_ready (rs := [9, 13]) (by kernel_rfl) (by simp) ?_
     refine AllReadyH.cons rfl (fun K hK => ?_) (AllReadyH.cons rfl (fun K hK => ?_) AllReadyH.nil)
     ·rw [if_pos (by rfl)]
      go_simp
      refine hK.out _ _ trivial (fun hHeld => ?_)
      clear hK K
      try simp only [Act.put, kA, kB, kC, kD, kE, kF]
      refine wpAnyH_ready (rs := [13]) (by kernel_rfl) (by simp) ?_
      refine AllReadyH.cons rfl (fun K hK => ?_) AllReadyH.nil
      rw [if_pos (by rfl)]
      go_simp
      refine hK.out _ _ trivial (fun hHeld => ?_)
      clear hK K
      try simp only [Act.put, kA, kB, kC, kD, kE, kF]
      refine tk (i := 14) (v := .pointer (some ⟨g, (q + 1) * 4, none⟩)) rfl hHeld ?_
      try simp only [Act.put, kA, kB, kC, kD, kE, kF]
      refine wpAnyH_ready (rs := [15]) (by kernel_rfl) (by simp) ?_
      refine AllReadyH.cons rfl (fun K hK => ?_) AllReadyH.nil
      rw [if_pos (by rfl)]
      go_simp
      refine hK.out _ _ trivial (fun hHeld => ?_)
      clear hK K
      have hW1 := (hAr.out.set (i := (q + 1)) (by rw [hLl.out]; omega) u).below (Below.refl _ _).drew
      have hKW1 := Lib.hid ((hK3.out.trans (kept_set4 wr g ((q + 1) * 4) (.int .i64 u.code) (.int .i64 u.at_) (.int .i64 u.to) (.string u.text))).trans (.drew _))
      generalize ((((wr.setCell ⟨g, (q + 1) * 4, none⟩ (.int .i64 u.code)).setCell ⟨g, (q + 1) * 4 + 1, none⟩ (.int .i64 u.at_)).setCell ⟨g, (q + 1) * 4 + 2, none⟩ (.int .i64 u.to)).setCell ⟨g, (q + 1) * 4 + 3, none⟩ (.string u.text)).drew = W1 at *
      obtain ⟨d0, d1, d2, d3⟩ := hW1.cell (i := q) (by rw [List.length_set, hLl.out]; omega)
      have hf1 := hW1.free
      have hW1' := Lib.hid hW1
      clear hW1
      try simp only [Act.put, kA, kB, kC, kD, kE, kF]
      refine tk (i := 16) (v := .pointer (some ⟨g, q * 4, none⟩)) rfl hHeld ?_
      try simp only [Act.put, kA, kB, kC, kD, kE, kF]
      refine wpAnyH_ready (rs := [17]) (by kernel_rfl) (by simp) ?_
      refine AllReadyH.cons rfl (fun K hK => ?_) AllReadyH.nil
      rw [if_pos (by rfl)]
      go_simp
      refine hK.out _ _ trivial (fun hHeld => ?_)
      clear hK K
      try simp only [Act.put, kA, kB, kC, kD, kE, kF]
      refine wpAnyH_done (by kernel_rfl) ?_ _
      clear hHeld
      have hW2 := hW1'.out.set (i := q) (by rw [List.length_set, hLl.out]; omega) y0
      have hse : ((((X ++ U1) ++ Uc) ++ (u :: (([] : List Dg) ++ (y0 :: (Ub ++ Y))))).set ((q + 1)) u).set (q) y0 = ((X ++ U1) ++ Uc) ++ (y0 :: (([] : List Dg) ++ (u :: (Ub ++ Y)))) := by
       rw [← hJ2.out, ← hP2.out]
       exact set_two' ((X ++ U1) ++ Uc) ([] : List Dg) (Ub ++ Y) u y0
      rw [hse] at hW2
      have hW2' := Lib.hid hW2
      have hKW2 := Lib.hid (hKW1.out.trans (kept_set4 W1 g (q * 4) (.int .i64 y0.code) (.int .i64 y0.at_) (.int .i64 y0.to) (.string y0.text)))
      clear hW2 hse d0 d1 d2 d3 hf1 cx0 cx1 cx2 cx3 cy0 cy1 cy2 cy3 hfr s1 s2 s3 hki3
      generalize (((W1.setCell ⟨g, q * 4, none⟩ _).setCell ⟨g, q * 4 + 1, none⟩ _).setCell ⟨g, q * 4 + 2, none⟩ _).setCell ⟨g, q * 4 + 3, none⟩ _ = W2 at *
      go_wp2
      go_roundw
      case rel => exact ⟨q, Uc, u :: Ub, by go_num, hk2, by have h9 := hW2'.out; exact Lib.hid (by simpa using h9), hKW2⟩
      case measure => simp [intOf]
     ·rw [if_pos (by rfl)]
      go_simp
      refine hK.out _ _ trivial (fun hHeld => ?_)
      clear hK K
      try simp only [Act.put, kA, kB, kC, kD, kE, kF]
      refine wpAnyH_ready (rs := [9]) (by kernel_rfl) (by simp) ?_
      refine AllReadyH.cons rfl (fun K hK => ?_) AllReadyH.nil
      rw [if_pos (by rfl)]
      go_simp
      refine hK.out _ _ trivial (fun hHeld => ?_)
      clear hK K
      try simp only [Act.put, kA, kB, kC, kD, kE, kF]
      refine tk (i := 14) (v := .pointer (some ⟨g, (q + 1) * 4, none⟩)) rfl hHeld ?_
      try simp only [Act.put, kA, kB, kC, kD, kE, kF]
      refine wpAnyH_ready (rs := [15]) (by kernel_rfl) (by simp) ?_
      refine AllReadyH.cons rfl (fun K hK => ?_) AllReadyH.nil
      rw [if_pos (by rfl)]
      go_simp
      refine hK.out _ _ trivial (fun hHeld => ?_)
      clear hK K
      have hW1 := (hAr.out.set (i := (q + 1)) (by rw [hLl.out]; omega) u).below (Below.refl _ _).drew
      have hKW1 := Lib.hid ((hK3.out.trans (kept_set4 wr g ((q + 1) * 4) (.int .i64 u.code) (.int .i64 u.at_) (.int .i64 u.to) (.string u.text))).trans (.drew _))
      generalize ((((wr.setCell ⟨g, (q + 1) * 4, none⟩ (.int .i64 u.code)).setCell ⟨g, (q + 1) * 4 + 1, none⟩ (.int .i64 u.at_)).setCell ⟨g, (q + 1) * 4 + 2, none⟩ (.int .i64 u.to)).setCell ⟨g, (q + 1) * 4 + 3, none⟩ (.string u.text)).drew = W1 at *
      obtain ⟨d0, d1, d2, d3⟩ := hW1.cell (i := q) (by rw [List.length_set, hLl.out]; omega)
      have hf1 := hW1.free
      have hW1' := Lib.hid hW1
      clear hW1
      try simp only [Act.put, kA, kB, kC, kD, kE, kF]
      refine tk (i := 16) (v := .pointer (some ⟨g, q * 4, none⟩)) rfl hHeld ?_
      try simp only [Act.put, kA, kB, kC, kD, kE, kF]
      refine wpAnyH_ready (rs := [17]) (by kernel_rfl) (by simp) ?_
      refine AllReadyH.cons rfl (fun K hK => ?_) AllReadyH.nil
      rw [if_pos (by rfl)]
      go_simp
      refine hK.out _ _ trivial (fun hHeld => ?_)
      clear hK K
      try simp only [Act.put, kA, kB, kC, kD, kE, kF]
      refine wpAnyH_done (by kernel_rfl) ?_ _
      clear hHeld
      have hW2 := hW1'.out.set (i := q) (by rw [List.length_set, hLl.out]; omega) y0
      have hse : ((((X ++ U1) ++ Uc) ++ (u :: (([] : List Dg) ++ (y0 :: (Ub ++ Y))))).set ((q + 1)) u).set (q) y0 = ((X ++ U1) ++ Uc) ++ (y0 :: (([] : List Dg) ++ (u :: (Ub ++ Y)))) := by
       rw [← hJ2.out, ← hP2.out]
       exact set_two' ((X ++ U1) ++ Uc) ([] : List Dg) (Ub ++ Y) u y0
      rw [hse] at hW2
      have hW2' := Lib.hid hW2
      have hKW2 := Lib.hid (hKW1.out.trans (kept_set4 W1 g (q * 4) (.int .i64 y0.code) (.int .i64 y0.at_) (.int .i64 y0.to) (.string y0.text)))
      clear hW2 hse d0 d1 d2 d3 hf1 cx0 cx1 cx2 cx3 cy0 cy1 cy2 cy3 hfr s1 s2 s3 hki3
      generalize (((W1.setCell ⟨g, q * 4, none⟩ _).setCell ⟨g, q * 4 + 1, none⟩ _).setCell ⟨g, q * 4 + 2, none⟩ _).setCell ⟨g, q * 4 + 3, none⟩ _ = W2 at *
      go_wp2
      go_roundw
      case rel => exact ⟨q, Uc, u :: Ub, by go_num, hk2, by have h9 := hW2'.out; exact Lib.hid (by simpa using h9), hKW2⟩
      case measure => simp [intOf]
end Go.Proofs.YthggagophcnkfaaGreatDoor.so
