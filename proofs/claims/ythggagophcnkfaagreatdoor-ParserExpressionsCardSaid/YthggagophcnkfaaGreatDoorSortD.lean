/- The walk of the merge of a slice of diagnostics where one stretch is a single element. -/
import Derived.Test.YthggagophcnkfaaGreatDoorTk
import Derived.Test.YthggagophcnkfaaGreatDoorSortC
namespace Go.Proofs.YthggagophcnkfaaGreatDoor.so
open Go.RowKit Go.Proofs.YthggagophcnkfaaGreatDoor.agg Go.Proofs.YthggagophcnkfaaGreatDoor.sx Go.Proofs.YthggagophcnkfaaGreatDoor.px Go.Proofs.YthggagophcnkfaaGreatDoor.lx
set_option linter.unusedSimpArgs false
set_option linter.unusedVariables false
def MrgEnd (X U V Y : List Dg) (l' : List Dg) : Prop := ∃ W, l' = X ++ (W ++ Y) ∧ Srt W ∧ Like (U ++ V) W ∧ W.length = U.length + V.length
def SearchL (x : Dg) (V V1 Vm V2 : List Dg) : Prop := V = V1 ++ (Vm ++ V2) ∧ (∀ v ∈ V1, v.at_ < x.at_) ∧ (∀ v ∈ V2, x.at_ ≤ v.at_)
theorem SearchL.up {x v : Dg} {V V1 Va Vb V2 : List Dg} (hV : Srt V) (h : SearchL x V V1 (Va ++ (v :: Vb)) V2) (hv : v.at_ < x.at_) : SearchL x V (V1 ++ (Va ++ [v])) Vb V2 := by
 obtain ⟨h1, h2, h3⟩ := h
 refine ⟨by rw [h1]; simp, fun u hu => ?_, h3⟩
 rcases List.mem_append.1 hu with hu | hu
 ·exact h2 u hu
 ·rcases List.mem_append.1 hu with hu | hu
  ·rw [h1] at hV
   have h4 := (srt_app.1 (srt_app.1 (srt_app.1 hV).2.1).1).2.2 u hu v (by simp)
   omega
  ·obtain rfl := List.mem_singleton.1 hu
   exact hv
theorem SearchL.down {x v : Dg} {V V1 Va Vb V2 : List Dg} (hV : Srt V) (h : SearchL x V V1 (Va ++ (v :: Vb)) V2) (hv : x.at_ ≤ v.at_) : SearchL x V V1 Va (v :: (Vb ++ V2)) := by
 obtain ⟨h1, h2, h3⟩ := h
 refine ⟨by rw [h1]; simp, h2, fun u hu => ?_⟩
 rw [h1] at hV
 rcases List.mem_cons.1 hu with rfl | hu
 ·exact hv
 ·rcases List.mem_append.1 hu with hu | hu
  ·have h4 := (srt_app.1 (srt_app.1 (srt_app.1 hV).2.1).1).2.1
   have h5 := (List.pairwise_cons.1 h4).1 u hu
   omega
  ·exact h3 u hu
theorem mid_split {l : List Dg} (h : 0 < l.length) : ∃ A v B, l = A ++ (v :: B) ∧ A.length = l.length / 2 := by
 have hlt : l.length / 2 < l.length := by omega
 exact ⟨l.take (l.length / 2), l[l.length / 2], l.drop (l.length / 2 + 1), by rw [← List.drop_eq_getElem_cons hlt, List.take_append_drop], by rw [List.length_take]; omega⟩
set_option maxRecDepth 100000 in
set_option maxHeartbeats 8000000 in
theorem merge_left_walk {w : World} {g cap : Nat} (X : List Dg) (x0 : Dg) (V Y : List Dg) {N : Nat} (hA : ArrIn w g cap (X ++ ([x0] ++ (V ++ Y)))) (hN : (X ++ ([x0] ++ (V ++ Y))).length = N) (hn : N ≤ 100000) (hok : OkD (X ++ ([x0] ++ (V ++ Y)))) (hV : Srt V) {a m b : Int} (ha : a = X.length) (hm : m = (X.length + 1 : Nat)) (hb : b = (X.length + (1 + V.length) : Nat)) :
 Calls Tryz.prog 158 #[.slice (some ⟨g, 0, none⟩) N cap, .int .i64 a, .int .i64 m, .int .i64 b, .func (.func 76) #[] #[]] w (ArrEnd w g cap (MrgEnd X [x0] V Y)) := by
 obtain ⟨p, hp⟩ : ∃ p, X.length = p := ⟨_, rfl⟩
 obtain ⟨z, hz⟩ : ∃ z, V.length = z := ⟨_, rfl⟩
 have hpz : p + (1 + z) ≤ N := by rw [← hN, ← hp, ← hz]; simp only [List.length_append, List.length_cons, List.length_nil]; omega
 rw [hp] at ha hm
 rw [hp, hz] at hb
 have ha' := Lib.hid ha
 have hm' := Lib.hid hm
 have hb' := Lib.hid hb
 have hp' := Lib.hid hp
 have hz' := Lib.hid hz
 have hA' := Lib.hid hA
 have hok' := Lib.hid hok
 have hN' := Lib.hid hN
 have hV' := Lib.hid hV
 have g1 : 0 ≤ a := by omega
 have g2 : m - a = 1 := by omega
 have g2' : a < m := by omega
 have g3 : m ≤ b := by omega
 have g4 : b ≤ N := by omega
 have hcr := cmp_run
 clear hA hN hok ha hb hp hz hm hV
 go_enter Tryz.func158, Tryz.ntmps158
 go_wp2_with fail
 go_loopw [10, 11] (fun s10 s11 wr => ∃ (i j : Nat) (V1 Vm V2 : List Dg), s10 = .int .i64 i ∧ s11 = .int .i64 j ∧ Hid (p + 1 + V1.length = i ∧ i + Vm.length = j) ∧ Hid (SearchL x0 V V1 Vm V2) ∧ Hid (ArrIn wr g cap (X ++ ([x0] ++ (V ++ Y)))) ∧ Hid (Kept (gfoot g) w wr)) (fun s10 s11 wr => (intOf s11).toNat - (intOf s10).toNat)
 case atStart =>
  exact ⟨p + 1, p + 1 + z, [], V, [], by rw [hm'.out], by rw [hb'.out]; congr 1; omega, ⟨rfl, by rw [hz'.out]⟩, ⟨by simp, by simp, by simp⟩, hA', .refl _ _⟩
 case round =>
  obtain ⟨i, j, V1, Vm, V2, rfl, rfl, hij, hS, hA2, hK2⟩ := hrel
  have hiN : j ≤ N := by
   have h1 := hS.out.1
   have h2 := congrArg List.length h1
   simp only [List.length_append, hz'.out] at h2
   have := hij.out
   omega
  by_cases hlt : i < j
  ·obtain ⟨Va, v, Vb, rfl, hVa⟩ := mid_split (l := Vm) (by have := hij.out; omega)
   obtain ⟨h, hh⟩ : ∃ h, (i + j) / 2 = h := ⟨_, rfl⟩
   have hhi : h = i + Va.length := by have := hij.out; omega
   have s1 : (0 : Int) ≤ ((i : Int) + j) / 2 := by omega
   have s2 : ((i : Int) + j) / 2 < N := by omega
   have s3 : (((i : Int) + j) / 2).toNat = h := by omega
   have s4 : a < N := by omega
   have s5 : a.toNat = p := by have := ha'.out; omega
   have hvl : Hid ((X ++ ([x0] ++ (V ++ Y)))[h]? = some v) := by
    unfold Hid
    rw [hS.out.1, List.getElem?_append_right (by rw [hp'.out]; have := hij.out; omega), hp'.out]
    rw [List.getElem?_append_right (by simp only [List.length_cons, List.length_nil]; have := hij.out; omega)]
    rw [List.append_assoc, List.getElem?_append_right (by simp only [List.length_cons, List.length_nil]; have := hij.out; omega)]
    rw [List.append_assoc, List.append_assoc, List.getElem?_append_right (by simp only [List.length_cons, List.length_nil]; have := hij.out; omega)]
    have : h - p - [x0].length - V1.length - Va.length = 0 := by simp only [List.length_cons, List.length_nil]; have := hij.out; omega
    rw [this]
    rfl
   have hxl : Hid ((X ++ ([x0] ++ (V ++ Y)))[p]? = some x0) := by
    unfold Hid
    rw [← hp'.out, List.getElem?_append_right (Nat.le_refl _)]
    simp
   have hov : 0 ≤ v.at_ ∧ v.at_ ≤ 4096 := hok'.out v (List.mem_of_getElem? hvl.out)
   have hox : 0 ≤ x0.at_ ∧ x0.at_ ≤ 4096 := hok'.out x0 (List.mem_of_getElem? hxl.out)
   have hij1 : Hid (p + 1 + (V1 ++ (Va ++ [v])).length = h + 1 ∧ h + 1 + Vb.length = j) := by
    have := hij.out
    simp only [List.length_append, List.length_cons, List.length_nil] at this ⊢
    unfold Hid
    omega
   have hij2 : Hid (p + 1 + V1.length = i ∧ i + Va.length = h) := by
    have := hij.out
    unfold Hid
    omega
   clear hVa
   have hh2 : ((i : Int) + j) / 2 = h := by omega
   have hh2' := Lib.hid hh2
   clear hh hh2 hhi
   by_cases hvx : v.at_ < x0.at_
   ·have s6 : decide (v.at_ - x0.at_ < 0) = true := decide_eq_true (by omega)
    have s7 : v.at_ - x0.at_ < 0 := by omega
    go_upto_region 5 with fail
    refine wp_region_held_drew (S := fun u => ArrIn u g cap (X ++ ([x0] ++ (V ++ Y)))) (by kernel_rfl) (hA2.out.below (Below.refl _ _).drew) (fun hHeld => ?_)
    refine tk (i := 0) (v := .func (.func 76) #[] #[]) rfl hHeld ?_
    try simp only [Act.put, kA, kB, kC, kD, kE, kF]
    refine tk (i := 1) (v := .slice (some ⟨g, 0, none⟩) N cap) rfl hHeld ?_
    try simp only [Act.put, kA, kB, kC, kD, kE, kF]
    refine tk (i := 2) (v := .int .i64 (((i : Int) + j) / 2)) rfl hHeld ?_
    try simp only [Act.put, kA, kB, kC, kD, kE, kF]
    refine tk (i := 3) (v := .pointer (some ⟨g, h * 4, none⟩)) rfl hHeld ?_
    try simp only [Act.put, kA, kB, kC, kD, kE, kF]
    refine tk (i := 4) (v := .agg #[.int .i64 v.code, .int .i64 v.at_, .int .i64 v.to, .string v.text]) (hy := yieldsIf_load_mid (by rfl) _ _ rfl _ _ rfl [.int .i64 v.code, .int .i64 v.at_, .int .i64 v.to, .string v.text] _ (fun _ h => h.range hvl.out) Tryz.underlying34 rfl info_dg4) rfl hHeld ?_
    try simp only [Act.put, kA, kB, kC, kD, kE, kF]
    refine tk (i := 5) (v := .slice (some ⟨g, 0, none⟩) N cap) rfl hHeld ?_
    try simp only [Act.put, kA, kB, kC, kD, kE, kF]
    refine tk (i := 6) (v := .int .i64 a) rfl hHeld ?_
    try simp only [Act.put, kA, kB, kC, kD, kE, kF]
    refine tk (i := 7) (v := .pointer (some ⟨g, p * 4, none⟩)) rfl hHeld ?_
    try simp only [Act.put, kA, kB, kC, kD, kE, kF]
    refine tk (i := 8) (v := .agg #[.int .i64 x0.code, .int .i64 x0.at_, .int .i64 x0.to, .string x0.text]) (hy := yieldsIf_load_mid (by rfl) _ _ rfl _ _ rfl [.int .i64 x0.code, .int .i64 x0.at_, .int .i64 x0.to, .string x0.text] _ (fun _ h => h.range hxl.out) Tryz.underlying34 rfl info_dg4) rfl hHeld ?_
    try simp only [Act.put, kA, kB, kC, kD, kE, kF]
    refine wpAnyH_ready (rs := [9]) (by kernel_rfl) (by simp) ?_
    refine AllReadyH.cons rfl (fun K hK => ?_) AllReadyH.nil
    rw [if_pos (by rfl)]
    go_simp
    go_at_call 76
    refine (cmp_walk _ v x0 hov hox).mono ?_
    rintro e u2 ⟨rfl, hb2⟩
    refine hK.out _ _ (hHeld.below hb2) (fun hHeld => ?_)
    clear hK K
    have hAr2 := Lib.hid hHeld
    have hKu : Hid (Kept (gfoot g) w u2) := hK2.out.trans (.of_below ((Below.refl _ _).drew.trans hb2))
    clear hb2
    try simp only [Act.put, kA, kB, kC, kD, kE, kF]
    refine tk (i := 10) (v := .bool true) rfl hHeld ?_
    try simp only [Act.put, kA, kB, kC, kD, kE, kF]
    refine wpAnyH_done (by kernel_rfl) ?_ _
    clear hHeld
    have hnx := Lib.hid (hS.out.up hV'.out hvx)
    clear s1 s2 s3 s4 s5 s6 s7
    go_wp2
    go_roundw
    case rel => exact ⟨h + 1, j, _, _, _, by rw [hh2'.out]; rfl, rfl, hij1, hnx, hAr2, hKu⟩
    case measure => simp [intOf]; omega
   ·have s6 : decide (v.at_ - x0.at_ < 0) = false := decide_eq_false (by omega)
    have s7 : 0 ≤ v.at_ - x0.at_ := by omega
    go_upto_region 5 with fail
    refine wp_region_held_drew (S := fun u => ArrIn u g cap (X ++ ([x0] ++ (V ++ Y)))) (by kernel_rfl) (hA2.out.below (Below.refl _ _).drew) (fun hHeld => ?_)
    refine tk (i := 0) (v := .func (.func 76) #[] #[]) rfl hHeld ?_
    try simp only [Act.put, kA, kB, kC, kD, kE, kF]
    refine tk (i := 1) (v := .slice (some ⟨g, 0, none⟩) N cap) rfl hHeld ?_
    try simp only [Act.put, kA, kB, kC, kD, kE, kF]
    refine tk (i := 2) (v := .int .i64 (((i : Int) + j) / 2)) rfl hHeld ?_
    try simp only [Act.put, kA, kB, kC, kD, kE, kF]
    refine tk (i := 3) (v := .pointer (some ⟨g, h * 4, none⟩)) rfl hHeld ?_
    try simp only [Act.put, kA, kB, kC, kD, kE, kF]
    refine tk (i := 4) (v := .agg #[.int .i64 v.code, .int .i64 v.at_, .int .i64 v.to, .string v.text]) (hy := yieldsIf_load_mid (by rfl) _ _ rfl _ _ rfl [.int .i64 v.code, .int .i64 v.at_, .int .i64 v.to, .string v.text] _ (fun _ h => h.range hvl.out) Tryz.underlying34 rfl info_dg4) rfl hHeld ?_
    try simp only [Act.put, kA, kB, kC, kD, kE, kF]
    refine tk (i := 5) (v := .slice (some ⟨g, 0, none⟩) N cap) rfl hHeld ?_
    try simp only [Act.put, kA, kB, kC, kD, kE, kF]
    refine tk (i := 6) (v := .int .i64 a) rfl hHeld ?_
    try simp only [Act.put, kA, kB, kC, kD, kE, kF]
    refine tk (i := 7) (v := .pointer (some ⟨g, p * 4, none⟩)) rfl hHeld ?_
    try simp only [Act.put, kA, kB, kC, kD, kE, kF]
    refine tk (i := 8) (v := .agg #[.int .i64 x0.code, .int .i64 x0.at_, .int .i64 x0.to, .string x0.text]) (hy := yieldsIf_load_mid (by rfl) _ _ rfl _ _ rfl [.int .i64 x0.code, .int .i64 x0.at_, .int .i64 x0.to, .string x0.text] _ (fun _ h => h.range hxl.out) Tryz.underlying34 rfl info_dg4) rfl hHeld ?_
    try simp only [Act.put, kA, kB, kC, kD, kE, kF]
    refine wpAnyH_ready (rs := [9]) (by kernel_rfl) (by simp) ?_
    refine AllReadyH.cons rfl (fun K hK => ?_) AllReadyH.nil
    rw [if_pos (by rfl)]
    go_simp
    go_at_call 76
    refine (cmp_walk _ v x0 hov hox).mono ?_
    rintro e u2 ⟨rfl, hb2⟩
    refine hK.out _ _ (hHeld.below hb2) (fun hHeld => ?_)
    clear hK K
    have hAr2 := Lib.hid hHeld
    have hKu : Hid (Kept (gfoot g) w u2) := hK2.out.trans (.of_below ((Below.refl _ _).drew.trans hb2))
    clear hb2
    try simp only [Act.put, kA, kB, kC, kD, kE, kF]
    refine tk (i := 10) (v := .bool false) rfl hHeld ?_
    try simp only [Act.put, kA, kB, kC, kD, kE, kF]
    refine wpAnyH_done (by kernel_rfl) ?_ _
    clear hHeld
    have hnx := Lib.hid (hS.out.down hV'.out (by omega))
    clear s1 s2 s3 s4 s5 s6 s7
    go_wp2
    go_roundw
    case rel => exact ⟨i, h, _, _, _, rfl, by rw [hh2'.out], hij2, hnx, hAr2, hKu⟩
    case measure => simp [intOf]; omega
  ·have hVm : Vm = [] := List.eq_nil_of_length_eq_zero (by have := hij.out; omega)
   subst hVm
   have hie : Hid (p + 1 + V1.length = i) := hij.out.1
   have hst : Hid (ArrIn wr g cap ((X ++ []) ++ (x0 :: (V1 ++ (V2 ++ Y))))) := by
    have h1 := hA2.out
    rw [hS.out.1] at h1
    exact Lib.hid (by simpa using h1)
   have hi1 : 1 ≤ (i : Int) := by have := hie.out; omega
   go_wp2
   go_loopw [13] (fun s13 wr => ∃ (k : Nat) (Va Vb : List Dg), s13 = .int .i64 k ∧ Hid (p + Va.length = k ∧ V1 = Va ++ Vb) ∧ Hid (ArrIn wr g cap ((X ++ Va) ++ (x0 :: (Vb ++ (V2 ++ Y))))) ∧ Hid (Kept (gfoot g) w wr)) (fun s13 wr => N - (intOf s13).toNat)
   case atStart => exact ⟨p, [], V1, by rw [ha'.out], ⟨rfl, rfl⟩, hst, hK2⟩
   case round =>
    obtain ⟨k, Va, Vb, rfl, hk, hA3, hK3⟩ := hrel
    have hNl : Hid (((X ++ Va) ++ (x0 :: (Vb ++ (V2 ++ Y)))).length = N) := by
     have h1 := hN'.out
     rw [hS.out.1, hk.out.2] at h1
     unfold Hid
     rw [← h1]
     simp only [List.length_append, List.length_cons, List.length_nil]
     omega
    cases Vb with
    | nil =>
     have hki : (i : Int) ≤ k + 1 := by
      have h1 := hk.out
      have h2 := hie.out
      rw [h1.2] at h2
      simp only [List.length_append, List.length_nil] at h2
      omega
     have hki2 : (i : Int) - 1 ≤ k := by omega
     have hiN2 : (i : Int) ≤ N := by have := hij.out; omega
     have hki3 : decide ((k : Int) < (i : Int) - 1) = false := decide_eq_false (by omega)
     have hfin : Hid (MrgEnd X [x0] V Y ((X ++ Va) ++ (x0 :: ([] ++ (V2 ++ Y))))) := by
      have h0 := hS.out
      have h1 := hk.out.2
      rw [List.append_nil] at h1
      subst h1
      obtain ⟨e1, e2, e3⟩ := h0
      have e4 : V = V1 ++ V2 := by simpa using e1
      have h5 := hV'.out
      rw [e4] at h5
      obtain ⟨m1, m2⟩ := merge_left h5 e2 e3
      refine ⟨V1 ++ ([x0] ++ V2), by simp, m1, by rw [e4]; exact m2, ?_⟩
      rw [e4]; simp; omega
     go_wp2
     exact bodyPost_ret (results_none rfl _ _ _) rfl ⟨_, rfl, hfin.out, hA3.out, hK3.out⟩
    | cons y Vb =>
     have hki : (k : Int) + 1 < i := by
      have h1 := hk.out
      have h2 := hie.out
      rw [h1.2] at h2
      simp only [List.length_append, List.length_cons] at h2
      omega
     have hki2 : (k : Int) < (i : Int) - 1 := by omega
     have hki3 : decide ((k : Int) < (i : Int) - 1) = true := decide_eq_true (by omega)
     have hiN2 : (i : Int) ≤ N := by have := hij.out; omega
     have s1 : IntKind.i64.wrap ((k : Int) + 1) = k + 1 := IntWalk.i64_in _ (by omega)
     have s2 : (0 : Int) ≤ (k : Int) + 1 := by omega
     have s3 : ((k : Int) + 1).toNat = k + 1 := by omega
     have s4 : (k : Int) + 1 < N := by omega
     have s5 : (k : Int) < N := by omega
     have hAr := Lib.hid (show ArrIn wr g cap ((X ++ Va) ++ (x0 :: ([] ++ (y :: (Vb ++ (V2 ++ Y)))))) from hA3.out)
     obtain ⟨cx, cy⟩ := hAr.out.two
     have hP2 : Hid ((X ++ Va).length = k) := by rw [List.length_append, hp'.out]; exact hk.out.1
     have hJ2 : Hid ((X ++ Va).length + 1 + ([] : List Dg).length = k + 1) := by rw [hP2.out]; rfl
     rw [hJ2.out] at cy
     rw [hP2.out] at cx
     obtain ⟨cx0, cx1, cx2, cx3⟩ := cx
     obtain ⟨cy0, cy1, cy2, cy3⟩ := cy
     have hfr := hAr.out.free
     have hLl : Hid (((X ++ Va) ++ (x0 :: ([] ++ (y :: (Vb ++ (V2 ++ Y)))))).length = N) := hNl
     have hk2 : Hid (p + (Va ++ [y]).length = k + 1 ∧ V1 = (Va ++ [y]) ++ Vb) := by
      have h1 := hk.out
      refine ⟨?_, by rw [h1.2]; simp⟩
      simp only [List.length_append, List.length_cons, List.length_nil]
      omega
     go_upto_region 11 with fail
     refine wp_region_held_drew (S := fun u => True) (by kernel_rfl) trivial (fun hHeld => ?_)
     refine tk (i := 0) (v := .slice (some ⟨g, 0, none⟩) N cap) rfl hHeld ?_
     try simp only [Act.put, kA, kB, kC, kD, kE, kF]
     refine tk (i := 1) (v := .int .i64 k) rfl hHeld ?_
     try simp only [Act.put, kA, kB, kC, kD, kE, kF]
     refine tk (i := 2) (v := .slice (some ⟨g, 0, none⟩) N cap) rfl hHeld ?_
     try simp only [Act.put, kA, kB, kC, kD, kE, kF]
     refine tk (i := 3) (v := .int .i64 k) rfl hHeld ?_
     try simp only [Act.put, kA, kB, kC, kD, kE, kF]
     refine tk (i := 4) (v := .int .i64 ((k : Int) + 1)) rfl hHeld ?_
     try simp only [Act.put, kA, kB, kC, kD, kE, kF]
     refine tk (i := 5) (v := .slice (some ⟨g, 0, none⟩) N cap) rfl hHeld ?_
     try simp only [Act.put, kA, kB, kC, kD, kE, kF]
     refine tk (i := 6) (v := .int .i64 k) rfl hHeld ?_
     try simp only [Act.put, kA, kB, kC, kD, kE, kF]
     refine tk (i := 7) (v := .int .i64 ((k : Int) + 1)) rfl hHeld ?_
     try simp only [Act.put, kA, kB, kC, kD, kE, kF]
     refine tk (i := 8) (v := .pointer (some ⟨g, (k + 1) * 4, none⟩)) rfl hHeld ?_
     try simp only [Act.put, kA, kB, kC, kD, kE, kF]
     refine tk (i := 10) (v := .slice (some ⟨g, 0, none⟩) N cap) rfl hHeld ?_
     try simp only [Act.put, kA, kB, kC, kD, kE, kF]
     refine tk (i := 11) (v := .int .i64 k) rfl hHeld ?_
     try simp only [Act.put, kA, kB, kC, kD, kE, kF]
     refine tk (i := 12) (v := .pointer (some ⟨g, k * 4, none⟩)) rfl hHeld ?_
     try simp only [Act.put, kA, kB, kC, kD, kE, kF]
     refine wpAnyH_ready (rs := [9, 13]) (by kernel_rfl) (by simp) ?_
     refine AllReadyH.cons rfl (fun K hK => ?_) (AllReadyH.cons rfl (fun K hK => ?_) AllReadyH.nil)
     ·rw [if_pos (by rfl)]
      go_simp
      refine hK.out _ _ trivial (fun hHeld => ?_)
      clear hK K
      try simp only [Act.put, kA, kB, kC, kD, kE, kF]
      refine wpAnyH_ready (rs := [13]) (by kernel_rfl) (by simp) ?_
      refine AllReadyH.cons rfl (fun K hK => ?_) AllReadyH.nil
      rw [if_pos (by rfl)]
      go_simp
      refine hK.out _ _ trivial (fun hHeld => ?_)
      clear hK K
      try simp only [Act.put, kA, kB, kC, kD, kE, kF]
      refine tk (i := 14) (v := .pointer (some ⟨g, k * 4, none⟩)) rfl hHeld ?_
      try simp only [Act.put, kA, kB, kC, kD, kE, kF]
      refine wpAnyH_ready (rs := [15]) (by kernel_rfl) (by simp) ?_
      refine AllReadyH.cons rfl (fun K hK => ?_) AllReadyH.nil
      rw [if_pos (by rfl)]
      go_simp
      refine hK.out _ _ trivial (fun hHeld => ?_)
      clear hK K
      have hW1 := (hAr.out.set (i := k) (by rw [hLl.out]; omega) y).below (Below.refl _ _).drew
      have hKW1 := Lib.hid ((hK3.out.trans (kept_set4 wr g (k * 4) (.int .i64 y.code) (.int .i64 y.at_) (.int .i64 y.to) (.string y.text))).trans (.drew _))
      generalize ((((wr.setCell ⟨g, k * 4, none⟩ (.int .i64 y.code)).setCell ⟨g, k * 4 + 1, none⟩ (.int .i64 y.at_)).setCell ⟨g, k * 4 + 2, none⟩ (.int .i64 y.to)).setCell ⟨g, k * 4 + 3, none⟩ (.string y.text)).drew = W1 at *
      obtain ⟨d0, d1, d2, d3⟩ := hW1.cell (i := (k + 1)) (by rw [List.length_set, hLl.out]; omega)
      have hf1 := hW1.free
      have hW1' := Lib.hid hW1
      clear hW1
      try simp only [Act.put, kA, kB, kC, kD, kE, kF]
      refine tk (i := 16) (v := .pointer (some ⟨g, (k + 1) * 4, none⟩)) rfl hHeld ?_
      try simp only [Act.put, kA, kB, kC, kD, kE, kF]
      refine wpAnyH_ready (rs := [17]) (by kernel_rfl) (by simp) ?_
      refine AllReadyH.cons rfl (fun K hK => ?_) AllReadyH.nil
      rw [if_pos (by rfl)]
      go_simp
      refine hK.out _ _ trivial (fun hHeld => ?_)
      clear hK K
      try simp only [Act.put, kA, kB, kC, kD, kE, kF]
      refine wpAnyH_done (by kernel_rfl) ?_ _
      clear hHeld
      have hW2 := hW1'.out.set (i := (k + 1)) (by rw [List.length_set, hLl.out]; omega) x0
      have hse : (((X ++ Va) ++ (x0 :: (([] : List Dg) ++ (y :: (Vb ++ (V2 ++ Y)))))).set (k) y).set ((k + 1)) x0 = (X ++ Va) ++ (y :: (([] : List Dg) ++ (x0 :: (Vb ++ (V2 ++ Y))))) := by
       rw [← hJ2.out, ← hP2.out]
       exact set_two (X ++ Va) ([] : List Dg) (Vb ++ (V2 ++ Y)) x0 y
      rw [hse] at hW2
      have hW2' := Lib.hid hW2
      have hKW2 := Lib.hid (hKW1.out.trans (kept_set4 W1 g ((k + 1) * 4) (.int .i64 x0.code) (.int .i64 x0.at_) (.int .i64 x0.to) (.string x0.text)))
      clear hW2 hse d0 d1 d2 d3 hf1 cx0 cx1 cx2 cx3 cy0 cy1 cy2 cy3 hfr s1 s2 s3 hki3
      generalize (((W1.setCell ⟨g, (k + 1) * 4, none⟩ _).setCell ⟨g, (k + 1) * 4 + 1, none⟩ _).setCell ⟨g, (k + 1) * 4 + 2, none⟩ _).setCell ⟨g, (k + 1) * 4 + 3, none⟩ _ = W2 at *
      go_wp2
      go_roundw
      case rel => exact ⟨k + 1, Va ++ [y], Vb, by go_num, hk2, by have h9 := hW2'.out; exact Lib.hid (by simpa using h9), hKW2⟩
      case measure => simp [intOf]; omega
     ·rw [if_pos (by rfl)]
      go_simp
      refine hK.out _ _ trivial (fun hHeld => ?_)
      clear hK K
      try simp only [Act.put, kA, kB, kC, kD, kE, kF]
      refine wpAnyH_ready (rs := [9]) (by kernel_rfl) (by simp) ?_
      refine AllReadyH.cons rfl (fun K hK => ?_) AllReadyH.nil
      rw [if_pos (by rfl)]
      go_simp
      refine hK.out _ _ trivial (fun hHeld => ?_)
      clear hK K
      try simp only [Act.put, kA, kB, kC, kD, kE, kF]
      refine tk (i := 14) (v := .pointer (some ⟨g, k * 4, none⟩)) rfl hHeld ?_
      try simp only [Act.put, kA, kB, kC, kD, kE, kF]
      refine wpAnyH_ready (rs := [15]) (by kernel_rfl) (by simp) ?_
      refine AllReadyH.cons rfl (fun K hK => ?_) AllReadyH.nil
      rw [if_pos (by rfl)]
      go_simp
      refine hK.out _ _ trivial (fun hHeld => ?_)
      clear hK K
      have hW1 := (hAr.out.set (i := k) (by rw [hLl.out]; omega) y).below (Below.refl _ _).drew
      have hKW1 := Lib.hid ((hK3.out.trans (kept_set4 wr g (k * 4) (.int .i64 y.code) (.int .i64 y.at_) (.int .i64 y.to) (.string y.text))).trans (.drew _))
      generalize ((((wr.setCell ⟨g, k * 4, none⟩ (.int .i64 y.code)).setCell ⟨g, k * 4 + 1, none⟩ (.int .i64 y.at_)).setCell ⟨g, k * 4 + 2, none⟩ (.int .i64 y.to)).setCell ⟨g, k * 4 + 3, none⟩ (.string y.text)).drew = W1 at *
      obtain ⟨d0, d1, d2, d3⟩ := hW1.cell (i := (k + 1)) (by rw [List.length_set, hLl.out]; omega)
      have hf1 := hW1.free
      have hW1' := Lib.hid hW1
      clear hW1
      try simp only [Act.put, kA, kB, kC, kD, kE, kF]
      refine tk (i := 16) (v := .pointer (some ⟨g, (k + 1) * 4, none⟩)) rfl hHeld ?_
      try simp only [Act.put, kA, kB, kC, kD, kE, kF]
      refine wpAnyH_ready (rs := [17]) (by kernel_rfl) (by simp) ?_
      refine AllReadyH.cons rfl (fun K hK => ?_) AllReadyH.nil
      rw [if_pos (by rfl)]
      go_simp
      refine hK.out _ _ trivial (fun hHeld => ?_)
      clear hK K
      try simp only [Act.put, kA, kB, kC, kD, kE, kF]
      refine wpAnyH_done (by kernel_rfl) ?_ _
      clear hHeld
      have hW2 := hW1'.out.set (i := (k + 1)) (by rw [List.length_set, hLl.out]; omega) x0
      have hse : (((X ++ Va) ++ (x0 :: (([] : List Dg) ++ (y :: (Vb ++ (V2 ++ Y)))))).set (k) y).set ((k + 1)) x0 = (X ++ Va) ++ (y :: (([] : List Dg) ++ (x0 :: (Vb ++ (V2 ++ Y))))) := by
       rw [← hJ2.out, ← hP2.out]
       exact set_two (X ++ Va) ([] : List Dg) (Vb ++ (V2 ++ Y)) x0 y
      rw [hse] at hW2
      have hW2' := Lib.hid hW2
      have hKW2 := Lib.hid (hKW1.out.trans (kept_set4 W1 g ((k + 1) * 4) (.int .i64 x0.code) (.int .i64 x0.at_) (.int .i64 x0.to) (.string x0.text)))
      clear hW2 hse d0 d1 d2 d3 hf1 cx0 cx1 cx2 cx3 cy0 cy1 cy2 cy3 hfr s1 s2 s3 hki3
      generalize (((W1.setCell ⟨g, (k + 1) * 4, none⟩ _).setCell ⟨g, (k + 1) * 4 + 1, none⟩ _).setCell ⟨g, (k + 1) * 4 + 2, none⟩ _).setCell ⟨g, (k + 1) * 4 + 3, none⟩ _ = W2 at *
      go_wp2
      go_roundw
      case rel => exact ⟨k + 1, Va ++ [y], Vb, by go_num, hk2, by have h9 := hW2'.out; exact Lib.hid (by simpa using h9), hKW2⟩
      case measure => simp [intOf]; omega
end Go.Proofs.YthggagophcnkfaaGreatDoor.so
