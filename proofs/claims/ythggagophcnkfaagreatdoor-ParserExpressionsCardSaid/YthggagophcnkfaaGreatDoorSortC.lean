/- The walk of the insertion sort of a slice of diagnostics. -/
import Derived.Test.YthggagophcnkfaaGreatDoorTk
import Derived.Test.YthggagophcnkfaaGreatDoorM31
namespace Go.Proofs.YthggagophcnkfaaGreatDoor.so
open Go.RowKit Go.Proofs.YthggagophcnkfaaGreatDoor.agg Go.Proofs.YthggagophcnkfaaGreatDoor.sx Go.Proofs.YthggagophcnkfaaGreatDoor.px Go.Proofs.YthggagophcnkfaaGreatDoor.lx
set_option linter.unusedSimpArgs false
set_option linter.unusedVariables false
theorem ArrIn.range {w : World} {g cap : Nat} {l : List Dg} (h : ArrIn w g cap l) {i : Nat} {x : Dg} (hx : l[i]? = some x) : w.rangeAt g (i * 4) [.int .i64 x.code, .int .i64 x.at_, .int .i64 x.to, .string x.text] := fun j v hv => by
 obtain ⟨hi, he⟩ := List.getElem?_eq_some_iff.1 hx
 obtain ⟨c0, c1, c2, c3⟩ := h.cell hi
 rw [he] at c0 c1 c2 c3
 match j, hv with
 | 0, hv => simp at hv; rw [← hv]; exact c0
 | 1, hv => simp at hv; rw [← hv]; exact c1
 | 2, hv => simp at hv; rw [← hv]; exact c2
 | 3, hv => simp at hv; rw [← hv]; exact c3
 | j + 4, hv => simp at hv
theorem info_dg4 : (Tryz.prog.info? 34).map (·.size) = some 4 := by kernel_rfl
def InsSt (X Z Y : List Dg) (N : Nat) (w : World) (g cap : Nat) (wr : World) (j : Nat) (P : List Dg) (x : Dg) (Q R : List Dg) : Prop :=
 X.length + P.length = j ∧ Srt (P ++ Q) ∧ Like (Z.take (P.length + Q.length)) (P ++ Q) ∧ Z.drop (P.length + Q.length) = x :: R ∧ (∀ v ∈ Q, x.at_ < v.at_) ∧ ArrIn wr g cap (X ++ (P ++ (x :: (Q ++ (R ++ Y))))) ∧ (X ++ (P ++ (x :: (Q ++ (R ++ Y))))).length = N ∧ OkD (X ++ (P ++ (x :: (Q ++ (R ++ Y))))) ∧ Kept (gfoot g) w wr
def OutSt (X Z Y : List Dg) (N : Nat) (w : World) (g cap : Nat) (wr : World) (i : Nat) (S R : List Dg) : Prop :=
 X.length + S.length = i ∧ Srt S ∧ Like (Z.take S.length) S ∧ Z.drop S.length = R ∧ ArrIn wr g cap (X ++ (S ++ (R ++ Y))) ∧ (X ++ (S ++ (R ++ Y))).length = N ∧ OkD (X ++ (S ++ (R ++ Y))) ∧ Kept (gfoot g) w wr
theorem InsSt.at_ {X Z Y : List Dg} {N : Nat} {w : World} {g cap : Nat} {wr V : World} {j : Nat} {P : List Dg} {x : Dg} {Q R : List Dg} (h : InsSt X Z Y N w g cap wr j P x Q R) (k1 : ArrIn V g cap (X ++ (P ++ (x :: (Q ++ (R ++ Y)))))) (k2 : Kept (gfoot g) w V) : InsSt X Z Y N w g cap V j P x Q R := by
 obtain ⟨q1, q2, q3, q4, q5, q6, q7, q8, q9⟩ := h
 exact ⟨q1, q2, q3, q4, q5, k1, q7, q8, k2⟩
theorem InsSt.done {X Z Y : List Dg} {N : Nat} {w : World} {g cap : Nat} {wr : World} {j : Nat} {P : List Dg} {x : Dg} {Q R : List Dg} (h : InsSt X Z Y N w g cap wr j P x Q R) (hp : ∀ v ∈ P, v.at_ ≤ x.at_) :
 OutSt X Z Y N w g cap wr (j + Q.length + 1) (P ++ ([x] ++ Q)) R := by
 obtain ⟨h1, h2, h3, h4, h5, h6, h7, h8, h9⟩ := h
 obtain ⟨s1, s2⟩ := merge_right h2 hp h5
 have hl : (P ++ ([x] ++ Q)).length = P.length + Q.length + 1 := by simp; omega
 refine ⟨by rw [hl]; omega, s1, ?_, ?_, by simpa using h6, by simpa using h7, by simpa using h8, h9⟩
 ·rw [hl, take_next h4]
  exact (h3.app (Like.refl [x])).trans s2
 ·rw [hl, drop_next h4]
theorem ins_next {X Z Y : List Dg} {N : Nat} {w : World} {g cap : Nat} {wr V : World} {j : Nat} {P : List Dg} {x y : Dg} {Q R : List Dg} (h : InsSt X Z Y N w g cap wr (j + 1) (P ++ [x]) y Q R) (hxy : y.at_ < x.at_)
 (k1 : ArrIn V g cap ((X ++ P) ++ (y :: ([] ++ (x :: (Q ++ (R ++ Y))))))) (k2 : Kept (gfoot g) w V) : InsSt X Z Y N w g cap V j P y (x :: Q) R := by
 obtain ⟨q1, q2, q3, q4, q5, q6, q7, q8, q9⟩ := h
 have hl : P.length + (x :: Q).length = (P ++ [x]).length + Q.length := by simp; omega
 refine ⟨?_, by simpa using q2, ?_, ?_, ?_, by simpa using k1, ?_, ?_, k2⟩
 ·simp only [List.length_append, List.length_cons, List.length_nil] at q1; omega
 ·rw [hl]; simpa using q3
 ·rw [hl]; exact q4
 ·intro v hv
  rcases List.mem_cons.1 hv with rfl | hv
  ·exact hxy
  ·exact q5 v hv
 ·rw [← q7]; simp
 ·intro d hd
  refine q8 d ?_
  simp only [List.mem_append, List.mem_cons, List.not_mem_nil, or_false] at hd ⊢
  grind
theorem OutSt.below {X Z Y : List Dg} {N : Nat} {w : World} {g cap : Nat} {wr V : World} {i : Nat} {S R : List Dg} (h : OutSt X Z Y N w g cap wr i S R) (hb : Below wr.heap.size wr V) : OutSt X Z Y N w g cap V i S R := by
 obtain ⟨q1, q2, q3, q4, q5, q6, q7, q8⟩ := h
 exact ⟨q1, q2, q3, q4, q5.below hb, q6, q7, q8.trans (.of_below hb)⟩
def InsEnd (X Z Y : List Dg) (l' : List Dg) : Prop := ∃ Z', l' = X ++ (Z' ++ Y) ∧ Srt Z' ∧ Like Z Z' ∧ Z'.length = Z.length
set_option maxRecDepth 100000 in
set_option maxHeartbeats 4000000 in
theorem insert_walk {w : World} {g cap : Nat} (X Z Y : List Dg) {N : Nat} (hA : ArrIn w g cap (X ++ (Z ++ Y))) (hN : (X ++ (Z ++ Y)).length = N) (hn : N ≤ 100000) (hok : OkD (X ++ (Z ++ Y))) {a b : Int} (ha : a = X.length) (hb : b = (X.length + Z.length : Nat)) :
 Calls Tryz.prog 157 #[.slice (some ⟨g, 0, none⟩) N cap, .int .i64 a, .int .i64 b, .func (.func 76) #[] #[]] w (ArrEnd w g cap (InsEnd X Z Y)) := by
 obtain ⟨p, hp⟩ : ∃ p, X.length = p := ⟨_, rfl⟩
 obtain ⟨z, hz⟩ : ∃ z, Z.length = z := ⟨_, rfl⟩
 have hpz : p + z ≤ N := by rw [← hN, ← hp, ← hz]; simp only [List.length_append]; omega
 rw [hp] at ha
 rw [hp, hz] at hb
 have ha' := Lib.hid ha
 have hb' := Lib.hid hb
 have hp' := Lib.hid hp
 have hz' := Lib.hid hz
 have g1 : 0 ≤ a := by omega
 have g2 : a ≤ b := by omega
 have g3 : b ≤ N := by omega
 have hcr := cmp_run
 have hNN : Hid (p + (z + Y.length) = N) := Lib.hid (by rw [← hN, ← hp, ← hz]; simp)
 cases Z with
 | nil =>
  have hba : Hid (b = a) := by have : z = 0 := by rw [← hz]; rfl
                               unfold Hid; omega
  have g4 : b ≤ a := by rw [hba.out]; exact Int.le_refl _
  have hA' := Lib.hid hA
  clear hA hN hok ha hb hp hz hba
  go_enter Tryz.func157, Tryz.ntmps157
  go_wp2_with fail
  go_loopw [8] (fun s8 wr => s8 = .int .i64 (a + 1) ∧ wr = w) (fun s8 wr => 0)
  case atStart => exact ⟨rfl, rfl⟩
  case round =>
   obtain ⟨rfl, rfl⟩ := hrel
   go_wp2_with fail
   go_end0
   exact ⟨_, rfl, ⟨[], rfl, List.Pairwise.nil, .refl _, rfl⟩, hA'.out, .refl _ _⟩
 | cons z0 Z1 =>
  have hst : Hid (OutSt X (z0 :: Z1) Y N w g cap w (p + 1) [z0] Z1) := ⟨by rw [hp]; rfl, List.pairwise_singleton _ _, by simpa using Like.refl [z0], rfl, by simpa using hA, by simpa using hN, by simpa using hok, .refl _ _⟩
  clear hA hN hok ha hb hp hz
  generalize z0 :: Z1 = Z at *
  go_enter Tryz.func157, Tryz.ntmps157
  go_wp2_with fail
  go_loopw [8] (fun s8 wr => ∃ (i : Nat) (S R : List Dg), s8 = .int .i64 i ∧ Hid (OutSt X Z Y N w g cap wr i S R) ∧ p < i) (fun s8 wr => N - (intOf s8).toNat)
  case atStart => exact ⟨p + 1, _, _, by congr 1; have := ha'.out; omega, hst, by omega⟩
  case round =>
   obtain ⟨i, S, R, rfl, hO, hpi⟩ := hrel
   obtain ⟨o1, o2, o3, o4, o5, o6, o7, o8⟩ := hO.out
   have hRl : Hid (S.length + R.length = z) := by
    have h1 := o6
    simp only [List.length_append, hp'.out] at h1
    have h2 := hNN.out
    unfold Hid
    omega
   cases R with
   | nil =>
    have hil : b ≤ i := by have := hb'.out; have := hRl.out; have := hp'.out; simp only [List.length_nil] at *; omega
    have hfin : Hid (InsEnd X Z Y (X ++ (S ++ ([] ++ Y)))) := by
     have h1 : Z.take S.length = Z := List.take_of_length_le (by have := hRl.out; simp only [List.length_nil] at this; rw [hz'.out]; omega)
     rw [h1] at o3
     exact ⟨S, by simp, o2, o3, by have := hRl.out; simp only [List.length_nil] at this; rw [hz'.out]; omega⟩
    have o5' := Lib.hid o5
    have o8' := Lib.hid o8
    clear o1 o2 o3 o4 o5 o6 o7 o8 hO hst
    go_wp2_with fail
    go_end0
    exact ⟨_, rfl, hfin.out, o5'.out, o8'.out⟩
   | cons y R =>
    have hil : (i : Int) < b := by have := hb'.out; have := hRl.out; have := hp'.out; simp only [List.length_cons] at *; omega
    have hins : Hid (InsSt X Z Y N w g cap wr i S y [] R) := ⟨o1, by simpa using o2, by simpa using o3, by simpa using o4, by simp, by simpa using o5, by simpa using o6, by simpa using o7, o8⟩
    have o1' := Lib.hid o1
    clear o1 o2 o3 o4 o5 o6 o7 o8 hO hst
    go_wp2_with fail
    go_loopw [9] (fun s9 wr => ∃ (j : Nat) (P Q : List Dg), s9 = .int .i64 j ∧ Hid (InsSt X Z Y N w g cap wr j P y Q R) ∧ p ≤ j ∧ j ≤ i ∧ Hid (P.length + Q.length = S.length)) (fun s9 wr => (intOf s9).toNat)
    case atStart => exact ⟨i, _, _, rfl, hins, by omega, Nat.le_refl _, Lib.hid (by simp)⟩
    case round =>
     rename_i wr2 _
     obtain ⟨j, P, Q, rfl, hI, hj1, hj2, hPQ⟩ := hrel
     obtain ⟨q1, q2, q3, q4, q5, q6, q7, q8, q9⟩ := hI.out
     have hjN : j < N := by
      rw [← q7]; simp only [List.length_append, List.length_cons, hp'.out]
      have := hp'.out; omega
     have haj := ha'.out
     by_cases hpj : p < j
     ·obtain ⟨P', x, rfl⟩ : ∃ P' x, P = P' ++ [x] := by
       rcases List.eq_nil_or_concat P with h | ⟨P', x, h⟩
       ·rw [h] at q1; simp at q1; have := hp'.out; omega
       ·exact ⟨P', x, by rw [h, List.concat_eq_append]⟩
      obtain ⟨j1, rfl⟩ : ∃ j1, j = j1 + 1 := ⟨j - 1, by omega⟩
      have hPl : (X ++ P').length = j1 := by
       simp only [List.length_append, List.length_cons, List.length_nil] at q1 ⊢; omega
      have hcur : X ++ ((P' ++ [x]) ++ (y :: (Q ++ (R ++ Y)))) = (X ++ P') ++ (x :: ([] ++ (y :: (Q ++ (R ++ Y))))) := by simp
      have hxl : ((X ++ P') ++ (x :: ([] ++ (y :: (Q ++ (R ++ Y))))))[j1 + 1]? = some y := by
       rw [← hPl, List.getElem?_append_right (by omega)]; simp
      have hyl : ((X ++ P') ++ (x :: ([] ++ (y :: (Q ++ (R ++ Y))))))[j1]? = some x := by
       rw [← hPl, List.getElem?_append_right (by omega)]; simp
      rw [hcur] at q6 q7 q8
      have hox : 0 ≤ y.at_ ∧ y.at_ ≤ 4096 := q8 y (List.mem_of_getElem? hxl)
      have hoy : 0 ≤ x.at_ ∧ x.at_ ≤ 4096 := q8 x (List.mem_of_getElem? hyl)
      have hAr := Lib.hid q6
      have hxl' := Lib.hid hxl
      have hyl' := Lib.hid hyl
      have s1 : IntKind.i64.wrap (j1 : Int) = j1 := IntWalk.i64_in _ (by omega)
      have s2 : (0 : Int) ≤ (j1 : Int) + 1 := by omega
      have s3 : ((j1 : Int) + 1).toNat = j1 + 1 := by omega
      have s4 : (j1 : Int) + 1 < N := by omega
      have s5 : (j1 : Int) < N := by omega
      have s6 : decide (a < (j1 : Int) + 1) = true := decide_eq_true (by omega)
      clear hxl hyl hcur haj
      by_cases hxy : y.at_ < x.at_
      ·have s7 : decide (y.at_ - x.at_ < 0) = true := decide_eq_true (by omega)
       have s8 : y.at_ - x.at_ < 0 := by omega
       go_upto_region 4 with fail
       refine wp_region_held_drew (S := fun u => ArrIn u g cap ((X ++ P') ++ (x :: ([] ++ (y :: (Q ++ (R ++ Y))))))) (by kernel_rfl) (hAr.out.below (Below.refl _ _).drew) (fun hHeld => ?_)
       refine tk (i := 0) (v := .int .i64 ((j1 : Int) + 1)) rfl hHeld ?_
       try simp only [Act.put, kA, kB, kC, kD, kE, kF]
       refine tk (i := 1) (v := .int .i64 a) rfl hHeld ?_
       try simp only [Act.put, kA, kB, kC, kD, kE, kF]
       refine tk (i := 2) (v := .bool true) rfl hHeld ?_
       try simp only [Act.put, kA, kB, kC, kD, kE, kF]
       refine tk (i := 3) (v := .bool true) rfl hHeld ?_
       try simp only [Act.put, kA, kB, kC, kD, kE, kF]
       refine tk (i := 4) (v := .func (.func 76) #[] #[]) rfl hHeld ?_
       try simp only [Act.put, kA, kB, kC, kD, kE, kF]
       refine tk (i := 5) (v := .slice (some ⟨g, 0, none⟩) N cap) rfl hHeld ?_
       try simp only [Act.put, kA, kB, kC, kD, kE, kF]
       refine tk (i := 6) (v := .int .i64 ((j1 : Int) + 1)) rfl hHeld ?_
       try simp only [Act.put, kA, kB, kC, kD, kE, kF]
       refine tk (i := 7) (v := .pointer (some ⟨g, (j1 + 1) * 4, none⟩)) rfl hHeld ?_
       try simp only [Act.put, kA, kB, kC, kD, kE, kF]
       refine tk (i := 8) (v := .agg #[.int .i64 y.code, .int .i64 y.at_, .int .i64 y.to, .string y.text]) (hy := yieldsIf_load_mid (by rfl) _ _ rfl _ _ rfl [.int .i64 y.code, .int .i64 y.at_, .int .i64 y.to, .string y.text] _ (fun _ h => h.range hxl'.out) Tryz.underlying34 rfl info_dg4) rfl hHeld ?_
       try simp only [Act.put, kA, kB, kC, kD, kE, kF]
       refine tk (i := 9) (v := .slice (some ⟨g, 0, none⟩) N cap) rfl hHeld ?_
       try simp only [Act.put, kA, kB, kC, kD, kE, kF]
       refine tk (i := 10) (v := .int .i64 ((j1 : Int) + 1)) rfl hHeld ?_
       try simp only [Act.put, kA, kB, kC, kD, kE, kF]
       refine tk (i := 11) (v := .int .i64 j1) rfl hHeld ?_
       try simp only [Act.put, kA, kB, kC, kD, kE, kF]
       refine tk (i := 12) (v := .pointer (some ⟨g, j1 * 4, none⟩)) rfl hHeld ?_
       try simp only [Act.put, kA, kB, kC, kD, kE, kF]
       refine tk (i := 13) (v := .agg #[.int .i64 x.code, .int .i64 x.at_, .int .i64 x.to, .string x.text]) (hy := yieldsIf_load_mid (by rfl) _ _ rfl _ _ rfl [.int .i64 x.code, .int .i64 x.at_, .int .i64 x.to, .string x.text] _ (fun _ h => h.range hyl'.out) Tryz.underlying34 rfl info_dg4) rfl hHeld ?_
       try simp only [Act.put, kA, kB, kC, kD, kE, kF]
       refine wpAnyH_ready (rs := [14]) (by kernel_rfl) (by simp) ?_
       refine AllReadyH.cons rfl (fun K hK => ?_) AllReadyH.nil
       rw [if_pos (by rfl)]
       go_simp
       go_at_call 76
       refine (cmp_walk _ y x hox hoy).mono ?_
       rintro e u2 ⟨rfl, hb2⟩
       refine hK.out _ _ (hHeld.below hb2) (fun hHeld => ?_)
       clear hK K
       have hAr2 := Lib.hid hHeld
       have hKu : Hid (Kept (gfoot g) w u2) := q9.trans (.of_below ((Below.refl _ _).drew.trans hb2))
       clear hb2
       try simp only [Act.put, kA, kB, kC, kD, kE, kF]
       refine tk (i := 15) (v := .bool true) rfl hHeld ?_
       try simp only [Act.put, kA, kB, kC, kD, kE, kF]
       refine tk (i := 16) (v := .bool true) rfl hHeld ?_
       try simp only [Act.put, kA, kB, kC, kD, kE, kF]
       refine wpAnyH_done (by kernel_rfl) ?_ _
       clear hHeld
       obtain ⟨cx, cy⟩ := hAr2.out.two
       have hJ2 : Hid ((X ++ P').length + 1 + ([] : List Dg).length = j1 + 1) := by rw [hPl]; rfl
       have hPl2 := Lib.hid hPl
       rw [hJ2.out] at cy
       rw [hPl] at cx
       obtain ⟨cx0, cx1, cx2, cx3⟩ := cx
       obtain ⟨cy0, cy1, cy2, cy3⟩ := cy
       have hfr := hAr2.out.free
       have hLl := Lib.hid q7
       have hnx := Lib.hid (fun (V : World) (k1 : ArrIn V g cap ((X ++ P') ++ (y :: ([] ++ (x :: (Q ++ (R ++ Y))))))) (k2 : Kept (gfoot g) w V) => ins_next hI.out hxy k1 k2)
       clear q1 q2 q3 q4 q5 q6 q7 q8 q9 hI hPl
       go_upto_region 6 with fail
       refine wp_region_held_drew (S := fun u => True) (by kernel_rfl) trivial (fun hHeld => ?_)
       refine tk (i := 0) (v := .slice (some ⟨g, 0, none⟩) N cap) rfl hHeld ?_
       try simp only [Act.put, kA, kB, kC, kD, kE, kF]
       refine tk (i := 1) (v := .int .i64 ((j1 : Int) + 1)) rfl hHeld ?_
       try simp only [Act.put, kA, kB, kC, kD, kE, kF]
       refine tk (i := 2) (v := .slice (some ⟨g, 0, none⟩) N cap) rfl hHeld ?_
       try simp only [Act.put, kA, kB, kC, kD, kE, kF]
       refine tk (i := 3) (v := .int .i64 ((j1 : Int) + 1)) rfl hHeld ?_
       try simp only [Act.put, kA, kB, kC, kD, kE, kF]
       refine tk (i := 4) (v := .int .i64 j1) rfl hHeld ?_
       try simp only [Act.put, kA, kB, kC, kD, kE, kF]
       refine tk (i := 5) (v := .slice (some ⟨g, 0, none⟩) N cap) rfl hHeld ?_
       try simp only [Act.put, kA, kB, kC, kD, kE, kF]
       refine tk (i := 6) (v := .int .i64 ((j1 : Int) + 1)) rfl hHeld ?_
       try simp only [Act.put, kA, kB, kC, kD, kE, kF]
       refine tk (i := 7) (v := .int .i64 j1) rfl hHeld ?_
       try simp only [Act.put, kA, kB, kC, kD, kE, kF]
       refine tk (i := 8) (v := .pointer (some ⟨g, j1 * 4, none⟩)) rfl hHeld ?_
       try simp only [Act.put, kA, kB, kC, kD, kE, kF]
       refine tk (i := 10) (v := .slice (some ⟨g, 0, none⟩) N cap) rfl hHeld ?_
       try simp only [Act.put, kA, kB, kC, kD, kE, kF]
       refine tk (i := 11) (v := .int .i64 ((j1 : Int) + 1)) rfl hHeld ?_
       try simp only [Act.put, kA, kB, kC, kD, kE, kF]
       refine tk (i := 12) (v := .pointer (some ⟨g, (j1 + 1) * 4, none⟩)) rfl hHeld ?_
       try simp only [Act.put, kA, kB, kC, kD, kE, kF]
       refine wpAnyH_ready (rs := [9, 13]) (by kernel_rfl) (by simp) ?_
       refine AllReadyH.cons rfl (fun K hK => ?_) (AllReadyH.cons rfl (fun K hK => ?_) AllReadyH.nil)
       ·rw [if_pos (by rfl)]
        go_simp
        refine hK.out _ _ trivial (fun hHeld => ?_)
        clear hK K
        try simp only [Act.put, kA, kB, kC, kD, kE, kF]
        refine wpAnyH_ready (rs := [13]) (by kernel_rfl) (by simp) ?_
        refine AllReadyH.cons rfl (fun K hK => ?_) AllReadyH.nil
        rw [if_pos (by rfl)]
        go_simp
        refine hK.out _ _ trivial (fun hHeld => ?_)
        clear hK K
        try simp only [Act.put, kA, kB, kC, kD, kE, kF]
        refine tk (i := 14) (v := .pointer (some ⟨g, (j1 + 1) * 4, none⟩)) rfl hHeld ?_
        try simp only [Act.put, kA, kB, kC, kD, kE, kF]
        refine wpAnyH_ready (rs := [15]) (by kernel_rfl) (by simp) ?_
        refine AllReadyH.cons rfl (fun K hK => ?_) AllReadyH.nil
        rw [if_pos (by rfl)]
        go_simp
        refine hK.out _ _ trivial (fun hHeld => ?_)
        clear hK K
        have hW1 := (hAr2.out.set (i := (j1 + 1)) (by rw [hLl.out]; omega) x).below (Below.refl _ _).drew
        have hKW1 := Lib.hid ((hKu.out.trans (kept_set4 u2 g ((j1 + 1) * 4) (.int .i64 x.code) (.int .i64 x.at_) (.int .i64 x.to) (.string x.text))).trans (.drew _))
        generalize ((((u2.setCell ⟨g, (j1 + 1) * 4, none⟩ (.int .i64 x.code)).setCell ⟨g, (j1 + 1) * 4 + 1, none⟩ (.int .i64 x.at_)).setCell ⟨g, (j1 + 1) * 4 + 2, none⟩ (.int .i64 x.to)).setCell ⟨g, (j1 + 1) * 4 + 3, none⟩ (.string x.text)).drew = W1 at *
        obtain ⟨d0, d1, d2, d3⟩ := hW1.cell (i := j1) (by rw [List.length_set, hLl.out]; omega)
        have hf1 := hW1.free
        have hW1' := Lib.hid hW1
        clear hW1
        try simp only [Act.put, kA, kB, kC, kD, kE, kF]
        refine tk (i := 16) (v := .pointer (some ⟨g, j1 * 4, none⟩)) rfl hHeld ?_
        try simp only [Act.put, kA, kB, kC, kD, kE, kF]
        refine wpAnyH_ready (rs := [17]) (by kernel_rfl) (by simp) ?_
        refine AllReadyH.cons rfl (fun K hK => ?_) AllReadyH.nil
        rw [if_pos (by rfl)]
        go_simp
        refine hK.out _ _ trivial (fun hHeld => ?_)
        clear hK K
        try simp only [Act.put, kA, kB, kC, kD, kE, kF]
        refine wpAnyH_done (by kernel_rfl) ?_ _
        clear hHeld
        have hW2 := hW1'.out.set (i := j1) (by rw [List.length_set, hLl.out]; omega) y
        have hse : (((X ++ P') ++ (x :: (([] : List Dg) ++ (y :: (Q ++ (R ++ Y)))))).set ((j1 + 1)) x).set (j1) y = (X ++ P') ++ (y :: (([] : List Dg) ++ (x :: (Q ++ (R ++ Y))))) := by
         rw [← hJ2.out, ← hPl2.out]
         exact set_two' (X ++ P') ([] : List Dg) (Q ++ (R ++ Y)) x y
        rw [hse] at hW2
        have hW2' := Lib.hid hW2
        have hKW2 := Lib.hid (hKW1.out.trans (kept_set4 W1 g (j1 * 4) (.int .i64 y.code) (.int .i64 y.at_) (.int .i64 y.to) (.string y.text)))
        clear hW2 hse d0 d1 d2 d3 hf1 cx0 cx1 cx2 cx3 cy0 cy1 cy2 cy3 hfr
        generalize (((W1.setCell ⟨g, j1 * 4, none⟩ _).setCell ⟨g, j1 * 4 + 1, none⟩ _).setCell ⟨g, j1 * 4 + 2, none⟩ _).setCell ⟨g, j1 * 4 + 3, none⟩ _ = W2 at *
        go_wp2
        go_roundw
        case rel => exact ⟨j1, P', x :: Q, by go_num, hnx.out _ hW2'.out hKW2.out, by omega, by omega, Lib.hid (by have := hPQ.out; simp at this ⊢; omega)⟩
        case measure => simp [intOf] <;> omega
       ·rw [if_pos (by rfl)]
        go_simp
        refine hK.out _ _ trivial (fun hHeld => ?_)
        clear hK K
        try simp only [Act.put, kA, kB, kC, kD, kE, kF]
        refine wpAnyH_ready (rs := [9]) (by kernel_rfl) (by simp) ?_
        refine AllReadyH.cons rfl (fun K hK => ?_) AllReadyH.nil
        rw [if_pos (by rfl)]
        go_simp
        refine hK.out _ _ trivial (fun hHeld => ?_)
        clear hK K
        try simp only [Act.put, kA, kB, kC, kD, kE, kF]
        refine tk (i := 14) (v := .pointer (some ⟨g, (j1 + 1) * 4, none⟩)) rfl hHeld ?_
        try simp only [Act.put, kA, kB, kC, kD, kE, kF]
        refine wpAnyH_ready (rs := [15]) (by kernel_rfl) (by simp) ?_
        refine AllReadyH.cons rfl (fun K hK => ?_) AllReadyH.nil
        rw [if_pos (by rfl)]
        go_simp
        refine hK.out _ _ trivial (fun hHeld => ?_)
        clear hK K
        have hW1 := (hAr2.out.set (i := (j1 + 1)) (by rw [hLl.out]; omega) x).below (Below.refl _ _).drew
        have hKW1 := Lib.hid ((hKu.out.trans (kept_set4 u2 g ((j1 + 1) * 4) (.int .i64 x.code) (.int .i64 x.at_) (.int .i64 x.to) (.string x.text))).trans (.drew _))
        generalize ((((u2.setCell ⟨g, (j1 + 1) * 4, none⟩ (.int .i64 x.code)).setCell ⟨g, (j1 + 1) * 4 + 1, none⟩ (.int .i64 x.at_)).setCell ⟨g, (j1 + 1) * 4 + 2, none⟩ (.int .i64 x.to)).setCell ⟨g, (j1 + 1) * 4 + 3, none⟩ (.string x.text)).drew = W1 at *
        obtain ⟨d0, d1, d2, d3⟩ := hW1.cell (i := j1) (by rw [List.length_set, hLl.out]; omega)
        have hf1 := hW1.free
        have hW1' := Lib.hid hW1
        clear hW1
        try simp only [Act.put, kA, kB, kC, kD, kE, kF]
        refine tk (i := 16) (v := .pointer (some ⟨g, j1 * 4, none⟩)) rfl hHeld ?_
        try simp only [Act.put, kA, kB, kC, kD, kE, kF]
        refine wpAnyH_ready (rs := [17]) (by kernel_rfl) (by simp) ?_
        refine AllReadyH.cons rfl (fun K hK => ?_) AllReadyH.nil
        rw [if_pos (by rfl)]
        go_simp
        refine hK.out _ _ trivial (fun hHeld => ?_)
        clear hK K
        try simp only [Act.put, kA, kB, kC, kD, kE, kF]
        refine wpAnyH_done (by kernel_rfl) ?_ _
        clear hHeld
        have hW2 := hW1'.out.set (i := j1) (by rw [List.length_set, hLl.out]; omega) y
        have hse : (((X ++ P') ++ (x :: (([] : List Dg) ++ (y :: (Q ++ (R ++ Y)))))).set ((j1 + 1)) x).set (j1) y = (X ++ P') ++ (y :: (([] : List Dg) ++ (x :: (Q ++ (R ++ Y))))) := by
         rw [← hJ2.out, ← hPl2.out]
         exact set_two' (X ++ P') ([] : List Dg) (Q ++ (R ++ Y)) x y
        rw [hse] at hW2
        have hW2' := Lib.hid hW2
        have hKW2 := Lib.hid (hKW1.out.trans (kept_set4 W1 g (j1 * 4) (.int .i64 y.code) (.int .i64 y.at_) (.int .i64 y.to) (.string y.text)))
        clear hW2 hse d0 d1 d2 d3 hf1 cx0 cx1 cx2 cx3 cy0 cy1 cy2 cy3 hfr
        generalize (((W1.setCell ⟨g, j1 * 4, none⟩ _).setCell ⟨g, j1 * 4 + 1, none⟩ _).setCell ⟨g, j1 * 4 + 2, none⟩ _).setCell ⟨g, j1 * 4 + 3, none⟩ _ = W2 at *
        go_wp2
        go_roundw
        case rel => exact ⟨j1, P', x :: Q, by go_num, hnx.out _ hW2'.out hKW2.out, by omega, by omega, Lib.hid (by have := hPQ.out; simp at this ⊢; omega)⟩
        case measure => simp [intOf] <;> omega
      ·have s7 : decide (y.at_ - x.at_ < 0) = false := decide_eq_false (by omega)
       have s8 : 0 ≤ y.at_ - x.at_ := by omega
       go_upto_region 4 with fail
       refine wp_region_held_drew (S := fun u => ArrIn u g cap ((X ++ P') ++ (x :: ([] ++ (y :: (Q ++ (R ++ Y))))))) (by kernel_rfl) (hAr.out.below (Below.refl _ _).drew) (fun hHeld => ?_)
       refine tk (i := 0) (v := .int .i64 ((j1 : Int) + 1)) rfl hHeld ?_
       try simp only [Act.put, kA, kB, kC, kD, kE, kF]
       refine tk (i := 1) (v := .int .i64 a) rfl hHeld ?_
       try simp only [Act.put, kA, kB, kC, kD, kE, kF]
       refine tk (i := 2) (v := .bool true) rfl hHeld ?_
       try simp only [Act.put, kA, kB, kC, kD, kE, kF]
       refine tk (i := 3) (v := .bool true) rfl hHeld ?_
       try simp only [Act.put, kA, kB, kC, kD, kE, kF]
       refine tk (i := 4) (v := .func (.func 76) #[] #[]) rfl hHeld ?_
       try simp only [Act.put, kA, kB, kC, kD, kE, kF]
       refine tk (i := 5) (v := .slice (some ⟨g, 0, none⟩) N cap) rfl hHeld ?_
       try simp only [Act.put, kA, kB, kC, kD, kE, kF]
       refine tk (i := 6) (v := .int .i64 ((j1 : Int) + 1)) rfl hHeld ?_
       try simp only [Act.put, kA, kB, kC, kD, kE, kF]
       refine tk (i := 7) (v := .pointer (some ⟨g, (j1 + 1) * 4, none⟩)) rfl hHeld ?_
       try simp only [Act.put, kA, kB, kC, kD, kE, kF]
       refine tk (i := 8) (v := .agg #[.int .i64 y.code, .int .i64 y.at_, .int .i64 y.to, .string y.text]) (hy := yieldsIf_load_mid (by rfl) _ _ rfl _ _ rfl [.int .i64 y.code, .int .i64 y.at_, .int .i64 y.to, .string y.text] _ (fun _ h => h.range hxl'.out) Tryz.underlying34 rfl info_dg4) rfl hHeld ?_
       try simp only [Act.put, kA, kB, kC, kD, kE, kF]
       refine tk (i := 9) (v := .slice (some ⟨g, 0, none⟩) N cap) rfl hHeld ?_
       try simp only [Act.put, kA, kB, kC, kD, kE, kF]
       refine tk (i := 10) (v := .int .i64 ((j1 : Int) + 1)) rfl hHeld ?_
       try simp only [Act.put, kA, kB, kC, kD, kE, kF]
       refine tk (i := 11) (v := .int .i64 j1) rfl hHeld ?_
       try simp only [Act.put, kA, kB, kC, kD, kE, kF]
       refine tk (i := 12) (v := .pointer (some ⟨g, j1 * 4, none⟩)) rfl hHeld ?_
       try simp only [Act.put, kA, kB, kC, kD, kE, kF]
       refine tk (i := 13) (v := .agg #[.int .i64 x.code, .int .i64 x.at_, .int .i64 x.to, .string x.text]) (hy := yieldsIf_load_mid (by rfl) _ _ rfl _ _ rfl [.int .i64 x.code, .int .i64 x.at_, .int .i64 x.to, .string x.text] _ (fun _ h => h.range hyl'.out) Tryz.underlying34 rfl info_dg4) rfl hHeld ?_
       try simp only [Act.put, kA, kB, kC, kD, kE, kF]
       refine wpAnyH_ready (rs := [14]) (by kernel_rfl) (by simp) ?_
       refine AllReadyH.cons rfl (fun K hK => ?_) AllReadyH.nil
       rw [if_pos (by rfl)]
       go_simp
       go_at_call 76
       refine (cmp_walk _ y x hox hoy).mono ?_
       rintro e u2 ⟨rfl, hb2⟩
       refine hK.out _ _ (hHeld.below hb2) (fun hHeld => ?_)
       clear hK K
       have hAr2 := Lib.hid hHeld
       have hKu : Hid (Kept (gfoot g) w u2) := q9.trans (.of_below ((Below.refl _ _).drew.trans hb2))
       clear hb2
       try simp only [Act.put, kA, kB, kC, kD, kE, kF]
       refine tk (i := 15) (v := .bool false) rfl hHeld ?_
       try simp only [Act.put, kA, kB, kC, kD, kE, kF]
       refine tk (i := 16) (v := .bool false) rfl hHeld ?_
       try simp only [Act.put, kA, kB, kC, kD, kE, kF]
       refine wpAnyH_done (by kernel_rfl) ?_ _
       clear hHeld
       have hdn : Hid (OutSt X Z Y N w g cap u2 (i + 1) (P' ++ [x] ++ ([y] ++ Q)) R) := by
        have h1 := (hI.out.at_ (V := u2) (by simpa using hAr2.out) hKu.out).done (fun v hv => by
         rcases List.mem_append.1 hv with hv | hv
         ·have h2 := (srt_app.1 q2).1
          have h3 := (srt_app.1 h2).2.2 v hv x (by simp)
          omega
         ·obtain rfl := List.mem_singleton.1 hv
          omega)
        have h4 : j1 + 1 + Q.length + 1 = i + 1 := by
         have h5 := hPQ.out
         have h6 := o1'.out
         have h7 := q1
         simp only [List.length_append, List.length_cons, List.length_nil] at h5 h7
         omega
        rw [h4] at h1
        exact h1
       clear q1 q2 q3 q4 q5 q6 q7 q8 q9 hI hPl s1 s2 s3 s4 s5 s6 s7 s8
       go_wp2
       go_roundw
       case rel => exact ⟨i + 1, _, _, by go_num, hdn, by omega⟩
       case measure => simp [intOf]; omega
     ·have hP0 : P = [] := List.eq_nil_of_length_eq_zero (by have := hp'.out; omega)
      subst hP0
      have hja : (j : Int) ≤ a := by omega
      have hdn : Hid (OutSt X Z Y N w g cap wr (i + 1) ([] ++ ([y] ++ Q)) R) := by
       have h1 := hI.out.done (fun v hv => by cases hv)
       have h4 : j + Q.length + 1 = i + 1 := by
        have h5 := hPQ.out
        have h6 := o1'.out
        simp only [List.length_nil] at h5 q1
        omega
       rw [h4] at h1
       exact h1
      clear q1 q2 q3 q4 q5 q6 q7 q8 q9 hI
      go_upto_region 4 with fail
      go_quiet (fail)
      have hdn2 := Lib.hid (hdn.out.below (below_drewN (Below.refl _ _) nq))
      go_wp2
      go_roundw
      case rel => exact ⟨i + 1, _, _, by go_num, hdn2, by omega⟩
      case measure => simp [intOf]; omega
end Go.Proofs.YthggagophcnkfaaGreatDoor.so
