/- The walk of the rotation of two stretches of a slice of diagnostics. -/
import Derived.Test.YthggagophcnkfaaGreatDoorSortA
namespace Go.Proofs.YthggagophcnkfaaGreatDoor.so
open Go.RowKit Go.Proofs.YthggagophcnkfaaGreatDoor.agg Go.Proofs.YthggagophcnkfaaGreatDoor.sx Go.Proofs.YthggagophcnkfaaGreatDoor.px Go.Proofs.YthggagophcnkfaaGreatDoor.lx
set_option linter.unusedSimpArgs false
set_option linter.unusedVariables false

theorem swap_at {w : World} {g cap : Nat} {l : List Dg} (h : ArrIn w g cap l) {N : Nat} (hN : l.length = N) (hn : N ≤ 100000) (X A M B Y : List Dg) (hl : l = X ++ (A ++ (M ++ (B ++ Y)))) (hAB : A.length = B.length) {x b q : Int} (hx : x = X.length) (hb : b = (X.length + (A.length + M.length) : Nat)) (hq : q = A.length) (cf : Value) :
    Calls Tryz.prog 190 #[.slice (some ⟨g, 0, none⟩) N cap, .int .i64 x, .int .i64 b, .int .i64 q, cf] w (ArrEnd w g cap (fun l' => l' = X ++ (B ++ (M ++ (A ++ Y))))) := by
  subst hN hl hx hb hq
  exact swap_walk X A M B Y h hAB hn cf
def RotSt (X Y V0 U0 : List Dg) (n m : Nat) (w : World) (g cap : Nat) (wr : World) (i j : Nat) (A U V B : List Dg) : Prop :=
  U.length = i ∧ V.length = j ∧ 0 < i ∧ 0 < j ∧ X.length + (A.length + i) = m ∧ A ++ (V ++ (U ++ B)) = V0 ++ U0 ∧ (X ++ (A ++ (U ++ (V ++ (B ++ Y))))).length = n ∧ ArrIn wr g cap (X ++ (A ++ (U ++ (V ++ (B ++ Y))))) ∧ Kept (gfoot g) w wr
set_option maxRecDepth 100000 in
set_option maxHeartbeats 2000000 in
theorem rotate_walk {w : World} {g cap : Nat} (X U0 V0 Y : List Dg) {N : Nat} (hA : ArrIn w g cap (X ++ (U0 ++ (V0 ++ Y)))) (hN : (X ++ (U0 ++ (V0 ++ Y))).length = N) (hn : N ≤ 100000) (hU : 0 < U0.length) (hV : 0 < V0.length) {a m b : Int} (ha : a = X.length) (hm : m = (X.length + U0.length : Nat)) (hb : b = (X.length + (U0.length + V0.length) : Nat)) (cf : Value) :
    Calls Tryz.prog 181 #[.slice (some ⟨g, 0, none⟩) N cap, .int .i64 a, .int .i64 m, .int .i64 b, cf] w (ArrEnd w g cap (fun l' => l' = X ++ (V0 ++ (U0 ++ Y)))) := by
  have hst : Hid (RotSt X Y V0 U0 N (X.length + U0.length) w g cap w U0.length V0.length [] U0 V0 []) := ⟨rfl, rfl, hU, hV, by simp, by simp, by simpa using hN, by simpa using hA, .refl _ _⟩
  obtain ⟨x, hx⟩ : ∃ x, X.length = x := ⟨_, rfl⟩
  obtain ⟨u, hu⟩ : ∃ u, U0.length = u := ⟨_, rfl⟩
  obtain ⟨v, hv⟩ : ∃ v, V0.length = v := ⟨_, rfl⟩
  have hb0 : x + (u + v) ≤ N := by rw [← hN, ← hx, ← hu, ← hv]; simp
  have hx' := Lib.hid hx
  rw [hx, hu, hv] at hst
  rw [hx] at ha
  rw [hx, hu] at hm
  rw [hx, hu, hv] at hb
  have ha' := Lib.hid ha
  have hm' := Lib.hid hm
  have hbb := Lib.hid hb
  have g1 : 0 ≤ a := by omega
  have g2 : a ≤ m := by omega
  have g3 : m ≤ b := by omega
  have g4 : b ≤ N := by omega
  clear hx hu hv hA hN hU hV ha hm hb
  go_enter Tryz.func181, Tryz.ntmps181
  go_wp2_with fail
  go_loopw [10, 11] (fun s10 s11 wr => ∃ (i j : Nat) (A U V B : List Dg), s10 = .int .i64 i ∧ s11 = .int .i64 j ∧ Hid (RotSt X Y V0 U0 N (x + u) w g cap wr i j A U V B)) (fun s10 s11 wr => (intOf s10).toNat + (intOf s11).toNat)
  case atStart => exact ⟨u, v, _, _, _, _, by congr 1; have := ha'.out; have := hm'.out; omega, by congr 1; have := hm'.out; have := hbb.out; omega, hst⟩
  case round =>
    obtain ⟨i, j, A, U, V, B, rfl, rfl, hR⟩ := hrel
    obtain ⟨h1, h2, h3, h4, h5, h6, h7, h8, h9⟩ := hR.out
    have hb1 : i ≤ x + u := by have := hx'.out; omega
    have hb2 : x + u + j ≤ N := by
      rw [← h7]; simp only [List.length_append]; have := hx'.out; omega
    have hfx := hx'.out
    have hfm := hm'.out
    have g5 : (i : Int) ≤ m := by omega
    have g6 : m + j ≤ N := by omega
    rcases Nat.lt_trichotomy i j with hlt | heq | hgt
    · obtain ⟨Q, S, hV⟩ : ∃ Q S, V = Q ++ S ∧ S.length = i := ⟨V.take (j - i), V.drop (j - i), (List.take_append_drop _ _).symm, by rw [List.length_drop]; omega⟩
      obtain ⟨rfl, hS⟩ := hV
      rw [List.length_append] at h2
      have hC := Lib.hid (swap_at h8 h7 hn (X ++ A) U Q S (B ++ Y) (by simp) (by omega) (x := m - i) (b := m + j - i) (q := i) (by rw [List.length_append]; omega) (by rw [List.length_append]; omega) (by omega) cf)
      have hnx := Lib.hid (fun (w2 : World) (q1 : ArrIn w2 g cap ((X ++ A) ++ (S ++ (Q ++ (U ++ (B ++ Y)))))) (q2 : Kept (gfoot g) wr w2) => (show RotSt X Y V0 U0 N (x + u) w g cap w2 i (j - i) A S Q (U ++ B) from by
        refine ⟨hS, by omega, h3, by omega, h5, by rw [← h6]; simp, ?_, by simpa using q1, h9.trans q2⟩
        rw [← h7]
        simp only [List.length_append]
        omega))
      clear h1 h2 h5 h6 h7 h8 h9 hR hfx hfm hst hS
      go_wp2_with (go_at_call 190; refine hC.out.mono ?_; rintro e w2 ⟨l', rfl, rfl, q1, q2⟩; have q3 := Lib.hid (hnx.out _ q1 q2); clear q1 q2)
      go_roundw
      case rel => exact ⟨i, j - i, _, _, _, _, rfl, by congr 1; omega, q3⟩
      case measure => simp [intOf]; omega
    · subst heq
      have hC := Lib.hid (swap_at h8 h7 hn (X ++ A) U [] V (B ++ Y) (by simp) (by omega) (x := m - i) (b := m) (q := i) (by rw [List.length_append]; omega) (by simp; omega) (by omega) cf)
      have hfin : Hid ((X ++ A) ++ (V ++ ([] ++ (U ++ (B ++ Y)))) = X ++ (V0 ++ (U0 ++ Y))) := by
        have := congrArg (fun z => X ++ (z ++ Y)) h6
        exact Lib.hid (by simpa using this)
      have h9' := Lib.hid h9
      clear h1 h2 h5 h6 h7 h8 h9 hR hfx hfm hst
      go_wp2_with (go_at_call 190; refine hC.out.mono ?_; rintro e w2 ⟨l', rfl, rfl, q1, q2⟩; have q1' := Lib.hid q1; have q2' := Lib.hid q2; clear q1 q2)
      go_end0
      exact ⟨_, rfl, hfin.out, q1'.out, h9'.out.trans q2'.out⟩
    · obtain ⟨P, R, hUe⟩ : ∃ P R, U = P ++ R ∧ P.length = j := ⟨U.take j, U.drop j, (List.take_append_drop _ _).symm, by rw [List.length_take]; omega⟩
      obtain ⟨rfl, hP⟩ := hUe
      rw [List.length_append] at h1
      have hC := Lib.hid (swap_at h8 h7 hn (X ++ A) P R V (B ++ Y) (by simp) (by omega) (x := m - i) (b := m) (q := j) (by rw [List.length_append]; omega) (by rw [List.length_append]; omega) (by omega) cf)
      have hnx := Lib.hid (fun (w2 : World) (q1 : ArrIn w2 g cap ((X ++ A) ++ (V ++ (R ++ (P ++ (B ++ Y)))))) (q2 : Kept (gfoot g) wr w2) => (show RotSt X Y V0 U0 N (x + u) w g cap w2 (i - j) j (A ++ V) R P B from by
        refine ⟨by omega, hP, by omega, h4, by rw [List.length_append]; omega, by rw [← h6]; simp, ?_, by simpa using q1, h9.trans q2⟩
        rw [← h7]
        simp only [List.length_append]
        omega))
      clear h1 h2 h5 h6 h7 h8 h9 hR hfx hfm hst hP
      go_wp2_with (go_at_call 190; refine hC.out.mono ?_; rintro e w2 ⟨l', rfl, rfl, q1, q2⟩; have q3 := Lib.hid (hnx.out _ q1 q2); clear q1 q2)
      go_roundw
      case rel => exact ⟨i - j, j, _, _, _, _, by congr 1; omega, rfl, q3⟩
      case measure => simp [intOf]; omega
end Go.Proofs.YthggagophcnkfaaGreatDoor.so
