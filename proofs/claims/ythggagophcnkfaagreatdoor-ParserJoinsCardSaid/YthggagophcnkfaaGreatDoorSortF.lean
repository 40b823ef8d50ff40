/- The search of the merge: plain law. -/
import Derived.Test.YthggagophcnkfaaGreatDoorSortE
namespace Go.Proofs.YthggagophcnkfaaGreatDoor.so
open Go.RowKit Go.Proofs.YthggagophcnkfaaGreatDoor.agg Go.Proofs.YthggagophcnkfaaGreatDoor.sx Go.Proofs.YthggagophcnkfaaGreatDoor.px Go.Proofs.YthggagophcnkfaaGreatDoor.lx
set_option linter.unusedSimpArgs false
set_option linter.unusedVariables false

/-- The search for the place where both stretches are parted. -/
def SearchM (L : List Dg) (D M lo hi i j : Nat) : Prop :=
  lo ≤ i ∧ i ≤ j ∧ j ≤ hi ∧ (i = lo ∨ ∃ x y, L[i - 1]? = some x ∧ L[D + M - i]? = some y ∧ x.at_ ≤ y.at_) ∧ (j = hi ∨ ∃ x y, L[j]? = some x ∧ L[D + M - 1 - j]? = some y ∧ y.at_ < x.at_)
theorem SearchM.up {L : List Dg} {D M lo hi i j c : Nat} (h : SearchM L D M lo hi i j) {x y : Dg} (h1 : i ≤ c) (h2 : c < j) (hx : L[c]? = some x) (hy : L[D + M - 1 - c]? = some y) (hxy : x.at_ ≤ y.at_) : SearchM L D M lo hi (c + 1) j := by
  obtain ⟨q1, q2, q3, q4, q5⟩ := h
  refine ⟨by omega, by omega, q3, Or.inr ⟨x, y, by simpa using hx, ?_, hxy⟩, q5⟩
  rw [← hy]
  congr 1
  omega
theorem SearchM.down {L : List Dg} {D M lo hi i j c : Nat} (h : SearchM L D M lo hi i j) {x y : Dg} (h1 : i ≤ c) (h2 : c < j) (hx : L[c]? = some x) (hy : L[D + M - 1 - c]? = some y) (hxy : y.at_ < x.at_) : SearchM L D M lo hi i c := by
  obtain ⟨q1, q2, q3, q4, q5⟩ := h
  exact ⟨q1, h1, by omega, q4, Or.inr ⟨x, y, hx, hy, hxy⟩⟩
/-- Between which bounds it searches. -/
def LoHi (A D M B lo hi : Nat) : Prop := (D < M ∧ lo = D + M - B ∧ hi = D) ∨ (M ≤ D ∧ lo = A ∧ hi = M)
theorem get_U (X U R : List Dg) {k : Nat} (h1 : X.length ≤ k) (h2 : k < X.length + U.length) : (X ++ (U ++ R))[k]? = U[k - X.length]? := by
  rw [List.getElem?_append_right h1, List.getElem?_append_left (by omega)]
theorem get_V (X U V R : List Dg) {k : Nat} (h1 : X.length + U.length ≤ k) (h2 : k < X.length + U.length + V.length) : (X ++ (U ++ (V ++ R)))[k]? = V[k - X.length - U.length]? := by
  rw [List.getElem?_append_right (by omega), List.getElem?_append_right (by omega), List.getElem?_append_left (by omega)]
theorem search_done {X U V Y : List Dg} (hU : Srt U) (hV : Srt V) {D lo hi s : Nat} (hD1 : 2 * D ≤ X.length + (X.length + (U.length + V.length))) (hD2 : X.length + (X.length + (U.length + V.length)) ≤ 2 * D + 1)
    (hlh : LoHi X.length D (X.length + U.length) (X.length + (U.length + V.length)) lo hi) (h : SearchM (X ++ (U ++ (V ++ Y))) D (X.length + U.length) lo hi s s) :
    ∃ U1 U2 V1 V2, U = U1 ++ U2 ∧ V = V1 ++ V2 ∧ X.length + U1.length = s ∧ X.length + (U1.length + V1.length) = D ∧ (∀ u ∈ U1, ∀ v ∈ V2, u.at_ ≤ v.at_) ∧ (∀ v ∈ V1, ∀ u ∈ U2, v.at_ < u.at_) := by
  obtain ⟨q1, q2, q3, q4, q5⟩ := h
  obtain ⟨A, hA⟩ : ∃ A, X.length = A := ⟨_, rfl⟩
  obtain ⟨u, hu⟩ : ∃ u, U.length = u := ⟨_, rfl⟩
  obtain ⟨v, hv⟩ : ∃ v, V.length = v := ⟨_, rfl⟩
  rw [hA, hu, hv] at hD1 hD2 hlh
  rw [hA, hu] at q4 q5
  have hs : A ≤ s ∧ s ≤ A + u ∧ s ≤ D ∧ D - s ≤ v := by unfold LoHi at hlh; omega
  refine ⟨U.take (s - A), U.drop (s - A), V.take (D - s), V.drop (D - s), (List.take_append_drop _ _).symm, (List.take_append_drop _ _).symm, by rw [List.length_take]; omega, by rw [List.length_take, List.length_take]; omega, ?_, ?_⟩
  · intro x hx y hy
    obtain ⟨i, hi1, rfl⟩ := List.mem_take_iff_getElem.1 hx
    obtain ⟨j, hj1, rfl⟩ := List.mem_drop_iff_getElem.1 hy
    rcases q4 with q4 | ⟨x', y', e1, e2, e3⟩
    · unfold LoHi at hlh
      omega
    · rw [get_U X U _ (by omega) (by omega)] at e1
      rw [get_V X U V Y (by omega) (by omega)] at e2
      obtain ⟨k1, e1⟩ := List.getElem?_eq_some_iff.1 e1
      obtain ⟨k2, e2⟩ := List.getElem?_eq_some_iff.1 e2
      have a1 := srt_get hU (i := i) (j := s - 1 - X.length) (by omega) k1 (by omega)
      have a2 := srt_get hV (i := D + (A + u) - s - X.length - U.length) (j := D - s + j) k2 (by omega) (by omega)
      rw [e1] at a1
      rw [e2] at a2
      omega
  · intro y hy x hx
    obtain ⟨j, hj1, rfl⟩ := List.mem_take_iff_getElem.1 hy
    obtain ⟨i, hi1, rfl⟩ := List.mem_drop_iff_getElem.1 hx
    rcases q5 with q5 | ⟨x', y', e1, e2, e3⟩
    · unfold LoHi at hlh
      omega
    · rw [get_U X U _ (by omega) (by omega)] at e1
      rw [get_V X U V Y (by omega) (by omega)] at e2
      obtain ⟨k1, e1⟩ := List.getElem?_eq_some_iff.1 e1
      obtain ⟨k2, e2⟩ := List.getElem?_eq_some_iff.1 e2
      have a1 := srt_get hU (i := s - X.length) (j := s - A + i) k1 (by omega) (by omega)
      have a2 := srt_get hV (i := j) (j := D + (A + u) - 1 - s - X.length - U.length) (by omega) k2 (by omega)
      rw [e1] at a1
      rw [e2] at a2
      omega
/-- What a merge leaves, put together of its two parts. -/
theorem MrgEnd.join {X U V Y U1 U2 V1 V2 W1 l' : List Dg} (hU : Srt U) (hV : Srt V) (e1 : U = U1 ++ U2) (e2 : V = V1 ++ V2) (h1 : ∀ u ∈ U1, ∀ v ∈ V2, u.at_ ≤ v.at_) (h2 : ∀ v ∈ V1, ∀ u ∈ U2, v.at_ < u.at_)
    (s1 : Srt W1) (l1 : Like (U1 ++ V1) W1) (n1 : W1.length = U1.length + V1.length) (h : MrgEnd (X ++ W1) U2 V2 Y l') : MrgEnd X U V Y l' := by
  obtain ⟨W2, e, s2, l2, n2⟩ := h
  subst e1 e2
  obtain ⟨r1, r2⟩ := merge_core hU hV h1 h2 s1 l1 s2 l2
  exact ⟨W1 ++ W2, by rw [e]; simp, r1, r2, by simp only [List.length_append, n1, n2]; omega⟩
end Go.Proofs.YthggagophcnkfaaGreatDoor.so
