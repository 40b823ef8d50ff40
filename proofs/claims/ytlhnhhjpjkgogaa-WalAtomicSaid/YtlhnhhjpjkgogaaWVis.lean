/- What a disk shows: plain laws. -/
import Derived.Test.YtlhnhhjpjkgogaaDRead
import Derived.Test.YtlhnhhjpjkgogaaDFlush
import Derived.Test.YtlhnhhjpjkgogaaDWrite
namespace Go.Proofs.Ytlhnhhjpjkgogaa.wl
open Go.RowKit Go.Proofs.Ytlhnhhjpjkgogaa.agg Go.Proofs.Ytlhnhhjpjkgogaa.dk

theorem getD_set_other {α : Type} (l : List α) (i n : Nat) (v d : α) (h : i ≠ n) : (l.set i v).getD n d = l.getD n d := by
  simp [List.getD, h]
theorem lay_other (d : List (List Int)) (x : Int × List Int) (k : Int) (n : Nat) (h0 : 0 ≤ x.1) (h : x.1 ≠ n) : (lay d x k).getD n [] = d.getD n [] := by
  unfold lay
  exact getD_set_other _ _ _ _ _ (by omega)
theorem layAll_other (n : Nat) : ∀ (l : List (Int × List Int)) (d : List (List Int)), (∀ x ∈ l, 0 ≤ x.1 ∧ x.1 ≠ n) → (layAll d l).getD n [] = d.getD n []
  | [], _, _ => rfl
  | x :: l, d, h => by
    show (layAll (lay d x 64) l).getD n [] = _
    rw [layAll_other n l _ (fun y hy => h y (by simp [hy])), lay_other d x 64 n (h x (by simp)).1 (h x (by simp)).2]
theorem lay_same (d : List (List Int)) (n : Nat) (xs : List Int) (hn : n < d.length) (hx : xs.length = 64) (hd : (d.getD n []).length = 64) : (lay d ((n : Int), xs) 64).getD n [] = xs := by
  have h : (lay d ((n : Int), xs) 64).getD n [] = overlay (d.getD n []) xs 64 := by
    unfold lay
    simp only [Int.toNat_natCast]
    rw [show few64 64 = 64 by decide]
    simp [List.getD, hn]
  rw [h]
  unfold overlay
  rw [List.take_of_length_le (by omega), List.drop_of_length_le (by omega), List.append_nil]
theorem lastTo_snoc (l : List (Int × List Int)) (x : Int × List Int) (n : Int) : lastTo (l ++ [x]) n = if x.1 = n then some x else lastTo l n := by
  unfold lastTo
  rw [List.reverse_append]
  simp only [List.reverse_cons, List.reverse_nil, List.nil_append, List.cons_append, List.find?_cons]
  by_cases h : x.1 = n
  · rw [if_pos h]
    have : (x.1 == n) = true := by simpa using h
    simp only [this]
  · rw [if_neg h]
    have : (x.1 == n) = false := by simpa using h
    simp only [this]
theorem lay_lens {d : List (List Int)} {x : Int × List Int} {n : Int} (hd : ∀ s ∈ d, s.length = 64) (hx : x.2.length = 64) (hk : 0 ≤ x.1 ∧ x.1 < d.length) : ∀ s ∈ lay d x n, s.length = 64 := by
  intro s hs
  unfold lay at hs
  rcases List.mem_or_eq_of_mem_set hs with hs | rfl
  · exact hd s hs
  · have h1 : (d.getD x.1.toNat []).length = 64 := by
      rw [List.getD_eq_getElem?_getD, List.getElem?_eq_getElem (by omega)]
      exact hd _ (List.getElem_mem (by omega))
    simp only [overlay, List.length_append, List.length_take, List.length_drop, hx, h1]
    have : few64 n ≤ 64 := by unfold few64; omega
    omega
theorem layAll_lens : ∀ (l : List (Int × List Int)) {d : List (List Int)}, (∀ s ∈ d, s.length = 64) → (∀ x ∈ l, x.2.length = 64) → (∀ x ∈ l, 0 ≤ x.1 ∧ x.1 < d.length) → ∀ s ∈ layAll d l, s.length = 64
  | [], _, hd, _, _ => hd
  | x :: l, d, hd, hx, hk => by
    show ∀ s ∈ layAll (lay d x 64) l, s.length = 64
    refine layAll_lens l (lay_lens hd (hx x (by simp)) (hk x (by simp))) (fun y hy => hx y (by simp [hy])) (fun y hy => ?_)
    rw [length_lay]
    exact hk y (by simp [hy])
theorem visible_layAll (d : List (List Int)) (l : List (Int × List Int)) (hd : ∀ s ∈ d, s.length = 64) (hx : ∀ x ∈ l, x.2.length = 64) (hk : ∀ x ∈ l, 0 ≤ x.1 ∧ x.1 < d.length) (n : Nat) (hn : n < d.length) :
    ∀ k, k ≤ l.length → (match lastTo (l.take k) n with | some x => x.2 | none => d.getD n []) = (layAll d (l.take k)).getD n [] := by
  intro k
  induction k with
  | zero => intro _; rfl
  | succ k ih =>
    intro h
    rw [take_snoc' l k h, lastTo_snoc, layAll_snoc]
    have hm : l[k] ∈ l := List.getElem_mem h
    by_cases e : l[k].1 = n
    · rw [if_pos e]
      have hs := layAll_lens (l.take k) hd (fun x hx' => hx x (List.mem_of_mem_take hx')) (fun x hx' => hk x (List.mem_of_mem_take hx'))
      have hl : (layAll d (l.take k)).length = d.length := length_layAll _ _
      have h1 : ((layAll d (l.take k)).getD n []).length = 64 := by
        rw [List.getD_eq_getElem?_getD, List.getElem?_eq_getElem (by omega)]
        exact hs _ (List.getElem_mem (by omega))
      have := lay_same (layAll d (l.take k)) n l[k].2 (by omega) (hx _ hm) h1
      have e2 : l[k] = ((n : Int), l[k].2) := Prod.ext e rfl
      rw [← e2] at this
      exact this.symm
    · rw [if_neg e, ih (by omega), lay_other _ _ _ _ (hk _ hm).1 e]
end Go.Proofs.Ytlhnhhjpjkgogaa.wl
