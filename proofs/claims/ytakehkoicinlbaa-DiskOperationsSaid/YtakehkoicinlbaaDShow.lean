/- What a disk shows; a crash with all, a flush: plain laws. -/
import Derived.Test.YtakehkoicinlbaaDMany
namespace Go.Proofs.Ytakehkoicinlbaa.dk
open Go.RowKit Go.Proofs.Ytakehkoicinlbaa.agg

theorem lastTo_snoc (l : List (Int × List Int)) (x : Int × List Int) (n : Int) : lastTo (l ++ [x]) n = if x.1 = n then some x else lastTo l n := by
  unfold lastTo
  rw [List.reverse_append]
  simp only [List.reverse_cons, List.reverse_nil, List.nil_append, List.cons_append, List.find?_cons]
  by_cases h : x.1 = n
  · rw [if_pos h]
    have : (x.1 == n) = true := by simpa using h
    simp only [this]
  · rw [if_neg h]
    have : (x.1 == n) = false := by simpa using h
    simp only [this]
theorem lay_lens {d : List (List Int)} {x : Int × List Int} {n : Int} (hd : ∀ s ∈ d, s.length = 64) (hx : x.2.length = 64) (hk : 0 ≤ x.1 ∧ x.1 < d.length) : ∀ s ∈ lay d x n, s.length = 64 := by
  intro s hs
  unfold lay at hs
  rcases List.mem_or_eq_of_mem_set hs with hs | rfl
  · exact hd s hs
  · have h1 : (d.getD x.1.toNat []).length = 64 := by
      rw [List.getD_eq_getElem?_getD, List.getElem?_eq_getElem (by omega)]
      exact hd _ (List.getElem_mem (by omega))
    simp only [overlay, List.length_append, List.length_take, List.length_drop, hx, h1]
    have : few64 n ≤ 64 := by unfold few64; omega
    omega
theorem layAll_lens : ∀ (l : List (Int × List Int)) {d : List (List Int)}, (∀ s ∈ d, s.length = 64) → (∀ x ∈ l, x.2.length = 64) → (∀ x ∈ l, 0 ≤ x.1 ∧ x.1 < d.length) → ∀ s ∈ layAll d l, s.length = 64
  | [], _, hd, _, _ => hd
  | x :: l, d, hd, hx, hk => by
    show ∀ s ∈ layAll (lay d x 64) l, s.length = 64
    refine layAll_lens l (lay_lens hd (hx x (by simp)) (hk x (by simp))) (fun y hy => hx y (by simp [hy])) (fun y hy => ?_)
    rw [length_lay]
    exact hk y (by simp [hy])
theorem visible_layAll (d : List (List Int)) (l : List (Int × List Int)) (hd : ∀ s ∈ d, s.length = 64) (hx : ∀ x ∈ l, x.2.length = 64) (hk : ∀ x ∈ l, 0 ≤ x.1 ∧ x.1 < d.length) (n : Nat) (hn : n < d.length) :
    ∀ k, k ≤ l.length → (match lastTo (l.take k) n with | some x => x.2 | none => d.getD n []) = (layAll d (l.take k)).getD n [] := by
  intro k
  induction k with
  | zero => intro _; rfl
  | succ k ih =>
    intro h
    rw [take_snoc' l k h, lastTo_snoc, layAll_snoc]
    have hm : l[k] ∈ l := List.getElem_mem h
    by_cases e : l[k].1 = n
    · rw [if_pos e]
      have hs := layAll_lens (l.take k) hd (fun x hx' => hx x (List.mem_of_mem_take hx')) (fun x hx' => hk x (List.mem_of_mem_take hx'))
      have hl : (layAll d (l.take k)).length = d.length := length_layAll _ _
      have h1 : ((layAll d (l.take k)).getD n []).length = 64 := by
        rw [List.getD_eq_getElem?_getD, List.getElem?_eq_getElem (by omega)]
        exact hs _ (List.getElem_mem (by omega))
      have := lay_same (layAll d (l.take k)) n l[k].2 (by omega) (hx _ hm) h1
      have e2 : l[k] = ((n : Int), l[k].2) := Prod.ext e rfl
      rw [← e2] at this
      exact this.symm
    · rw [if_neg e, ih (by omega), lay_other _ _ _ _ (hk _ hm).1 e]
/-- What is seen, as what a flush would leave. -/
theorem visible_eq {w : World} {D g : Nat} {pv : Value} {st : St} (h : DiskIn w D g pv st) (n : Nat) (hn : n < st.dur.length) : st.visible n = (layAll st.dur st.pend).getD n [] := by
  have := visible_layAll st.dur st.pend h.len h.plen h.pin n hn st.pend.length (Nat.le_refl _)
  rw [List.take_length] at this
  exact this
theorem layCrash_all (sv : List Int) : ∀ (l : List (Int × List Int)) (d : List (List Int)) (i : Nat), (∀ j, j < l.length → i + j < sv.length ∧ sv.getD (i + j) 0 = 64) → layCrash sv d i l = layAll d l
  | [], _, _, _ => rfl
  | x :: l, d, i, h => by
    have h0 := h 0 (by simp)
    rw [Nat.add_zero] at h0
    simp only [layCrash]
    rw [if_pos h0.1, h0.2, layCrash_all sv l _ _ (fun j hj => by have := h (j + 1) (by simp; omega); rw [show i + 1 + j = i + (j + 1) by omega]; exact this)]
    rfl

/-- A disk of m sectors that works, with p pending writes, and what it shows. -/
structure Shows (m : Nat) (f : Nat → List Int) (p : Nat) (st : St) : Prop where
  len : st.dur.length = m
  ok : st.failed = false
  pend : st.pend.length = p
  vis : ∀ n, n < m → st.visible n = f n
theorem shows_read {m : Nat} {f : Nat → List Int} {p : Nat} {st : St} (h : Shows m f p st) (n : Nat) (hn : n < m) : (st.read n).2.1 = f n ∧ (st.read n).2.2 = 0 ∧ Shows m f p (st.read n).1 := by
  have e : st.read n = ({ st with rd := wrap64 (st.rd + 1) }, st.visible n, 0) := by
    unfold St.read
    rw [if_neg (by rw [h.len]; omega), if_neg (by rw [h.ok]; simp)]
  rw [e]
  exact ⟨h.vis n hn, rfl, ⟨h.len, h.ok, h.pend, h.vis⟩⟩
end Go.Proofs.Ytakehkoicinlbaa.dk
