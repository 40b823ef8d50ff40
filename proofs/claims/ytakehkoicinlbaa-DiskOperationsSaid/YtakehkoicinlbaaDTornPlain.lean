/- What a crash leaves of one sector: plain laws. -/
import Derived.Test.YtakehkoicinlbaaDAlt
namespace Go.Proofs.Ytakehkoicinlbaa.dk
open Go.RowKit Go.Proofs.Ytakehkoicinlbaa.agg

abbrev Wr := Int × List Int
def wAt (l : List Wr) (i : Nat) : Wr := l.getD i (0, [])
/-- The places of the writes to one sector. -/
def ownFrom (n : Int) : Nat → List Wr → List Nat
  | _, [] => []
  | i, x :: l => if x.1 = n then i :: ownFrom n (i + 1) l else ownFrom n (i + 1) l
theorem ownFrom_snoc (n : Int) (x : Wr) : ∀ (l : List Wr) (i : Nat), ownFrom n i (l ++ [x]) = ownFrom n i l ++ (if x.1 = n then [i + l.length] else [])
  | [], i => by simp [ownFrom]
  | y :: l, i => by
    simp only [List.cons_append, ownFrom]
    rw [ownFrom_snoc n x l (i + 1)]
    have e : i + 1 + l.length = i + (y :: l).length := by simp only [List.length_cons]; omega
    rw [e]
    split <;> rfl
theorem ownFrom_lt (n : Int) : ∀ (l : List Wr) (i : Nat), ∀ j ∈ ownFrom n i l, i ≤ j ∧ j < i + l.length
  | [], _, j, h => by simp [ownFrom] at h
  | x :: l, i, j, h => by
    simp only [ownFrom] at h
    have ih := ownFrom_lt n l (i + 1) j
    simp only [List.length_cons]
    split at h
    · rcases List.mem_cons.1 h with rfl | h
      · omega
      · have := ih h; omega
    · have := ih h; omega
theorem ownFrom_nil (n : Int) : ∀ (l : List Wr) (i : Nat), ownFrom n i l = [] → ∀ x ∈ l, x.1 ≠ n
  | [], _, _, x, hx => by cases hx
  | y :: l, i, h, x, hx => by
    simp only [ownFrom] at h
    split at h
    · cases h
    · rename_i hne
      rcases List.mem_cons.1 hx with rfl | hx
      · exact hne
      · exact ownFrom_nil n l (i + 1) h x hx
/-- How many bytes of write i survive. -/
def surv (sv : List Int) (i : Nat) : Nat := if i < sv.length then few64 (sv.getD i 0) else 0
theorem surv_le (sv : List Int) (i : Nat) : surv sv i ≤ 64 := by
  unfold surv few64
  split <;> omega
theorem overlay_zero (a b : List Int) : overlay a b 0 = a := by simp [overlay]
theorem overlay_get (a b : List Int) (k j : Nat) (hb : b.length = 64) (hk : k ≤ 64) : (overlay a b k).getD j 0 = if j < k then b.getD j 0 else a.getD j 0 := by
  unfold overlay
  have h1 : (b.take k).length = k := by rw [List.length_take]; omega
  by_cases h : j < k
  · rw [if_pos h, List.getD_eq_getElem?_getD, List.getElem?_append_left (by omega), List.getElem?_take, if_pos h, ← List.getD_eq_getElem?_getD]
  · rw [if_neg h, List.getD_eq_getElem?_getD, List.getElem?_append_right (by omega), List.getElem?_drop, h1, show k + (j - k) = j by omega, ← List.getD_eq_getElem?_getD]
theorem lay_at (d : List (List Int)) (x : Wr) (k : Int) (n : Nat) (hx : x.1 = n) (hn : n < d.length) : (lay d x k).getD n [] = overlay (d.getD n []) x.2 (few64 k) := by
  unfold lay
  rw [hx, Int.toNat_natCast]
  simp [List.getD, hn]
/-- One step of a crash. -/
theorem crash_step (sv : List Int) (d : List (List Int)) (i : Nat) (x : Wr) (n : Nat) (hx : x.1 = n) (hn : n < d.length) :
    ((if i < sv.length then lay d x (sv.getD i 0) else d)).getD n [] = overlay (d.getD n []) x.2 (surv sv i) := by
  unfold surv
  split
  · exact lay_at d x _ n hx hn
  · rw [overlay_zero]
theorem step_len (sv : List Int) (d : List (List Int)) (i : Nat) (x : Wr) : (if i < sv.length then lay d x (sv.getD i 0) else d).length = d.length := by
  split
  · exact length_lay _ _ _
  · rfl
theorem crash_one (sv : List Int) (n : Nat) : ∀ (l : List Wr) (d : List (List Int)) (i j : Nat), n < d.length → (∀ x ∈ l, 0 ≤ x.1) → ownFrom n i l = [j] →
    (layCrash sv d i l).getD n [] = overlay (d.getD n []) (wAt l (j - i)).2 (surv sv j)
  | [], _, _, _, _, _, h => by simp [ownFrom] at h
  | x :: l, d, i, j, hn, h0, h => by
    simp only [ownFrom] at h
    simp only [layCrash]
    by_cases hx : x.1 = n
    · rw [if_pos hx] at h
      injection h with h1 h2
      subst h1
      rw [layCrash_other n sv l _ _ (fun y hy => ⟨h0 y (by simp [hy]), ownFrom_nil n l _ h2 y hy⟩), crash_step sv d i x n hx hn]
      simp [wAt]
    · rw [if_neg hx] at h
      have hj := (ownFrom_lt n l (i + 1) j (by rw [h]; simp)).1
      rw [crash_one sv n l _ (i + 1) j (by rw [step_len]; exact hn) (fun y hy => h0 y (by simp [hy])) h]
      have e1 : (if i < sv.length then lay d x (sv.getD i 0) else d).getD n [] = d.getD n [] := by
        split
        · exact lay_other d x _ n (h0 x (by simp)) hx
        · rfl
      have e2 : wAt (x :: l) (j - i) = wAt l (j - (i + 1)) := by
        unfold wAt
        rw [show j - i = (j - (i + 1)) + 1 by omega]
        rfl
      rw [e1, e2]
theorem crash_some (sv : List Int) (n : Nat) (b : Nat) (hb : b < 64) : ∀ (l : List Wr) (d : List (List Int)) (i : Nat), n < d.length → (∀ x ∈ l, 0 ≤ x.1) → (∀ x ∈ l, x.2.length = 64) → (d.getD n []).length = 64 →
    ((layCrash sv d i l).getD n []).getD b 0 = (d.getD n []).getD b 0 ∨ ∃ j ∈ ownFrom n i l, ((layCrash sv d i l).getD n []).getD b 0 = (wAt l (j - i)).2.getD b 0
  | [], _, _, _, _, _, _ => .inl rfl
  | x :: l, d, i, hn, h0, h64, hd => by
    simp only [layCrash, ownFrom]
    have tail : ∀ d', d'.length = d.length → (d'.getD n []).length = 64 → ((layCrash sv d' (i + 1) l).getD n []).getD b 0 = (d'.getD n []).getD b 0 ∨ ∃ j ∈ ownFrom n (i + 1) l, ((layCrash sv d' (i + 1) l).getD n []).getD b 0 = (wAt (x :: l) (j - i)).2.getD b 0 := by
      intro d' h1 h2
      rcases crash_some sv n b hb l d' (i + 1) (by omega) (fun y hy => h0 y (by simp [hy])) (fun y hy => h64 y (by simp [hy])) h2 with h | ⟨j, hj, h⟩
      · exact .inl h
      · refine .inr ⟨j, hj, ?_⟩
        have hlt := (ownFrom_lt n l (i + 1) j hj).1
        have e2 : wAt (x :: l) (j - i) = wAt l (j - (i + 1)) := by
          unfold wAt
          rw [show j - i = (j - (i + 1)) + 1 by omega]
          rfl
        rw [e2]; exact h
    by_cases hx : x.1 = n
    · rw [if_pos hx]
      have e := crash_step sv d i x n hx hn
      have hxl := h64 x (by simp)
      have hov : (overlay (d.getD n []) x.2 (surv sv i)).length = 64 := by
        simp only [overlay, List.length_append, List.length_take, List.length_drop, hxl, hd]
        have := surv_le sv i
        omega
      rcases tail _ (step_len sv d i x) (by rw [e]; exact hov) with h | ⟨j, hj, h⟩
      · rw [h, e, overlay_get _ _ _ _ hxl (surv_le sv i)]
        split
        · exact .inr ⟨i, by simp, by simp [wAt]⟩
        · exact .inl rfl
      · exact .inr ⟨j, by simp [hj], h⟩
    · rw [if_neg hx]
      have e1 : (if i < sv.length then lay d x (sv.getD i 0) else d).getD n [] = d.getD n [] := by
        split
        · exact lay_other d x _ n (h0 x (by simp)) hx
        · rfl
      rcases tail _ (step_len sv d i x) (by rw [e1]; exact hd) with h | h
      · rw [h, e1]; exact .inl rfl
      · exact .inr h
end Go.Proofs.Ytakehkoicinlbaa.dk
