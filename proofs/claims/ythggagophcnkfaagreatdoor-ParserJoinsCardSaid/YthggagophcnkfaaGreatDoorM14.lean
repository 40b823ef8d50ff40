/- A run of the parser without reports does the same on other tokens that agree with its own, at an offset. Plain laws: no function of the program is walked here. A run of the parser without reports does the same on other tokens that agree with its own: invariants' parts, expressions. Plain laws: no function of the program is walked here. A run of the parser without reports does the same on other tokens that agree with its own: statements, declarations. Plain laws: no function of the program is walked here. -/
import Derived.Test.YthggagophcnkfaaGreatDoorNst
namespace Go.Proofs.YthggagophcnkfaaGreatDoor.px
open Go.RowKit Go.Proofs.YthggagophcnkfaaGreatDoor.agg Go.Proofs.YthggagophcnkfaaGreatDoor.sx
set_option linter.unusedSimpArgs false
set_option linter.unusedVariables false

mutual
/-- A tree without its places. -/
def PT.er : PT → PT
  | .mk k t _ _ ks => .mk k t 0 0 (PT.ers ks)
def PT.ers : List PT → List PT
  | [] => []
  | k :: ks => PT.er k :: PT.ers ks
end
theorem ers_snoc (a : List PT) (t : PT) : PT.ers (a ++ [t]) = PT.ers a ++ [t.er] := by
  induction a with
  | nil => rfl
  | cons x a ih => rw [List.cons_append, PT.ers, ih]; rfl
theorem er_node (k : Int) (f : Nat) (x : ByteArray) (ks : List PT) (s : Ps) : (node k f x ks s).er = .mk k x 0 0 (PT.ers ks) := rfl
/-- The tokens A, up to N, stand in A' from d on. -/
structure Win (A A' : List Tk) (d N : Nat) : Prop where
  tok : ∀ i, i < N → A.getD i default = A'.getD (i + d) default
  le : N ≤ A.length
  le' : N + d ≤ A'.length
section
variable {A A' : List Tk} {d N : Nat}
/-- The state at the offset. -/
def sh (d : Nat) (s : Ps) : Ps := ⟨s.at_ + d, []⟩
theorem sh_next (s : Ps) : (⟨s.at_ + d + 1, []⟩ : Ps) = sh d (next A s).2 := by
  unfold sh next
  simp only
  congr 1
  omega
variable (H : Win A A' d N)
include H
theorem tok_sh {s : Ps} (hN : s.at_ < N) : tok A' (sh d s) = tok A s := (H.tok s.at_ hN).symm
theorem isB_sh {s : Ps} (ws : List ByteArray) (hN : s.at_ < N) : isB A' ws (sh d s) = isB A ws s := by
  unfold isB word
  rw [tok_sh H hN]
theorem next_sh {s : Ps} (hN : s.at_ < N) : next A' (sh d s) = ((next A s).1, sh d (next A s).2) := by
  have h1 : (next A' (sh d s)).1 = (next A s).1 := congrArg Tk.word (tok_sh H hN)
  have h2 : (next A' (sh d s)).2 = sh d (next A s).2 := sh_next s
  exact Prod.ext h1 h2
theorem atEnd_sh {s : Ps} (hN : s.at_ < N) : atEnd A' (sh d s) = atEnd A s := by
  unfold atEnd
  rw [tok_sh H hN]
theorem demand_sh {s : Ps} (w : ByteArray) (hr : (demand A w s).2.reps.length = 0) (hN : (demand A w s).2.at_ ≤ N) : demand A' w (sh d s) = (true, sh d (demand A w s).2) ∧ demand A w s = (true, (next A s).2) ∧ (demand A w s).2.at_ = s.at_ + 1 := by
  unfold demand at hr hN ⊢
  split at hr
  · rename_i h
    rw [if_pos h] at hN ⊢
    have hN2 : s.at_ < N := hN
    rw [isB_sh H _ hN2, if_pos h, next_sh H hN2]
    exact ⟨rfl, rfl, rfl⟩
  · exact (report_no _ _ hr).elim
theorem name_sh {s : Ps} (hr : (name A s).2.reps.length = 0) (hN : (name A s).2.at_ ≤ N) : name A' (sh d s) = ((name A s).1, sh d (name A s).2) ∧ (name A s).2.at_ = s.at_ + 1 := by
  unfold name at hr hN ⊢
  split at hr
  · rename_i h
    rw [if_pos h] at hN ⊢
    have hN2 : s.at_ < N := hN
    rw [tok_sh H hN2, if_pos h, next_sh H hN2]
    exact ⟨rfl, rfl⟩
  · exact (report_no _ _ hr).elim
theorem digits_sh {s : Ps} (hr : (digits A s).2.reps.length = 0) (hN : (digits A s).2.at_ ≤ N) : digits A' (sh d s) = ((digits A s).1, sh d (digits A s).2) ∧ (digits A s).2.at_ = s.at_ + 1 := by
  unfold digits at hr hN ⊢
  split at hr
  · rename_i h
    rw [if_pos h] at hN ⊢
    have hN2 : s.at_ < N := hN
    have hw : word A' (sh d s) = word A s := congrArg Tk.word (tok_sh H hN2)
    rw [tok_sh H hN2, if_pos h, next_sh H hN2, hw]
    exact ⟨rfl, rfl⟩
  · exact (report_no _ _ hr).elim
theorem optional_sh {s : Ps} (w : ByteArray) (hN : s.at_ < N) : optional A' w (sh d s) = ((optional A w s).1, sh d (optional A w s).2) ∨ s.reps ≠ [] := by
  by_cases hs : s.reps = []
  · left
    unfold optional
    rw [isB_sh H _ hN]
    split
    · rw [next_sh H hN]
    · exact rfl
  · exact .inr hs
end
/-- A function that gives a tree does the same at the offset, where it makes no report and ends ahead of N. -/
structure SimF (A A' : List Tk) (d N : Nat) (f f' : M PT) : Prop where
  md : ∀ s, Md s (f s).2
  eq : ∀ s, (f s).2.reps.length = 0 → (f s).2.at_ < N → (f' (sh d s)).1.er = (f s).1.er ∧ (f' (sh d s)).2 = sh d (f s).2
section
variable {A A' : List Tk} {d N : Nat} (H : Win A A' d N)
include H
theorem named_sh : SimF A A' d N (named A) (named A') := ⟨fun s => named_gd.md, fun s hr hN => by
  obtain ⟨h, _⟩ := name_sh H (s := s) hr (Nat.le_of_lt hN)
  unfold named
  rw [h]
  exact ⟨rfl, rfl⟩⟩
theorem number_sh : SimF A A' d N (number A) (number A') := ⟨fun s => number_gd.md, fun s hr hN => by
  obtain ⟨h, _⟩ := digits_sh H (s := s) hr (Nat.le_of_lt hN)
  unfold number
  rw [h]
  exact ⟨rfl, rfl⟩⟩
theorem integer_sh : SimF A A' d N (integer A) (integer A') := ⟨fun s => integer_gd.md, fun s hr hN => by
  have hN' : (digits A (optional A ((ByteArray.mk #[45])) s).2).2.at_ < N := hN
  have hr' : (digits A (optional A ((ByteArray.mk #[45])) s).2).2.reps.length = 0 := hr
  have m1 := optional_md (A := A) (s := s) ((ByteArray.mk #[45]))
  have m2 := digits_md (A := A) (s := (optional A ((ByteArray.mk #[45])) s).2)
  have e1 := m1.mono
  have e2 := m2.mono
  have e3 := m1.reps
  have e4 := m2.reps
  obtain ⟨h2, _⟩ := digits_sh H hr' (Nat.le_of_lt hN')
  have h1 := (optional_sh H (s := s) ((ByteArray.mk #[45])) (by omega)).resolve_right (fun h => h (List.eq_nil_of_length_eq_zero (by omega)))
  unfold integer
  simp only [h1, h2]
  exact ⟨rfl, trivial⟩⟩
theorem chosen_sh (ws : List ByteArray) : SimF A A' d N (chosen A ws) (chosen A' ws) := ⟨fun s => (chosen_gd ws).md, fun s hr hN => by
  unfold chosen at hr hN ⊢
  split at hr
  · rename_i h
    rw [if_pos h] at hN ⊢
    have hN2 : s.at_ < N := Nat.lt_of_succ_lt hN
    rw [isB_sh H _ hN2, if_pos h, next_sh H hN2]
    exact ⟨rfl, rfl⟩
  · exact (report_no _ _ hr).elim⟩
theorem maybe_sh (w : ByteArray) : SimF A A' d N (maybe A w) (maybe A' w) := ⟨fun s => (maybe_gd w).md, fun s hr hN => by
  have hN2 : s.at_ < N := Nat.lt_of_le_of_lt (maybe_gd (A := A) (s := s) w).md.mono hN
  unfold maybe at hr hN ⊢
  rw [isB_sh H _ hN2]
  split at hr
  · rename_i h
    rw [if_pos h] at hN
    rw [if_pos h, if_pos h]
    exact (chosen_sh H [w]).eq s hr hN
  · rename_i h
    rw [if_neg h, if_neg h]
    have hs : s.reps = [] := List.eq_nil_of_length_eq_zero hr
    exact ⟨rfl, rfl⟩⟩
omit H in
theorem isB_far {s : Ps} (ws : List ByteArray) (h : A.length ≤ s.at_) : isB A ws s = false := by
  unfold isB tok
  rw [List.getD_eq_getElem?_getD, List.getElem?_eq_none h]
  rfl
omit H in
theorem more_md {el : M PT} (h : ∀ s, Md s (el s).2) : ∀ (n : Nat) (ks : List PT) (s : Ps), Md s (more A el n ks s).2
  | 0, ks, s => .refl _
  | n + 1, ks, s => by
    rw [more]
    split
    · exact ((next_md (A := A)).trans (h _)).trans (more_md h n _ _)
    · exact .refl _
theorem more_sh {el el' : M PT} (h : SimF A A' d N el el') : ∀ (n n' : Nat) (ks ks' : List PT) (s : Ps), PT.ers ks' = PT.ers ks → A.length ≤ s.at_ + n → A'.length ≤ s.at_ + d + n' → (more A el n ks s).2.reps.length = 0 → (more A el n ks s).2.at_ < N → PT.ers (more A' el' n' ks' (sh d s)).1 = PT.ers (more A el n ks s).1 ∧ (more A' el' n' ks' (sh d s)).2 = sh d (more A el n ks s).2
  | n, n', ks, ks', s, hk, ha, ha', hr, hN => by
    have hN2 : s.at_ < N := Nat.lt_of_le_of_lt (more_md h.md n ks s).mono hN
    have hb := isB_sh H [(ByteArray.mk #[44])] hN2
    cases hc : isB A [(ByteArray.mk #[44])] s with
    | false =>
      have e1 : more A el n ks s = (ks, s) := by
        cases n with
        | zero => rfl
        | succ n => rw [more, if_neg (by rw [hc]; simp)]
      have e2 : more A' el' n' ks' (sh d s) = (ks', sh d s) := by
        cases n' with
        | zero => rfl
        | succ n' => rw [more, if_neg (by rw [hb, hc]; simp)]
      rw [e1, e2]
      exact ⟨hk, rfl⟩
    | true =>
      rw [hc] at hb
      have n1 : 0 < n := by
        rcases Nat.eq_zero_or_pos n with h0 | h0
        · rw [isB_far _ (by omega)] at hc; cases hc
        · exact h0
      have n2 : 0 < n' := by
        rcases Nat.eq_zero_or_pos n' with h0 | h0
        · rw [isB_far (s := sh d s) _ (by show _ ≤ s.at_ + d; omega)] at hb; cases hb
        · exact h0
      obtain ⟨n, rfl⟩ : ∃ k, n = k + 1 := ⟨n - 1, by omega⟩
      obtain ⟨n', rfl⟩ : ∃ k, n' = k + 1 := ⟨n' - 1, by omega⟩
      have eA : more A el (n + 1) ks s = more A el n (ks ++ [(el (next A s).2).1]) (el (next A s).2).2 := by rw [more, if_pos hc]
      have eA' : more A' el' (n' + 1) ks' (sh d s) = more A' el' n' (ks' ++ [(el' (sh d (next A s).2)).1]) (el' (sh d (next A s).2)).2 := by rw [more, if_pos hb, next_sh H hN2]
      rw [eA] at hr hN ⊢
      rw [eA']
      have m := more_md (A := A) h.md n (ks ++ [(el (next A s).2).1]) (el (next A s).2).2
      have m1 := m.mono
      have m2 := m.reps
      have m3 := (h.md (next A s).2).mono
      obtain ⟨g1, g2⟩ := h.eq (next A s).2 (by omega) (by omega)
      have hx : (next A s).2.at_ = s.at_ + 1 := rfl
      simp only [g2]
      exact more_sh h n n' _ _ _ (by rw [ers_snoc, ers_snoc, hk, g1]) (by omega) (by omega) hr hN
omit H in
theorem elements_md {el : M PT} (h : ∀ s, Md s (el s).2) (s : Ps) : Md s (elements A el s).2 := by
  unfold elements
  simp only
  split
  · exact (demand_md _).trans (demand_md _)
  · exact (((demand_md _).trans (h _)).trans (more_md h _ _ _)).trans (demand_md _)
theorem elements_sh {el el' : M PT} (h : SimF A A' d N el el') (s : Ps) (hr : (elements A el s).2.reps.length = 0) (hN : (elements A el s).2.at_ ≤ N) : PT.ers (elements A' el' (sh d s)).1 = PT.ers (elements A el s).1 ∧ (elements A' el' (sh d s)).2 = sh d (elements A el s).2 ∧ s.at_ + 2 ≤ (elements A el s).2.at_ := by
  have eA : elements A el s = if isB A [(ByteArray.mk #[41])] (demand A ((ByteArray.mk #[40])) s).2 then ([], (demand A ((ByteArray.mk #[41])) (demand A ((ByteArray.mk #[40])) s).2).2) else ((more A el A.length [(el (demand A ((ByteArray.mk #[40])) s).2).1] (el (demand A ((ByteArray.mk #[40])) s).2).2).1, (demand A ((ByteArray.mk #[41])) (more A el A.length [(el (demand A ((ByteArray.mk #[40])) s).2).1] (el (demand A ((ByteArray.mk #[40])) s).2).2).2).2) := rfl
  have eB : elements A' el' (sh d s) = if isB A' [(ByteArray.mk #[41])] (demand A' ((ByteArray.mk #[40])) (sh d s)).2 then ([], (demand A' ((ByteArray.mk #[41])) (demand A' ((ByteArray.mk #[40])) (sh d s)).2).2) else ((more A' el' A'.length [(el' (demand A' ((ByteArray.mk #[40])) (sh d s)).2).1] (el' (demand A' ((ByteArray.mk #[40])) (sh d s)).2).2).1, (demand A' ((ByteArray.mk #[41])) (more A' el' A'.length [(el' (demand A' ((ByteArray.mk #[40])) (sh d s)).2).1] (el' (demand A' ((ByteArray.mk #[40])) (sh d s)).2).2).2).2) := rfl
  cases hc : isB A [(ByteArray.mk #[41])] (demand A ((ByteArray.mk #[40])) s).2 with
  | true =>
    rw [eA, if_pos hc] at hr hN ⊢
    have m1 := demand_md (A := A) (s := (demand A ((ByteArray.mk #[40])) s).2) ((ByteArray.mk #[41]))
    have q1 := m1.mono
    have q2 := m1.reps
    obtain ⟨g1, _, g3⟩ := demand_sh H ((ByteArray.mk #[41])) hr hN
    simp only at hr hN
    obtain ⟨f1, _, f3⟩ := demand_sh H (s := s) ((ByteArray.mk #[40])) (by omega) (by omega)
    have hb := isB_sh H (s := (demand A ((ByteArray.mk #[40])) s).2) [(ByteArray.mk #[41])] (by omega)
    rw [f1] at eB
    simp only at eB
    rw [if_pos (by rw [hb]; exact hc), g1] at eB
    rw [eB]
    exact ⟨rfl, rfl, by simp only; omega⟩
  | false =>
    rw [eA, if_neg (by rw [hc]; simp)] at hr hN ⊢
    have m1 := h.md (demand A ((ByteArray.mk #[40])) s).2
    have m2 := more_md (A := A) h.md A.length [(el (demand A ((ByteArray.mk #[40])) s).2).1] (el (demand A ((ByteArray.mk #[40])) s).2).2
    have m3 := demand_md (A := A) (s := (more A el A.length [(el (demand A ((ByteArray.mk #[40])) s).2).1] (el (demand A ((ByteArray.mk #[40])) s).2).2).2) ((ByteArray.mk #[41]))
    have q1 := m1.mono
    have q2 := m1.reps
    have q3 := m2.mono
    have q4 := m2.reps
    have q5 := m3.mono
    have q6 := m3.reps
    obtain ⟨g1, _, g3⟩ := demand_sh H ((ByteArray.mk #[41])) hr hN
    simp only at hr hN
    obtain ⟨f1, _, f3⟩ := demand_sh H (s := s) ((ByteArray.mk #[40])) (by omega) (by omega)
    have hb := isB_sh H (s := (demand A ((ByteArray.mk #[40])) s).2) [(ByteArray.mk #[41])] (by omega)
    obtain ⟨e1, e2⟩ := h.eq (demand A ((ByteArray.mk #[40])) s).2 (by omega) (by omega)
    obtain ⟨k1, k2⟩ := more_sh H h A.length A'.length [(el (demand A ((ByteArray.mk #[40])) s).2).1] [(el' (sh d (demand A ((ByteArray.mk #[40])) s).2)).1] (el (demand A ((ByteArray.mk #[40])) s).2).2 (by simp only [PT.ers, e1]) (by omega) (by omega) (by omega) (by omega)
    rw [f1] at eB
    simp only at eB
    rw [if_neg (by rw [hb, hc]; simp), e2, k2, g1] at eB
    rw [eB]
    exact ⟨k1, rfl, by simp only; omega⟩
theorem list1_sh (kind : Int) {el el' : M PT} (h : SimF A A' d N el el') : SimF A A' d N (list1 A kind el) (list1 A' kind el') := ⟨fun s => elements_md h.md s, fun s hr hN => by
  obtain ⟨g1, g2, _⟩ := elements_sh H h s hr (Nat.le_of_lt hN)
  unfold list1
  simp only [er_node, g1, g2]
  exact ⟨trivial, trivial⟩⟩
theorem column_sh : SimF A A' d N (column A) (column A') := ⟨fun s => (column_gd s).md, fun s hr hN => by
  have m2 := demand_md (A := A) (s := (name A s).2) ((ByteArray.mk #[58]))
  have m3 := (named_gd (A := A) (s := (demand A ((ByteArray.mk #[58])) (name A s).2).2)).md
  have q1 := m2.mono
  have q2 := m2.reps
  have q3 := m3.mono
  have q4 := m3.reps
  have hr' : (named A (demand A ((ByteArray.mk #[58])) (name A s).2).2).2.reps.length = 0 := hr
  have hN' : (named A (demand A ((ByteArray.mk #[58])) (name A s).2).2).2.at_ < N := hN
  obtain ⟨g1, g2⟩ := (named_sh H).eq _ hr' hN'
  obtain ⟨f1, _⟩ := demand_sh H (s := (name A s).2) ((ByteArray.mk #[58])) (by omega) (by omega)
  obtain ⟨e1, _⟩ := name_sh H (s := s) (by omega) (by omega)
  unfold column
  simp only [er_node, e1, f1, PT.ers, g1, g2]
  exact ⟨trivial, trivial⟩⟩
theorem columns_sh : SimF A A' d N (columns A) (columns A') := list1_sh H 10 (column_sh H)
theorem limits_sh : SimF A A' d N (limits A) (limits A') := ⟨fun s => (limits_gd s).md, fun s hr hN => by
  have m2 := demand_md (A := A) (s := (integer A s).2) ((ByteArray.mk #[46, 46]))
  have m3 := (integer_gd (A := A) (s := (demand A ((ByteArray.mk #[46, 46])) (integer A s).2).2)).md
  have q1 := m2.mono
  have q2 := m2.reps
  have q3 := m3.mono
  have q4 := m3.reps
  have hr' : (integer A (demand A ((ByteArray.mk #[46, 46])) (integer A s).2).2).2.reps.length = 0 := hr
  have hN' : (integer A (demand A ((ByteArray.mk #[46, 46])) (integer A s).2).2).2.at_ < N := hN
  obtain ⟨g1, g2⟩ := (integer_sh H).eq _ hr' hN'
  obtain ⟨f1, _⟩ := demand_sh H (s := (integer A s).2) ((ByteArray.mk #[46, 46])) (by omega) (by omega)
  obtain ⟨e1, e2⟩ := (integer_sh H).eq s (by omega) (by omega)
  unfold limits
  simp only [er_node, e1, e2, f1, PT.ers, g1, g2]
  exact ⟨trivial, trivial⟩⟩
theorem bound_sh {kid kid' : M PT} (h : SimF A A' d N kid kid') : SimF A A' d N (bound A kid) (bound A' kid') := ⟨fun s => by
  unfold bound
  simp only
  refine Md.trans ?_ (h.md _)
  split
  · exact next_md (A := A)
  · exact report_md _ _, fun s hr hN => by
  cases hc : isB A [(ByteArray.mk #[60, 61]), (ByteArray.mk #[62, 61])] s with
  | false =>
    have eA : bound A kid s = (node 19 s.at_ ⟨#[]⟩ [(kid (report 4 ((ByteArray.mk #[60, 61])) s)).1] (kid (report 4 ((ByteArray.mk #[60, 61])) s)).2, (kid (report 4 ((ByteArray.mk #[60, 61])) s)).2) := by
      unfold bound
      simp only [hc]
      rfl
    rw [eA] at hr
    have hr2 : (kid (report 4 ((ByteArray.mk #[60, 61])) s)).2.reps.length = 0 := hr
    exact (report_no (s := s) 4 ((ByteArray.mk #[60, 61])) (by have := (h.md (report 4 ((ByteArray.mk #[60, 61])) s)).reps; omega)).elim
  | true =>
    have eA : bound A kid s = (node 19 s.at_ (next A s).1 [(kid (next A s).2).1] (kid (next A s).2).2, (kid (next A s).2).2) := by
      unfold bound
      simp only [hc]
      rfl
    rw [eA] at hr hN ⊢
    have hr2 : (kid (next A s).2).2.reps.length = 0 := hr
    have hN2 : (kid (next A s).2).2.at_ < N := hN
    have q := (h.md (next A s).2).mono
    have hx : (next A s).2.at_ = s.at_ + 1 := rfl
    have hb := isB_sh H (s := s) [(ByteArray.mk #[60, 61]), (ByteArray.mk #[62, 61])] (by omega)
    rw [hc] at hb
    obtain ⟨g1, g2⟩ := h.eq _ hr2 hN2
    have eB : bound A' kid' (sh d s) = (node 19 (sh d s).at_ (next A s).1 [(kid' (sh d (next A s).2)).1] (kid' (sh d (next A s).2)).2, (kid' (sh d (next A s).2)).2) := by
      unfold bound
      simp only [hb, next_sh H (show s.at_ < N by omega)]
      rfl
    rw [eB]
    simp only [er_node, PT.ers, g1, g2]
    exact ⟨trivial, trivial⟩⟩
theorem argument_sh : SimF A A' d N (argument A) (argument A') := ⟨fun s => (argument_gd s).md, fun s hr hN => by
  have hN2 : s.at_ < N := Nat.lt_of_le_of_lt (argument_gd (A := A) s).md.mono hN
  unfold argument at hr hN ⊢
  rw [tok_sh H hN2]
  split at hr
  · rename_i h
    rw [if_pos h] at hN
    rw [if_pos h, if_pos h]
    exact (named_sh H).eq s hr hN
  · rename_i h
    rw [if_neg h] at hN
    rw [if_neg h, if_neg h]
    split at hr
    · rename_i h2
      rw [if_pos h2] at hN
      rw [if_pos h2, if_pos h2]
      exact (number_sh H).eq s hr hN
    · exact (report_no _ _ hr).elim⟩
theorem cell_sh' (s : Ps) (hr : (cell A s).2.reps.length = 0) (hN : (cell A s).2.at_ ≤ N) : (cell A' (sh d s)).1.er = (cell A s).1.er ∧ (cell A' (sh d s)).2 = sh d (cell A s).2 := by
  have hr' : (elements A (argument A) (name A s).2).2.reps.length = 0 := hr
  have hN' : (elements A (argument A) (name A s).2).2.at_ ≤ N := hN
  have m := elements_md (A := A) (fun s => (argument_gd (A := A) s).md) (name A s).2
  have q1 := m.mono
  have q2 := m.reps
  obtain ⟨g1, g2, _⟩ := elements_sh H (argument_sh H) _ hr' hN'
  obtain ⟨e1, _⟩ := name_sh H (s := s) (by omega) (by omega)
  unfold cell
  simp only [er_node, e1, g1, g2]
  exact ⟨trivial, trivial⟩
theorem cell_sh : SimF A A' d N (cell A) (cell A') := ⟨fun s => (cell_gd s).md, fun s hr hN => cell_sh' H s hr (Nat.le_of_lt hN)⟩
theorem term_sh (first first' : Nat) (sign : ByteArray) (s : Ps) (hr : (term A first sign s).2.reps.length = 0) (hN : (term A first sign s).2.at_ < N) : (term A' first' sign (sh d s)).1.er = (term A first sign s).1.er ∧ (term A' first' sign (sh d s)).2 = sh d (term A first sign s).2 := by
  unfold term at hr hN ⊢
  simp only at hr hN ⊢
  have e1 : ∃ f : PT × Ps, (if (tok A s).kind = 3 then ((number A s).1, (demand A ((ByteArray.mk #[42])) (number A s).2).2) else (missing 1 s, s)) = f ∧ Md s f.2 ∧ (f.2.reps.length = 0 → f.2.at_ < N → ∃ f' : PT × Ps, (if (tok A' (sh d s)).kind = 3 then ((number A' (sh d s)).1, (demand A' ((ByteArray.mk #[42])) (number A' (sh d s)).2).2) else (missing 1 (sh d s), sh d s)) = f' ∧ f'.1.er = f.1.er ∧ f'.2 = sh d f.2) := by
    refine ⟨_, rfl, ?_, ?_⟩
    · split
      · exact number_gd.md.trans (demand_md _)
      · exact .refl _
    · intro hr hN
      by_cases hk : (tok A s).kind = 3
      · rw [if_pos hk] at hr hN ⊢
        have m := demand_md (A := A) (s := (number A s).2) ((ByteArray.mk #[42]))
        have q1 := m.mono
        have q2 := m.reps
        have q3 := (number_gd (A := A) (s := s)).md.mono
        simp only at hr hN
        obtain ⟨g1, _, _⟩ := demand_sh H (s := (number A s).2) ((ByteArray.mk #[42])) hr (by omega)
        obtain ⟨n1, n2⟩ := (number_sh H).eq s (by omega) (by omega)
        refine ⟨_, rfl, ?_⟩
        rw [tok_sh H (show s.at_ < N by omega), if_pos hk, n2, g1]
        exact ⟨n1, rfl⟩
      · rw [if_neg hk] at hr hN ⊢
        refine ⟨_, rfl, ?_⟩
        rw [tok_sh H (show s.at_ < N from hN), if_neg hk]
        exact ⟨rfl, rfl⟩
  obtain ⟨f, ef, mf, hf⟩ := e1
  rw [ef] at hr hN ⊢
  have e2 : ∃ o : PT × Ps, (if isB A [(ByteArray.mk #[115, 117, 109])] f.2 = true then columns A (next A f.2).2 else (missing 1 f.2, f.2)) = o ∧ Md f.2 o.2 ∧ (o.2.reps.length = 0 → o.2.at_ < N → ∃ o' : PT × Ps, (if isB A' [(ByteArray.mk #[115, 117, 109])] (sh d f.2) = true then columns A' (next A' (sh d f.2)).2 else (missing 1 (sh d f.2), sh d f.2)) = o' ∧ o'.1.er = o.1.er ∧ o'.2 = sh d o.2) := by
    refine ⟨_, rfl, ?_, ?_⟩
    · split
      · exact (next_md (A := A)).trans (columns_gd (A := A) _).md
      · exact .refl _
    · intro hr hN
      cases hc : isB A [(ByteArray.mk #[115, 117, 109])] f.2 with
      | true =>
        rw [hc, if_pos rfl] at hr hN
        have q1 := (columns_gd (A := A) (next A f.2).2).md.mono
        have hx : (next A f.2).2.at_ = f.2.at_ + 1 := rfl
        have hlt : f.2.at_ < N := by omega
        obtain ⟨g1, g2⟩ := (columns_sh H).eq _ hr hN
        refine ⟨_, rfl, ?_⟩
        rw [isB_sh H _ hlt, hc, if_pos rfl, if_pos rfl, next_sh H hlt]
        exact ⟨g1, g2⟩
      | false =>
        rw [hc, if_neg (by simp)] at hr hN
        refine ⟨_, rfl, ?_⟩
        rw [isB_sh H _ (show f.2.at_ < N from hN), hc, if_neg (by simp), if_neg (by simp)]
        exact ⟨rfl, rfl⟩
  obtain ⟨o, eo, mo, ho⟩ := e2
  rw [eo] at hr hN ⊢
  have q1 := (cell_gd (A := A) o.2).md
  have q2 := q1.mono
  have q3 := q1.reps
  have q4 := mo.mono
  have q5 := mo.reps
  obtain ⟨f', ef', gf1, gf2⟩ := hf (by omega) (by omega)
  obtain ⟨o', eo', go1, go2⟩ := ho (by omega) (by omega)
  obtain ⟨c1, c2⟩ := (cell_sh H).eq o.2 hr hN
  rw [ef', gf2, eo', go2]
  simp only [er_node, PT.ers, gf1, go1, c1, c2]
  exact ⟨trivial, trivial⟩
omit H in
theorem term_md (first : Nat) (sign : ByteArray) (s : Ps) : Md s (term A first sign s).2 := by
  unfold term
  simp only
  refine Md.trans ?_ (cell_gd _).md
  have h1 : Md s (if (tok A s).kind = 3 then ((number A s).1, (demand A ((ByteArray.mk #[42])) (number A s).2).2) else (missing 1 s, s)).2 := by
    split
    · exact number_gd.md.trans (demand_md _)
    · exact .refl _
  refine h1.trans ?_
  generalize (if (tok A s).kind = 3 then ((number A s).1, (demand A ((ByteArray.mk #[42])) (number A s).2).2) else (missing 1 s, s)) = f
  split
  · exact (next_md (A := A)).trans (columns_gd (A := A) _).md
  · exact .refl _
omit H in
theorem terms_md : ∀ (n : Nat) (ks : List PT) (s : Ps), Md s (terms A n ks s).2
  | 0, ks, s => .refl _
  | n + 1, ks, s => by
    rw [terms]
    split
    · exact ((next_md (A := A)).trans (term_md _ _ _)).trans (terms_md n _ _)
    · exact .refl _
theorem terms_sh : ∀ (n n' : Nat) (ks ks' : List PT) (s : Ps), PT.ers ks' = PT.ers ks → A.length ≤ s.at_ + n → A'.length ≤ s.at_ + d + n' → (terms A n ks s).2.reps.length = 0 → (terms A n ks s).2.at_ < N → PT.ers (terms A' n' ks' (sh d s)).1 = PT.ers (terms A n ks s).1 ∧ (terms A' n' ks' (sh d s)).2 = sh d (terms A n ks s).2
  | n, n', ks, ks', s, hk, ha, ha', hr, hN => by
    have hN2 : s.at_ < N := Nat.lt_of_le_of_lt (terms_md n ks s).mono hN
    have hb := isB_sh H [(ByteArray.mk #[43]), (ByteArray.mk #[45])] hN2
    cases hc : isB A [(ByteArray.mk #[43]), (ByteArray.mk #[45])] s with
    | false =>
      have e1 : terms A n ks s = (ks, s) := by
        cases n with
        | zero => rfl
        | succ n => rw [terms, if_neg (by rw [hc]; simp)]
      have e2 : terms A' n' ks' (sh d s) = (ks', sh d s) := by
        cases n' with
        | zero => rfl
        | succ n' => rw [terms, if_neg (by rw [hb, hc]; simp)]
      rw [e1, e2]
      exact ⟨hk, rfl⟩
    | true =>
      rw [hc] at hb
      have n1 : 0 < n := by
        rcases Nat.eq_zero_or_pos n with h0 | h0
        · rw [isB_far _ (by omega)] at hc; cases hc
        · exact h0
      have n2 : 0 < n' := by
        rcases Nat.eq_zero_or_pos n' with h0 | h0
        · rw [isB_far (s := sh d s) _ (by show _ ≤ s.at_ + d; omega)] at hb; cases hb
        · exact h0
      obtain ⟨n, rfl⟩ : ∃ k, n = k + 1 := ⟨n - 1, by omega⟩
      obtain ⟨n', rfl⟩ : ∃ k, n' = k + 1 := ⟨n' - 1, by omega⟩
      have eA : terms A (n + 1) ks s = terms A n (ks ++ [(term A s.at_ (next A s).1 (next A s).2).1]) (term A s.at_ (next A s).1 (next A s).2).2 := by rw [terms, if_pos hc]
      have eA' : terms A' (n' + 1) ks' (sh d s) = terms A' n' (ks' ++ [(term A' (sh d s).at_ (next A s).1 (sh d (next A s).2)).1]) (term A' (sh d s).at_ (next A s).1 (sh d (next A s).2)).2 := by rw [terms, if_pos hb, next_sh H hN2]
      rw [eA] at hr hN ⊢
      rw [eA']
      have m := terms_md (A := A) n (ks ++ [(term A s.at_ (next A s).1 (next A s).2).1]) (term A s.at_ (next A s).1 (next A s).2).2
      have m1 := m.mono
      have m2 := m.reps
      have m3 := (term_md (A := A) s.at_ (next A s).1 (next A s).2).mono
      obtain ⟨g1, g2⟩ := term_sh H s.at_ (sh d s).at_ (next A s).1 (next A s).2 (by omega) (by omega)
      have hx : (next A s).2.at_ = s.at_ + 1 := rfl
      rw [g2]
      exact terms_sh n n' _ _ _ (by rw [ers_snoc, ers_snoc, hk, g1]) (by omega) (by omega) hr hN
theorem total_sh : SimF A A' d N (total A) (total A') := ⟨fun s => (total_gd s).md, fun s hr hN => by
  have e1 : ∃ r : ByteArray × Ps, (if isB A [(ByteArray.mk #[45])] s = true then next A s else ((ByteArray.mk #[43]), s)) = r ∧ Md s r.2 ∧ (s.at_ < N → r.2.at_ ≤ N → (if isB A' [(ByteArray.mk #[45])] (sh d s) = true then next A' (sh d s) else ((ByteArray.mk #[43]), sh d s)) = (r.1, sh d r.2)) := by
    refine ⟨_, rfl, ?_, ?_⟩
    · split
      · exact next_md (A := A)
      · exact .refl _
    · intro h1 h2
      rw [isB_sh H _ h1]
      split
      · exact next_sh H h1
      · exact rfl
  obtain ⟨r, er, mr, hr1⟩ := e1
  have eA : total A s = (node 20 s.at_ ⟨#[]⟩ (terms A A.length [(term A s.at_ r.1 r.2).1] (term A s.at_ r.1 r.2).2).1 (terms A A.length [(term A s.at_ r.1 r.2).1] (term A s.at_ r.1 r.2).2).2, (terms A A.length [(term A s.at_ r.1 r.2).1] (term A s.at_ r.1 r.2).2).2) := by
    unfold total
    simp only [er]
  rw [eA] at hr hN ⊢
  simp only at hr hN
  have m1 := term_md (A := A) s.at_ r.1 r.2
  have m2 := terms_md (A := A) A.length [(term A s.at_ r.1 r.2).1] (term A s.at_ r.1 r.2).2
  have q1 := m1.mono
  have q2 := m1.reps
  have q3 := m2.mono
  have q4 := m2.reps
  have q5 := mr.mono
  have hs := hr1 (by omega) (by omega)
  obtain ⟨t1, t2⟩ := term_sh H s.at_ (sh d s).at_ r.1 r.2 (by omega) (by omega)
  obtain ⟨k1, k2⟩ := terms_sh H A.length A'.length [(term A s.at_ r.1 r.2).1] [(term A' (sh d s).at_ r.1 (sh d r.2)).1] (term A s.at_ r.1 r.2).2 (by simp only [PT.ers, t1]) (by omega) (by omega) hr hN
  have eB : total A' (sh d s) = (node 20 (sh d s).at_ ⟨#[]⟩ (terms A' A'.length [(term A' (sh d s).at_ r.1 (sh d r.2)).1] (sh d (term A s.at_ r.1 r.2).2)).1 (terms A' A'.length [(term A' (sh d s).at_ r.1 (sh d r.2)).1] (sh d (term A s.at_ r.1 r.2).2)).2, (terms A' A'.length [(term A' (sh d s).at_ r.1 (sh d r.2)).1] (sh d (term A s.at_ r.1 r.2).2)).2) := by
    unfold total
    simp only [hs, t2]
  rw [eB]
  simp only [er_node, k1, k2]
  exact ⟨trivial, trivial⟩⟩
theorem names_sh : SimF A A' d N (names A) (names A') := list1_sh H 18 (named_sh H)
end
end Go.Proofs.YthggagophcnkfaaGreatDoor.px
namespace Go.Proofs.YthggagophcnkfaaGreatDoor.px
open Go.RowKit Go.Proofs.YthggagophcnkfaaGreatDoor.agg Go.Proofs.YthggagophcnkfaaGreatDoor.sx
set_option linter.unusedSimpArgs false
set_option linter.unusedVariables false

/-- The same, from a token on. -/
structure SimK (A A' : List Tk) (d N K : Nat) (f f' : M PT) : Prop where
  md : ∀ s, Md s (f s).2
  eq : ∀ s, K ≤ s.at_ → (f s).2.reps.length = 0 → (f s).2.at_ < N → (f' (sh d s)).1.er = (f s).1.er ∧ (f' (sh d s)).2 = sh d (f s).2
section
variable {A A' : List Tk} {d N : Nat}
theorem SimF.k {f f' : M PT} (h : SimF A A' d N f f') (K : Nat) : SimK A A' d N K f f' := ⟨h.md, fun s _ => h.eq s⟩
theorem SimK.f {f f' : M PT} (h : SimK A A' d N 0 f f') : SimF A A' d N f f' := ⟨h.md, fun s => h.eq s (Nat.zero_le _)⟩
variable (H : Win A A' d N)
include H
theorem part_sh : SimF A A' d N (part A) (part A') := ⟨fun s => (part_gd s).md, fun s hr hN => by
  have hN2 : s.at_ < N := Nat.lt_of_le_of_lt (part_gd (A := A) s).md.mono hN
  have b := fun ws => isB_sh H (s := s) ws hN2
  have nx := next_sh H hN2
  have hx : (next A s).2.at_ = s.at_ + 1 := rfl
  cases k1 : isB A [(ByteArray.mk #[107, 101, 121])] s with
  | true =>
    simp only [part, b, k1, if_true] at hr hN ⊢
    have m := (names_gd (A := A) (name A (next A s).2).2).md
    have q1 := m.mono
    have q2 := m.reps
    obtain ⟨g1, g2⟩ := (names_sh H).eq _ hr hN
    obtain ⟨e1, _⟩ := name_sh H (s := (next A s).2) (by omega) (by omega)
    simp only [nx, e1, er_node, PT.ers, g1, g2]
    exact ⟨trivial, trivial⟩
  | false =>
    cases k2 : isB A [(ByteArray.mk #[114, 101, 102, 101, 114, 101, 110, 99, 101])] s with
    | true =>
      simp only [part, b, k1, k2, if_true, if_false, Bool.false_eq_true] at hr hN ⊢
      have m1 := demand_md (A := A) (s := (name A (next A s).2).2) ((ByteArray.mk #[40]))
      generalize hd1 : (demand A ((ByteArray.mk #[40])) (name A (next A s).2).2) = d1 at *
      have m2 := (named_gd (A := A) (s := d1.2)).md
      generalize hc : named A d1.2 = c at *
      have m3 := demand_md (A := A) (s := c.2) ((ByteArray.mk #[41]))
      generalize hd2 : demand A ((ByteArray.mk #[41])) c.2 = d2 at *
      have m4 := demand_md (A := A) (s := d2.2) ((ByteArray.mk #[116, 111]))
      generalize hd3 : demand A ((ByteArray.mk #[116, 111])) d2.2 = d3 at *
      have m5 := (named_gd (A := A) (s := d3.2)).md
      generalize ht : named A d3.2 = t at *
      have m6 := (maybe_gd (A := A) (s := t.2) ((ByteArray.mk #[104, 105, 100, 101]))).md
      have w1 := m1.mono
      have w2 := m2.mono
      have w3 := m3.mono
      have w4 := m4.mono
      have w5 := m5.mono
      have w6 := m6.mono
      have v1 := m1.reps
      have v2 := m2.reps
      have v3 := m3.reps
      have v4 := m4.reps
      have v5 := m5.reps
      have v6 := m6.reps
      obtain ⟨z1, z2⟩ := (maybe_sh H ((ByteArray.mk #[104, 105, 100, 101]))).eq _ hr hN
      obtain ⟨y1, y2⟩ := (named_sh H).eq d3.2 (by rw [ht]; omega) (by rw [ht]; omega)
      obtain ⟨x1, _⟩ := demand_sh H (s := d2.2) ((ByteArray.mk #[116, 111])) (by rw [hd3]; omega) (by rw [hd3]; omega)
      obtain ⟨u1, _⟩ := demand_sh H (s := c.2) ((ByteArray.mk #[41])) (by rw [hd2]; omega) (by rw [hd2]; omega)
      obtain ⟨g1, g2⟩ := (named_sh H).eq d1.2 (by rw [hc]; omega) (by rw [hc]; omega)
      obtain ⟨f1, _⟩ := demand_sh H (s := (name A (next A s).2).2) ((ByteArray.mk #[40])) (by rw [hd1]; omega) (by rw [hd1]; omega)
      obtain ⟨e1, _⟩ := name_sh H (s := (next A s).2) (by omega) (by omega)
      rw [hd1] at f1
      rw [hc] at g1 g2
      rw [hd2] at u1
      rw [hd3] at x1
      rw [ht] at y1 y2
      simp only [nx, e1, f1, g1, g2, u1, x1, y1, y2, z1, z2, er_node, PT.ers]
      exact ⟨trivial, trivial⟩
    | false =>
      cases k3 : isB A [(ByteArray.mk #[99, 111, 117, 110, 116])] s with
      | true =>
        simp only [part, b, k1, k2, k3, if_true, if_false, Bool.false_eq_true] at hr hN ⊢
        have m1 := (names_gd (A := A) (name A (next A s).2).2).md
        have m2 := (bound_sh H (integer_sh H)).md (names A (name A (next A s).2).2).2
        have w1 := m1.mono
        have w2 := m2.mono
        have v1 := m1.reps
        have v2 := m2.reps
        obtain ⟨y1, y2⟩ := (bound_sh H (integer_sh H)).eq _ hr hN
        obtain ⟨g1, g2⟩ := (names_sh H).eq (name A (next A s).2).2 (by omega) (by omega)
        obtain ⟨e1, _⟩ := name_sh H (s := (next A s).2) (by omega) (by omega)
        simp only [nx, e1, g1, g2, y1, y2, er_node, PT.ers]
        exact ⟨trivial, trivial⟩
      | false =>
        cases k4 : isB A [(ByteArray.mk #[97, 99, 121, 99, 108, 105, 99])] s with
        | true =>
          simp only [part, b, k1, k2, k3, k4, if_true, if_false, Bool.false_eq_true] at hr hN ⊢
          obtain ⟨e1, _⟩ := name_sh H (s := (next A s).2) hr (Nat.le_of_lt hN)
          simp only [nx, e1, er_node, PT.ers]
          exact ⟨trivial, trivial⟩
        | false =>
          cases k5 : isB A [(ByteArray.mk #[97, 108, 108])] s with
          | true =>
            simp only [part, b, k1, k2, k3, k4, k5, if_true, if_false, Bool.false_eq_true] at hr hN ⊢
            have m1 := (columns_gd (A := A) (next A s).2).md
            have m2 := (total_gd (A := A) (columns A (next A s).2).2).md
            have m3 := (bound_sh H (integer_sh H)).md (total A (columns A (next A s).2).2).2
            have w1 := m1.mono
            have w2 := m2.mono
            have w3 := m3.mono
            have v1 := m1.reps
            have v2 := m2.reps
            have v3 := m3.reps
            obtain ⟨y1, y2⟩ := (bound_sh H (integer_sh H)).eq _ hr hN
            obtain ⟨g1, g2⟩ := (total_sh H).eq (columns A (next A s).2).2 (by omega) (by omega)
            obtain ⟨e1, e2⟩ := (columns_sh H).eq (next A s).2 (by omega) (by omega)
            simp only [nx, e1, e2, g1, g2, y1, y2, er_node, PT.ers]
            exact ⟨trivial, trivial⟩
          | false =>
            simp only [part, b, k1, k2, k3, k4, k5, if_true, if_false, Bool.false_eq_true] at hr
            exact (report_no _ _ hr).elim⟩
theorem parameter_sh : SimF A A' d N (parameter A) (parameter A') := ⟨fun s => (parameter_gd s).md, fun s hr hN => by
  unfold parameter at hr hN ⊢
  simp only at hr hN ⊢
  have hk : ∃ k : PT × Ps, (if isB A [(ByteArray.mk #[58])] (name A s).2 = true then named A (next A (name A s).2).2 else if isB A [(ByteArray.mk #[105, 110])] (name A s).2 = true then limits A (next A (name A s).2).2 else (missing 0 (report 4 ((ByteArray.mk #[58])) (name A s).2), report 4 ((ByteArray.mk #[58])) (name A s).2)) = k ∧ Md (name A s).2 k.2 ∧ (k.2.reps.length = 0 → k.2.at_ < N → ∃ k' : PT × Ps, (if isB A' [(ByteArray.mk #[58])] (sh d (name A s).2) = true then named A' (next A' (sh d (name A s).2)).2 else if isB A' [(ByteArray.mk #[105, 110])] (sh d (name A s).2) = true then limits A' (next A' (sh d (name A s).2)).2 else (missing 0 (report 4 ((ByteArray.mk #[58])) (sh d (name A s).2)), report 4 ((ByteArray.mk #[58])) (sh d (name A s).2))) = k' ∧ k'.1.er = k.1.er ∧ k'.2 = sh d k.2) := by
    refine ⟨_, rfl, ?_, ?_⟩
    · split
      · exact (next_md (A := A)).trans named_gd.md
      · split
        · exact (next_md (A := A)).trans (limits_gd _).md
        · exact report_md _ _
    · intro hr hN
      refine ⟨_, rfl, ?_⟩
      have hx : (next A (name A s).2).2.at_ = (name A s).2.at_ + 1 := rfl
      cases k1 : isB A [(ByteArray.mk #[58])] (name A s).2 with
      | true =>
        rw [k1, if_pos rfl] at hr hN
        have q := (named_gd (A := A) (s := (next A (name A s).2).2)).md.mono
        rw [isB_sh H _ (show (name A s).2.at_ < N by omega), k1, if_pos rfl, if_pos rfl, next_sh H (show (name A s).2.at_ < N by omega)]
        exact (named_sh H).eq _ hr hN
      | false =>
        rw [k1, if_neg (by simp)] at hr hN
        cases k2 : isB A [(ByteArray.mk #[105, 110])] (name A s).2 with
        | true =>
          rw [k2, if_pos rfl] at hr hN
          have q := (limits_gd (A := A) (next A (name A s).2).2).md.mono
          have hlt : (name A s).2.at_ < N := by omega
          have b := fun ws => isB_sh H (s := (name A s).2) ws hlt
          simp only [b, k1, k2, if_true, if_false, Bool.false_eq_true, next_sh H hlt]
          exact (limits_sh H).eq _ hr hN
        | false =>
          rw [k2, if_neg (by simp)] at hr
          exact (report_no _ _ hr).elim
  obtain ⟨k, ek, mk, hk2⟩ := hk
  rw [ek] at hr hN ⊢
  have q1 := mk.mono
  have q2 := mk.reps
  obtain ⟨k', ek', g1, g2⟩ := hk2 hr hN
  obtain ⟨e1, _⟩ := name_sh H (s := s) (by omega) (by omega)
  simp only [e1, ek', er_node, PT.ers, g1, g2]
  exact ⟨trivial, trivial⟩⟩
omit H in
theorem binMore_md {f : M PT} (h : ∀ s, Md s (f s).2) (ops : List ByteArray) (first : Nat) : ∀ (k : Nat) (n : PT) (s : Ps), Md s (binMore A f ops first k n s).2
  | 0, n, s => .refl _
  | k + 1, n, s => by
    rw [binMore]
    split
    · exact ((next_md (A := A)).trans (h _)).trans (binMore_md h ops first k _ _)
    · exact .refl _
theorem binMore_sh {K : Nat} {f f' : M PT} (h : SimK A A' d N K f f') (ops : List ByteArray) (first first' : Nat) : ∀ (k k' : Nat) (n n' : PT) (s : Ps), K ≤ s.at_ → n'.er = n.er → A.length ≤ s.at_ + k → A'.length ≤ s.at_ + d + k' → (binMore A f ops first k n s).2.reps.length = 0 → (binMore A f ops first k n s).2.at_ < N → (binMore A' f' ops first' k' n' (sh d s)).1.er = (binMore A f ops first k n s).1.er ∧ (binMore A' f' ops first' k' n' (sh d s)).2 = sh d (binMore A f ops first k n s).2
  | k, k', n, n', s, hK, hn, ha, ha', hr, hN => by
    have hN2 : s.at_ < N := Nat.lt_of_le_of_lt (binMore_md h.md ops first k n s).mono hN
    have hb := isB_sh H ops hN2
    cases hc : isB A ops s with
    | false =>
      have e1 : binMore A f ops first k n s = (n, s) := by
        cases k with
        | zero => rfl
        | succ k => rw [binMore, if_neg (by rw [hc]; simp)]
      have e2 : binMore A' f' ops first' k' n' (sh d s) = (n', sh d s) := by
        cases k' with
        | zero => rfl
        | succ k' => rw [binMore, if_neg (by rw [hb, hc]; simp)]
      rw [e1, e2]
      exact ⟨hn, rfl⟩
    | true =>
      rw [hc] at hb
      have n1 : 0 < k := by
        rcases Nat.eq_zero_or_pos k with h0 | h0
        · rw [isB_far _ (by omega)] at hc; cases hc
        · exact h0
      have n2 : 0 < k' := by
        rcases Nat.eq_zero_or_pos k' with h0 | h0
        · rw [isB_far (s := sh d s) _ (by show _ ≤ s.at_ + d; omega)] at hb; cases hb
        · exact h0
      obtain ⟨k, rfl⟩ : ∃ j, k = j + 1 := ⟨k - 1, by omega⟩
      obtain ⟨k', rfl⟩ : ∃ j, k' = j + 1 := ⟨k' - 1, by omega⟩
      have eA : binMore A f ops first (k + 1) n s = binMore A f ops first k (node 40 first (next A s).1 [n, (f (next A s).2).1] (f (next A s).2).2) (f (next A s).2).2 := by rw [binMore, if_pos hc]
      have eA' : binMore A' f' ops first' (k' + 1) n' (sh d s) = binMore A' f' ops first' k' (node 40 first' (next A s).1 [n', (f' (sh d (next A s).2)).1] (f' (sh d (next A s).2)).2) (f' (sh d (next A s).2)).2 := by rw [binMore, if_pos hb, next_sh H hN2]
      rw [eA] at hr hN ⊢
      rw [eA']
      have m := binMore_md (A := A) h.md ops first k (node 40 first (next A s).1 [n, (f (next A s).2).1] (f (next A s).2).2) (f (next A s).2).2
      have m1 := m.mono
      have m2 := m.reps
      have m3 := (h.md (next A s).2).mono
      have hx : (next A s).2.at_ = s.at_ + 1 := rfl
      obtain ⟨g1, g2⟩ := h.eq (next A s).2 (by omega) (by omega) (by omega)
      rw [g2]
      exact binMore_sh h ops first first' k k' _ _ _ (by omega) (by simp only [er_node, PT.ers, hn, g1]) (by omega) (by omega) hr hN
theorem binary_sh {K : Nat} {f f' : M PT} (h : SimK A A' d N K f f') (ops : List ByteArray) : SimK A A' d N K (binary A f ops) (binary A' f' ops) := ⟨fun s => (h.md s).trans (binMore_md h.md ops _ _ _ _), fun s hK hr hN => by
  have hr' : (binMore A f ops s.at_ A.length (f s).1 (f s).2).2.reps.length = 0 := hr
  have hN' : (binMore A f ops s.at_ A.length (f s).1 (f s).2).2.at_ < N := hN
  have m := binMore_md (A := A) h.md ops s.at_ A.length (f s).1 (f s).2
  have q1 := m.mono
  have q2 := m.reps
  have q3 := (h.md s).mono
  obtain ⟨g1, g2⟩ := h.eq s hK (by omega) (by omega)
  have := binMore_sh H h ops s.at_ (sh d s).at_ A.length A'.length (f s).1 (f' (sh d s)).1 (f s).2 (by omega) g1 (by omega) (by omega) hr' hN'
  unfold binary
  rw [g2]
  exact this⟩
theorem primary_sh {K : Nat} {ex ex' : M PT} (h : SimK A A' d N (K + 1) ex ex') : SimK A A' d N K (primary A ex) (primary A' ex') := ⟨fun s => by
  unfold primary
  split
  · exact number_gd.md
  · split
    · exact named_gd.md
    · split
      · exact ((next_md (A := A)).trans (h.md _)).trans (demand_md _)
      · exact report_md _ _, fun s hK hr hN => by
  have hx : (next A s).2.at_ = s.at_ + 1 := rfl
  by_cases k1 : (tok A s).kind = 3
  · simp only [primary, k1, if_true] at hr hN ⊢
    have hN2 : s.at_ < N := Nat.lt_of_le_of_lt (number_gd (A := A) (s := s)).md.mono hN
    rw [tok_sh H hN2, if_pos k1]
    exact (number_sh H).eq s hr hN
  · by_cases k2 : (tok A s).kind = 1
    · simp only [primary, k1, k2, if_true, if_false] at hr hN ⊢
      have e : ¬ ((1 : Nat) = 3) := by decide
      rw [if_neg e] at hr hN ⊢
      have hN2 : s.at_ < N := Nat.lt_of_le_of_lt (named_gd (A := A) (s := s)).md.mono hN
      rw [tok_sh H hN2, if_neg k1, if_pos k2]
      exact (named_sh H).eq s hr hN
    · cases k3 : isB A [(ByteArray.mk #[40])] s with
      | true =>
        simp only [primary, k1, k2, k3, if_true, if_false] at hr hN ⊢
        have m1 := (h.md (next A s).2).mono
        have m2 := demand_md (A := A) (s := (ex (next A s).2).2) ((ByteArray.mk #[41]))
        have q1 := m2.mono
        have q2 := m2.reps
        obtain ⟨f1, _, f3⟩ := demand_sh H (s := (ex (next A s).2).2) ((ByteArray.mk #[41])) hr (Nat.le_of_lt hN)
        obtain ⟨g1, g2⟩ := h.eq (next A s).2 (by omega) (by omega) (by omega)
        have hN2 : s.at_ < N := by omega
        rw [tok_sh H hN2, if_neg k1, if_neg k2, isB_sh H _ hN2, k3, if_pos rfl, next_sh H hN2]
        simp only [g2, f1]
        exact ⟨g1, trivial⟩
      | false =>
        simp only [primary, k1, k2, k3, if_true, if_false, Bool.false_eq_true] at hr
        exact (report_no _ _ hr).elim⟩
omit H in
theorem pre_md (w : ByteArray) {f : M PT} (h : ∀ s, Md s (f s).2) : ∀ (n : Nat) (s : Ps), Md s (pre A w f n s).2
  | 0, s => h s
  | n + 1, s => by
    rw [pre]
    split
    · exact (next_md (A := A)).trans (pre_md w h n _)
    · exact h s
theorem pre_sh {K : Nat} (w : ByteArray) {f f' : M PT} (h : SimK A A' d N K f f') : ∀ (n n' : Nat) (s : Ps), K ≤ s.at_ → A.length ≤ s.at_ + n → A'.length ≤ s.at_ + d + n' → (pre A w f n s).2.reps.length = 0 → (pre A w f n s).2.at_ < N → (pre A' w f' n' (sh d s)).1.er = (pre A w f n s).1.er ∧ (pre A' w f' n' (sh d s)).2 = sh d (pre A w f n s).2
  | n, n', s, hK, ha, ha', hr, hN => by
    have hN2 : s.at_ < N := Nat.lt_of_le_of_lt (pre_md w h.md n s).mono hN
    have hb := isB_sh H [w] hN2
    cases hc : isB A [w] s with
    | false =>
      have e1 : pre A w f n s = f s := by
        cases n with
        | zero => rfl
        | succ n => rw [pre, if_neg (by rw [hc]; simp)]
      have e2 : pre A' w f' n' (sh d s) = f' (sh d s) := by
        cases n' with
        | zero => rfl
        | succ n' => rw [pre, if_neg (by rw [hb, hc]; simp)]
      rw [e1] at hr hN ⊢
      rw [e2]
      exact h.eq s hK hr hN
    | true =>
      rw [hc] at hb
      have n1 : 0 < n := by
        rcases Nat.eq_zero_or_pos n with h0 | h0
        · rw [isB_far _ (by omega)] at hc; cases hc
        · exact h0
      have n2 : 0 < n' := by
        rcases Nat.eq_zero_or_pos n' with h0 | h0
        · rw [isB_far (s := sh d s) _ (by show _ ≤ s.at_ + d; omega)] at hb; cases hb
        · exact h0
      obtain ⟨n, rfl⟩ : ∃ j, n = j + 1 := ⟨n - 1, by omega⟩
      obtain ⟨n', rfl⟩ : ∃ j, n' = j + 1 := ⟨n' - 1, by omega⟩
      have eA : pre A w f (n + 1) s = (node 39 s.at_ (next A s).1 [(pre A w f n (next A s).2).1] (pre A w f n (next A s).2).2, (pre A w f n (next A s).2).2) := by rw [pre, if_pos hc]
      have eA' : pre A' w f' (n' + 1) (sh d s) = (node 39 (sh d s).at_ (next A s).1 [(pre A' w f' n' (sh d (next A s).2)).1] (pre A' w f' n' (sh d (next A s).2)).2, (pre A' w f' n' (sh d (next A s).2)).2) := by rw [pre, if_pos hb, next_sh H hN2]
      rw [eA] at hr hN ⊢
      rw [eA']
      have hx : (next A s).2.at_ = s.at_ + 1 := rfl
      obtain ⟨g1, g2⟩ := pre_sh w h n n' (next A s).2 (by omega) (by omega) (by omega) hr hN
      simp only [er_node, PT.ers, g1, g2]
      exact ⟨trivial, trivial⟩
theorem pre_sh' {K : Nat} (w : ByteArray) {f f' : M PT} (h : SimK A A' d N K f f') : SimK A A' d N K (pre A w f A.length) (pre A' w f' A'.length) := ⟨pre_md w h.md _, fun s hK hr hN => pre_sh H w h _ _ s hK (by omega) (by omega) hr hN⟩
theorem product_sh {K : Nat} {ex ex' : M PT} (h : SimK A A' d N (K + 1) ex ex') : SimK A A' d N K (product A ex) (product A' ex') := binary_sh H (pre_sh' H _ (primary_sh H h)) _
theorem difference_sh {K : Nat} {ex ex' : M PT} (h : SimK A A' d N (K + 1) ex ex') : SimK A A' d N K (difference A ex) (difference A' ex') := binary_sh H (product_sh H h) _
theorem comparison_sh {K : Nat} {ex ex' : M PT} (h : SimK A A' d N (K + 1) ex ex') : SimK A A' d N K (comparison A ex) (comparison A' ex') := by
  have hD := difference_sh H h
  refine ⟨fun s => ?_, fun s hK hr hN => ?_⟩
  · unfold comparison
    simp only
    split
    · exact ((hD.md s).trans (next_md (A := A))).trans (hD.md _)
    · exact hD.md s
  · cases hc : isB A cmpWords (difference A ex s).2 with
    | true =>
      have eA : comparison A ex s = (node 40 s.at_ (next A (difference A ex s).2).1 [(difference A ex s).1, (difference A ex (next A (difference A ex s).2).2).1] (difference A ex (next A (difference A ex s).2).2).2, (difference A ex (next A (difference A ex s).2).2).2) := by
        unfold comparison
        simp only [hc]
        rfl
      rw [eA] at hr hN ⊢
      simp only at hr hN
      have m1 := (hD.md s).mono
      have m2 := hD.md (next A (difference A ex s).2).2
      have q1 := m2.mono
      have q2 := m2.reps
      have hx : (next A (difference A ex s).2).2.at_ = (difference A ex s).2.at_ + 1 := rfl
      have hx2 : (next A (difference A ex s).2).2.reps = (difference A ex s).2.reps := rfl
      rw [hx2] at q2
      obtain ⟨g1, g2⟩ := hD.eq s hK (by omega) (by omega)
      obtain ⟨k1, k2⟩ := hD.eq (next A (difference A ex s).2).2 (by omega) hr hN
      have hb := isB_sh H (s := (difference A ex s).2) cmpWords (by omega)
      rw [hc] at hb
      have eB : comparison A' ex' (sh d s) = (node 40 (sh d s).at_ (next A (difference A ex s).2).1 [(difference A' ex' (sh d s)).1, (difference A' ex' (sh d (next A (difference A ex s).2).2)).1] (difference A' ex' (sh d (next A (difference A ex s).2).2)).2, (difference A' ex' (sh d (next A (difference A ex s).2).2)).2) := by
        unfold comparison
        simp only [g2, hb, next_sh H (show (difference A ex s).2.at_ < N by omega)]
        rfl
      rw [eB]
      simp only [er_node, PT.ers, g1, k1, k2]
      exact ⟨trivial, trivial⟩
    | false =>
      have eA : comparison A ex s = difference A ex s := by
        unfold comparison
        simp only [hc]
        rfl
      rw [eA] at hr hN ⊢
      obtain ⟨g1, g2⟩ := hD.eq s hK hr hN
      have hb := isB_sh H (s := (difference A ex s).2) cmpWords hN
      rw [hc] at hb
      have eB : comparison A' ex' (sh d s) = difference A' ex' (sh d s) := by
        unfold comparison
        simp only
        rw [if_neg (by rw [g2, hb]; simp)]
      rw [eB]
      exact ⟨g1, g2⟩
theorem negation_sh {K : Nat} {ex ex' : M PT} (h : SimK A A' d N (K + 1) ex ex') : SimK A A' d N K (negation A ex) (negation A' ex') := pre_sh' H _ (comparison_sh H h)
theorem conjunction_sh {K : Nat} {ex ex' : M PT} (h : SimK A A' d N (K + 1) ex ex') : SimK A A' d N K (conjunction A ex) (conjunction A' ex') := binary_sh H (negation_sh H h) _
theorem expr_sh : ∀ (n n' K : Nat), A.length < K + n → A'.length < K + d + n' → SimK A A' d N K (expr A n) (expr A' n')
  | 0, n', K, h, h' => ⟨fun s => .refl _, fun s hK hr hN => by
    have h1 : s.at_ < N := hN
    have := H.le
    omega⟩
  | n + 1, 0, K, h, h' => ⟨fun s => (expr_gd (n + 1) s).md, fun s hK hr hN => by
    have h1 := Nat.lt_of_le_of_lt (expr_gd (A := A) (n + 1) s).md.mono hN
    have := H.le'
    omega⟩
  | n + 1, n' + 1, K, h, h' => binary_sh H (conjunction_sh H (expr_sh n n' (K + 1) (by omega) (by omega))) _
theorem expression_sh : SimF A A' d N (expression A) (expression A') := (expr_sh H (A.length + 1) (A'.length + 1) 0 (by omega) (by omega)).f
end
end Go.Proofs.YthggagophcnkfaaGreatDoor.px
namespace Go.Proofs.YthggagophcnkfaaGreatDoor.px
open Go.RowKit Go.Proofs.YthggagophcnkfaaGreatDoor.agg Go.Proofs.YthggagophcnkfaaGreatDoor.sx
set_option linter.unusedSimpArgs false
set_option linter.unusedVariables false

/-- The same of statements: from a token on, ahead of the end. -/
structure SimS (A A' : List Tk) (d N K : Nat) (f f' : M PT) : Prop where
  md : ∀ s, Md s (f s).2
  prog : ∀ s, K ≤ s.at_ → atEnd A s = false → s.at_ + 1 ≤ (f s).2.at_
  eq : ∀ s, K ≤ s.at_ → atEnd A s = false → (f s).2.reps.length = 0 → (f s).2.at_ < N → (f' (sh d s)).1.er = (f s).1.er ∧ (f' (sh d s)).2 = sh d (f s).2
/-- What stands behind the word of a statement. -/
def sbody (A : List Tk) (w : ByteArray × Ps) : (Int × List PT) × Ps :=
  if w.1 = (ByteArray.mk #[114, 101, 113, 117, 105, 114, 101]) then let e := expression A w.2; ((26, [e.1]), e.2)
  else if w.1 = (ByteArray.mk #[104, 111, 108, 100]) then let t := total A w.2; let b := bound A (expression A) t.2; ((27, [t.1, b.1]), b.2)
  else if w.1 = (ByteArray.mk #[105, 110, 115, 101, 114, 116]) then let c := cell A w.2; ((28, [c.1]), c.2)
  else if w.1 = (ByteArray.mk #[100, 101, 108, 101, 116, 101]) then let c := cell A w.2; ((29, [c.1]), c.2)
  else if w.1 = (ByteArray.mk #[112, 117, 116]) then let c := cell A w.2; ((31, [c.1]), c.2)
  else if w.1 = (ByteArray.mk #[100, 114, 111, 112]) then let c := cell A w.2; ((32, [c.1]), c.2)
  else if w.1 = (ByteArray.mk #[97, 100, 100]) then let e := expression A w.2; let d := demand A ((ByteArray.mk #[116, 111])) e.2; let c := cell A d.2; ((30, [e.1, c.1]), c.2)
  else let c := cell A w.2; let d := demand A ((ByteArray.mk #[61])) c.2; let e := expression A d.2; ((33, [c.1, e.1]), e.2)
/-- What stands behind the name of a declaration. -/
def dbody (A : List Tk) (x : ByteArray) (n : Ps) : (Int × List PT) × Ps :=
  if x = (ByteArray.mk #[115, 111, 114, 116]) then let k := number A n; ((3, [k.1]), k.2)
  else if x = (ByteArray.mk #[114, 101, 108, 97, 116, 105, 111, 110]) then let c := columns A n; ((4, [c.1]), c.2)
  else if x = (ByteArray.mk #[99, 111, 117, 110, 116, 101, 114]) then let c := columns A n; let d := demand A ((ByteArray.mk #[105, 110])) c.2; let l := limits A d.2; ((5, [c.1, l.1]), l.2)
  else if x = (ByteArray.mk #[115, 101, 116]) then let c := columns A n; let h := chosen A [(ByteArray.mk #[97, 100, 100, 119, 105, 110, 115]), (ByteArray.mk #[114, 101, 109, 111, 118, 101, 119, 105, 110, 115])] c.2; ((6, [c.1, h.1]), h.2)
  else if x = (ByteArray.mk #[114, 101, 103, 105, 115, 116, 101, 114]) then let c := columns A n; let d := demand A ((ByteArray.mk #[105, 110])) c.2; let l := limits A d.2; let h := chosen A [(ByteArray.mk #[108, 97, 115, 116]), (ByteArray.mk #[109, 117, 108, 116, 105])] l.2; ((7, [c.1, l.1, h.1]), h.2)
  else let d := demand A ((ByteArray.mk #[58])) n; let p := part A d.2; ((8, [p.1]), p.2)
/-- A statement of one word. -/
def sfor (A : List Tk) (st : M PT) (s : Ps) : PT × Ps :=
  let c := column A (next A s).2
  let e : PT × Ps := if isB A [(ByteArray.mk #[119, 104, 101, 114, 101])] c.2 then expression A (next A c.2).2 else (missing 1 c.2, c.2)
  let b := block A st e.2
  (node 34 s.at_ ⟨#[]⟩ [c.1, e.1, b.1] b.2, b.2)
section
variable {A A' : List Tk} {d N : Nat}
theorem stmt_eq (n : Nat) (s : Ps) : stmt A (n + 1) s = if states A s = false then skipped A s else if (next A s).1 = (ByteArray.mk #[102, 111, 114]) then sfor A (stmt A n) s else (node (sbody A (next A s)).1.1 s.at_ ⟨#[]⟩ (sbody A (next A s)).1.2 (demand A ((ByteArray.mk #[59])) (sbody A (next A s)).2).2, (demand A ((ByteArray.mk #[59])) (sbody A (next A s)).2).2) := by
  rw [stmt]
  rfl
theorem declaration_eq (s : Ps) : declaration A s = if declares A s = false then (let s2 := skipDecl A A.length (next A (report 7 ⟨#[]⟩ s)).2; (node 0 s.at_ ⟨#[]⟩ [] s2, s2))
    else if (next A s).1 = (ByteArray.mk #[111, 112, 101, 114, 97, 116, 105, 111, 110]) then (let n := name A (next A s).2; let p := list1 A 23 (parameter A) n.2; let o := maybe A ((ByteArray.mk #[111, 114, 100, 101, 114, 101, 100])) p.2; let b := block A (statement A) o.2; (node 9 s.at_ n.1 [p.1, o.1, b.1] b.2, b.2))
    else (node (dbody A (next A s).1 (name A (next A s).2).2).1.1 s.at_ (name A (next A s).2).1 (dbody A (next A s).1 (name A (next A s).2).2).1.2 (demand A ((ByteArray.mk #[59])) (dbody A (next A s).1 (name A (next A s).2).2).2).2, (demand A ((ByteArray.mk #[59])) (dbody A (next A s).1 (name A (next A s).2).2).2).2) := by
  rfl
theorem sbody_md (w : ByteArray × Ps) : Md w.2 (sbody A w).2 := by
  have hB : ∀ s, Md s (bound A (expression A) s).2 := fun s => (bound_gd expression_gd s).md
  unfold sbody
  split
  · exact (expression_gd _).md
  · split
    · exact (total_gd _).md.trans (hB _)
    · split
      · exact (cell_gd _).md
      · split
        · exact (cell_gd _).md
        · split
          · exact (cell_gd _).md
          · split
            · exact (cell_gd _).md
            · split
              · exact ((expression_gd _).md.trans (demand_md _)).trans (cell_gd _).md
              · exact ((cell_gd _).md.trans (demand_md _)).trans (expression_gd _).md
theorem dbody_md (x : ByteArray) (n : Ps) : Md n (dbody A x n).2 := by
  unfold dbody
  split
  · exact number_gd.md
  · split
    · exact (columns_gd _).md
    · split
      · exact ((columns_gd _).md.trans (demand_md _)).trans (limits_gd _).md
      · split
        · exact (columns_gd _).md.trans (chosen_gd _).md
        · split
          · exact (((columns_gd _).md.trans (demand_md _)).trans (limits_gd _).md).trans (chosen_gd _).md
          · exact (demand_md _).trans (part_gd _).md
theorem stmts_md {st : M PT} (h : ∀ s, Md s (st s).2) : ∀ (k : Nat) (ks : List PT) (s : Ps), Md s (stmts A st k ks s).2
  | 0, ks, s => .refl _
  | k + 1, ks, s => by
    rw [stmts]
    split
    · exact .refl _
    · exact (h s).trans (stmts_md h k _ _)
theorem block_md {st : M PT} (h : ∀ s, Md s (st s).2) (s : Ps) : Md s (block A st s).2 := by
  unfold block
  simp only
  split
  · exact ((demand_md _).trans (stmts_md h _ _ _)).trans (demand_md _)
  · exact demand_md _
theorem sfor_md {st : M PT} (h : ∀ s, Md s (st s).2) (s : Ps) : Md (next A s).2 (sfor A st s).2 := by
  unfold sfor
  simp only
  refine ((column_gd (A := A) _).md.trans ?_).trans (block_md h _)
  split
  · exact (next_md (A := A)).trans (expression_gd (A := A) _).md
  · exact .refl _
theorem stmt_md : ∀ (n : Nat) (s : Ps), Md s (stmt A n s).2
  | 0, s => .refl _
  | n + 1, s => by
    rw [stmt_eq]
    split
    · exact (skipped_gd s).md
    · split
      · exact (next_md (A := A)).trans (sfor_md (stmt_md n) s)
      · exact ((next_md (A := A)).trans (sbody_md _)).trans (demand_md _)
variable (H : Win A A' d N)
include H
theorem sbody_sh (w : ByteArray × Ps) (hr : (sbody A w).2.reps.length = 0) (hN : (sbody A w).2.at_ < N) : (sbody A' (w.1, sh d w.2)).1.1 = (sbody A w).1.1 ∧ PT.ers (sbody A' (w.1, sh d w.2)).1.2 = PT.ers (sbody A w).1.2 ∧ (sbody A' (w.1, sh d w.2)).2 = sh d (sbody A w).2 := by
  have hE := expression_sh H
  have hB := bound_sh H hE
  have hC := cell_sh H
  by_cases k1 : w.1 = (ByteArray.mk #[114, 101, 113, 117, 105, 114, 101])
  · simp only [sbody, k1, if_true] at hr hN ⊢
    obtain ⟨g1, g2⟩ := hE.eq _ hr hN
    exact ⟨trivial, by simp only [PT.ers, g1], g2⟩
  · by_cases k2 : w.1 = (ByteArray.mk #[104, 111, 108, 100])
    · simp only [sbody, if_neg k1, if_pos k2] at hr hN ⊢
      have m := hB.md (total A w.2).2
      have q1 := m.mono
      have q2 := m.reps
      obtain ⟨g1, g2⟩ := hB.eq _ hr hN
      obtain ⟨e1, e2⟩ := (total_sh H).eq w.2 (by omega) (by omega)
      exact ⟨trivial, by simp only [PT.ers, e1, e2, g1], by simp only [e2, g2]⟩
    · by_cases k3 : w.1 = (ByteArray.mk #[105, 110, 115, 101, 114, 116])
      · simp only [sbody, if_neg k1, if_neg k2, if_pos k3] at hr hN ⊢
        obtain ⟨g1, g2⟩ := hC.eq _ hr hN
        exact ⟨trivial, by simp only [PT.ers, g1], g2⟩
      · by_cases k4 : w.1 = (ByteArray.mk #[100, 101, 108, 101, 116, 101])
        · simp only [sbody, if_neg k1, if_neg k2, if_neg k3, if_pos k4] at hr hN ⊢
          obtain ⟨g1, g2⟩ := hC.eq _ hr hN
          exact ⟨trivial, by simp only [PT.ers, g1], g2⟩
        · by_cases k5 : w.1 = (ByteArray.mk #[112, 117, 116])
          · simp only [sbody, if_neg k1, if_neg k2, if_neg k3, if_neg k4, if_pos k5] at hr hN ⊢
            obtain ⟨g1, g2⟩ := hC.eq _ hr hN
            exact ⟨trivial, by simp only [PT.ers, g1], g2⟩
          · by_cases k6 : w.1 = (ByteArray.mk #[100, 114, 111, 112])
            · simp only [sbody, if_neg k1, if_neg k2, if_neg k3, if_neg k4, if_neg k5, if_pos k6] at hr hN ⊢
              obtain ⟨g1, g2⟩ := hC.eq _ hr hN
              exact ⟨trivial, by simp only [PT.ers, g1], g2⟩
            · by_cases k7 : w.1 = (ByteArray.mk #[97, 100, 100])
              · simp only [sbody, if_neg k1, if_neg k2, if_neg k3, if_neg k4, if_neg k5, if_neg k6, if_pos k7] at hr hN ⊢
                have m1 := demand_md (A := A) (s := (expression A w.2).2) ((ByteArray.mk #[116, 111]))
                have m2 := hC.md (demand A ((ByteArray.mk #[116, 111])) (expression A w.2).2).2
                have q1 := m1.mono
                have q2 := m1.reps
                have q3 := m2.mono
                have q4 := m2.reps
                obtain ⟨g1, g2⟩ := hC.eq _ hr hN
                obtain ⟨f1, _⟩ := demand_sh H (s := (expression A w.2).2) ((ByteArray.mk #[116, 111])) (by omega) (by omega)
                obtain ⟨e1, e2⟩ := hE.eq w.2 (by omega) (by omega)
                exact ⟨trivial, by simp only [PT.ers, e1, e2, f1, g1], by simp only [e2, f1, g2]⟩
              · simp only [sbody, if_neg k1, if_neg k2, if_neg k3, if_neg k4, if_neg k5, if_neg k6, if_neg k7] at hr hN ⊢
                have m1 := demand_md (A := A) (s := (cell A w.2).2) ((ByteArray.mk #[61]))
                have m2 := hE.md (demand A ((ByteArray.mk #[61])) (cell A w.2).2).2
                have q1 := m1.mono
                have q2 := m1.reps
                have q3 := m2.mono
                have q4 := m2.reps
                obtain ⟨g1, g2⟩ := hE.eq _ hr hN
                obtain ⟨f1, _⟩ := demand_sh H (s := (cell A w.2).2) ((ByteArray.mk #[61])) (by omega) (by omega)
                obtain ⟨e1, e2⟩ := hC.eq w.2 (by omega) (by omega)
                exact ⟨trivial, by simp only [PT.ers, e1, e2, f1, g1], by simp only [e2, f1, g2]⟩
theorem dbody_sh (x : ByteArray) (n : Ps) (hr : (dbody A x n).2.reps.length = 0) (hN : (dbody A x n).2.at_ < N) : (dbody A' x (sh d n)).1.1 = (dbody A x n).1.1 ∧ PT.ers (dbody A' x (sh d n)).1.2 = PT.ers (dbody A x n).1.2 ∧ (dbody A' x (sh d n)).2 = sh d (dbody A x n).2 := by
  have hC := columns_sh H
  have hL := limits_sh H
  by_cases k1 : x = (ByteArray.mk #[115, 111, 114, 116])
  · simp only [dbody, if_pos k1] at hr hN ⊢
    obtain ⟨g1, g2⟩ := (number_sh H).eq _ hr hN
    exact ⟨trivial, by simp only [PT.ers, g1], g2⟩
  · by_cases k2 : x = (ByteArray.mk #[114, 101, 108, 97, 116, 105, 111, 110])
    · simp only [dbody, if_neg k1, if_pos k2] at hr hN ⊢
      obtain ⟨g1, g2⟩ := hC.eq _ hr hN
      exact ⟨trivial, by simp only [PT.ers, g1], g2⟩
    · by_cases k3 : x = (ByteArray.mk #[99, 111, 117, 110, 116, 101, 114])
      · simp only [dbody, if_neg k1, if_neg k2, if_pos k3] at hr hN ⊢
        have m1 := demand_md (A := A) (s := (columns A n).2) ((ByteArray.mk #[105, 110]))
        have m2 := hL.md (demand A ((ByteArray.mk #[105, 110])) (columns A n).2).2
        have q1 := m1.mono
        have q2 := m1.reps
        have q3 := m2.mono
        have q4 := m2.reps
        obtain ⟨g1, g2⟩ := hL.eq _ hr hN
        obtain ⟨f1, _⟩ := demand_sh H (s := (columns A n).2) ((ByteArray.mk #[105, 110])) (by omega) (by omega)
        obtain ⟨e1, e2⟩ := hC.eq n (by omega) (by omega)
        exact ⟨trivial, by simp only [PT.ers, e1, e2, f1, g1], by simp only [e2, f1, g2]⟩
      · by_cases k4 : x = (ByteArray.mk #[115, 101, 116])
        · simp only [dbody, if_neg k1, if_neg k2, if_neg k3, if_pos k4] at hr hN ⊢
          have m1 := (chosen_sh H [(ByteArray.mk #[97, 100, 100, 119, 105, 110, 115]), (ByteArray.mk #[114, 101, 109, 111, 118, 101, 119, 105, 110, 115])]).md (columns A n).2
          have q1 := m1.mono
          have q2 := m1.reps
          obtain ⟨g1, g2⟩ := (chosen_sh H [(ByteArray.mk #[97, 100, 100, 119, 105, 110, 115]), (ByteArray.mk #[114, 101, 109, 111, 118, 101, 119, 105, 110, 115])]).eq _ hr hN
          obtain ⟨e1, e2⟩ := hC.eq n (by omega) (by omega)
          exact ⟨trivial, by simp only [PT.ers, e1, e2, g1], by simp only [e2, g2]⟩
        · by_cases k5 : x = (ByteArray.mk #[114, 101, 103, 105, 115, 116, 101, 114])
          · simp only [dbody, if_neg k1, if_neg k2, if_neg k3, if_neg k4, if_pos k5] at hr hN ⊢
            have m1 := demand_md (A := A) (s := (columns A n).2) ((ByteArray.mk #[105, 110]))
            have m2 := hL.md (demand A ((ByteArray.mk #[105, 110])) (columns A n).2).2
            have m3 := (chosen_sh H [(ByteArray.mk #[108, 97, 115, 116]), (ByteArray.mk #[109, 117, 108, 116, 105])]).md (limits A (demand A ((ByteArray.mk #[105, 110])) (columns A n).2).2).2
            have q1 := m1.mono
            have q2 := m1.reps
            have q3 := m2.mono
            have q4 := m2.reps
            have q5 := m3.mono
            have q6 := m3.reps
            obtain ⟨h1, h2⟩ := (chosen_sh H [(ByteArray.mk #[108, 97, 115, 116]), (ByteArray.mk #[109, 117, 108, 116, 105])]).eq _ hr hN
            obtain ⟨g1, g2⟩ := hL.eq (demand A ((ByteArray.mk #[105, 110])) (columns A n).2).2 (by omega) (by omega)
            obtain ⟨f1, _⟩ := demand_sh H (s := (columns A n).2) ((ByteArray.mk #[105, 110])) (by omega) (by omega)
            obtain ⟨e1, e2⟩ := hC.eq n (by omega) (by omega)
            exact ⟨trivial, by simp only [PT.ers, e1, e2, f1, g1, g2, h1], by simp only [e2, f1, g2, h2]⟩
          · simp only [dbody, if_neg k1, if_neg k2, if_neg k3, if_neg k4, if_neg k5] at hr hN ⊢
            have m2 := (part_sh H).md (demand A ((ByteArray.mk #[58])) n).2
            have q3 := m2.mono
            have q4 := m2.reps
            obtain ⟨g1, g2⟩ := (part_sh H).eq _ hr hN
            obtain ⟨f1, _⟩ := demand_sh H (s := n) ((ByteArray.mk #[58])) (by omega) (by omega)
            exact ⟨trivial, by simp only [PT.ers, f1, g1], by simp only [f1, g2]⟩
theorem stmts_sh {K : Nat} {st st' : M PT} (h : SimS A A' d N K st st') : ∀ (k k' : Nat) (ks ks' : List PT) (s : Ps), K ≤ s.at_ → PT.ers ks' = PT.ers ks → A.length ≤ s.at_ + k → A'.length ≤ s.at_ + d + k' → (stmts A st k ks s).2.reps.length = 0 → (stmts A st k ks s).2.at_ < N → PT.ers (stmts A' st' k' ks' (sh d s)).1 = PT.ers (stmts A st k ks s).1 ∧ (stmts A' st' k' ks' (sh d s)).2 = sh d (stmts A st k ks s).2
  | k, k', ks, ks', s, hK, hk, ha, ha', hr, hN => by
    have hN2 : s.at_ < N := Nat.lt_of_le_of_lt (stmts_md h.md k ks s).mono hN
    have hb : (isB A' [(ByteArray.mk #[125])] (sh d s) || declares A' (sh d s) || atEnd A' (sh d s)) = (isB A [(ByteArray.mk #[125])] s || declares A s || atEnd A s) := by
      unfold declares
      rw [isB_sh H _ hN2, isB_sh H _ hN2, atEnd_sh H hN2]
    cases hc : (isB A [(ByteArray.mk #[125])] s || declares A s || atEnd A s) with
    | true =>
      have e1 : stmts A st k ks s = (ks, s) := by
        cases k with
        | zero => rfl
        | succ k => rw [stmts, if_pos hc]
      have e2 : stmts A' st' k' ks' (sh d s) = (ks', sh d s) := by
        cases k' with
        | zero => rfl
        | succ k' => rw [stmts, if_pos (hb.trans hc)]
      rw [e1, e2]
      exact ⟨hk, rfl⟩
    | false =>
      have he : atEnd A s = false := by
        cases e : atEnd A s with
        | false => rfl
        | true => rw [e] at hc; simp at hc
      have n1 : 0 < k := by
        rcases Nat.eq_zero_or_pos k with h0 | h0
        · rw [atEnd_beyond (by omega)] at he; cases he
        · exact h0
      have n2 : 0 < k' := by
        rcases Nat.eq_zero_or_pos k' with h0 | h0
        · have := atEnd_sh H hN2
          rw [atEnd_beyond (s := sh d s) (by show _ ≤ s.at_ + d; omega), he] at this
          cases this
        · exact h0
      obtain ⟨k, rfl⟩ : ∃ j, k = j + 1 := ⟨k - 1, by omega⟩
      obtain ⟨k', rfl⟩ : ∃ j, k' = j + 1 := ⟨k' - 1, by omega⟩
      have eA : stmts A st (k + 1) ks s = stmts A st k (ks ++ [(st s).1]) (st s).2 := by rw [stmts, if_neg (by rw [hc]; simp)]
      have eA' : stmts A' st' (k' + 1) ks' (sh d s) = stmts A' st' k' (ks' ++ [(st' (sh d s)).1]) (st' (sh d s)).2 := by rw [stmts, if_neg (by rw [hb, hc]; simp)]
      rw [eA] at hr hN ⊢
      rw [eA']
      have m := stmts_md (A := A) h.md k (ks ++ [(st s).1]) (st s).2
      have m1 := m.mono
      have m2 := m.reps
      have m3 := h.prog s hK he
      obtain ⟨g1, g2⟩ := h.eq s hK he (by omega) (by omega)
      rw [g2]
      exact stmts_sh h k k' _ _ _ (by omega) (by rw [ers_snoc, ers_snoc, hk, g1]) (by omega) (by omega) hr hN
theorem block_sh {K : Nat} {st st' : M PT} (h : SimS A A' d N K st st') (s : Ps) (hK : K ≤ s.at_ + 1) (hr : (block A st s).2.reps.length = 0) (hN : (block A st s).2.at_ ≤ N) : (block A' st' (sh d s)).1.er = (block A st s).1.er ∧ (block A' st' (sh d s)).2 = sh d (block A st s).2 ∧ s.at_ + 1 ≤ (block A st s).2.at_ := by
  have m0 := demand_md (A := A) (s := s) ((ByteArray.mk #[123]))
  have mB := block_md (A := A) h.md s
  have e0 : (demand A ((ByteArray.mk #[123])) s).2.reps.length = 0 ∧ (demand A ((ByteArray.mk #[123])) s).2.at_ ≤ (block A st s).2.at_ := by
    unfold block at hr ⊢
    simp only at hr ⊢
    split at hr
    · rename_i hc
      rw [if_pos hc]
      have m := (stmts_md (A := A) h.md A.length [] (demand A ((ByteArray.mk #[123])) s).2).trans (demand_md (A := A) ((ByteArray.mk #[125])))
      have hr2 : (demand A ((ByteArray.mk #[125])) (stmts A st A.length [] (demand A ((ByteArray.mk #[123])) s).2).2).2.reps.length = 0 := hr
      exact ⟨by have := m.reps; omega, m.mono⟩
    · rename_i hc
      rw [if_neg hc]
      exact ⟨hr, Nat.le_refl _⟩
  obtain ⟨f1, f2, f3⟩ := demand_sh H (s := s) ((ByteArray.mk #[123])) e0.1 (Nat.le_trans e0.2 hN)
  have eA : block A st s = (node 25 s.at_ ⟨#[]⟩ (stmts A st A.length [] (demand A ((ByteArray.mk #[123])) s).2).1 (demand A ((ByteArray.mk #[125])) (stmts A st A.length [] (demand A ((ByteArray.mk #[123])) s).2).2).2, (demand A ((ByteArray.mk #[125])) (stmts A st A.length [] (demand A ((ByteArray.mk #[123])) s).2).2).2) := by
    unfold block
    simp only [f2]
    rfl
  rw [eA] at hr hN ⊢
  simp only at hr hN
  have m1 := stmts_md (A := A) h.md A.length [] (demand A ((ByteArray.mk #[123])) s).2
  have m2 := demand_md (A := A) (s := (stmts A st A.length [] (demand A ((ByteArray.mk #[123])) s).2).2) ((ByteArray.mk #[125]))
  have q1 := m1.mono
  have q2 := m1.reps
  have q3 := m2.mono
  have q4 := m2.reps
  obtain ⟨g1, _, g3⟩ := demand_sh H ((ByteArray.mk #[125])) hr hN
  obtain ⟨k1, k2⟩ := stmts_sh H h A.length A'.length [] [] (demand A ((ByteArray.mk #[123])) s).2 (by omega) rfl (by omega) (by omega) (by omega) (by omega)
  have eB : block A' st' (sh d s) = (node 25 (sh d s).at_ ⟨#[]⟩ (stmts A' st' A'.length [] (sh d (demand A ((ByteArray.mk #[123])) s).2)).1 (demand A' ((ByteArray.mk #[125])) (sh d (stmts A st A.length [] (demand A ((ByteArray.mk #[123])) s).2).2)).2, (demand A' ((ByteArray.mk #[125])) (sh d (stmts A st A.length [] (demand A ((ByteArray.mk #[123])) s).2).2)).2) := by
    unfold block
    simp only [f1, k2, if_true]
  rw [eB]
  simp only [er_node, k1, g1]
  exact ⟨trivial, trivial, by omega⟩
theorem sfor_sh {K : Nat} {st st' : M PT} (h : SimS A A' d N K st st') (s : Ps) (hK : K ≤ s.at_ + 1) (hr : (sfor A st s).2.reps.length = 0) (hN : (sfor A st s).2.at_ < N) : (sfor A' st' (sh d s)).1.er = (sfor A st s).1.er ∧ (sfor A' st' (sh d s)).2 = sh d (sfor A st s).2 := by
  have hx : (next A s).2.at_ = s.at_ + 1 := rfl
  have mc := (column_gd (A := A) (next A s).2).md
  have e1 : ∃ e : PT × Ps, (if isB A [(ByteArray.mk #[119, 104, 101, 114, 101])] (column A (next A s).2).2 = true then expression A (next A (column A (next A s).2).2).2 else (missing 1 (column A (next A s).2).2, (column A (next A s).2).2)) = e ∧ Md (column A (next A s).2).2 e.2 ∧ (e.2.reps.length = 0 → e.2.at_ < N → ∃ e' : PT × Ps, (if isB A' [(ByteArray.mk #[119, 104, 101, 114, 101])] (sh d (column A (next A s).2).2) = true then expression A' (next A' (sh d (column A (next A s).2).2)).2 else (missing 1 (sh d (column A (next A s).2).2), sh d (column A (next A s).2).2)) = e' ∧ e'.1.er = e.1.er ∧ e'.2 = sh d e.2) := by
    generalize (column A (next A s).2).2 = c
    refine ⟨_, rfl, ?_, ?_⟩
    · split
      · exact (next_md (A := A)).trans (expression_gd (A := A) _).md
      · exact .refl _
    · intro hr hN
      cases hc : isB A [(ByteArray.mk #[119, 104, 101, 114, 101])] c with
      | true =>
        rw [hc, if_pos rfl] at hr hN
        have q1 := (expression_gd (A := A) (next A c).2).md.mono
        have hy : (next A c).2.at_ = c.at_ + 1 := rfl
        have hlt : c.at_ < N := by omega
        obtain ⟨g1, g2⟩ := (expression_sh H).eq _ hr hN
        refine ⟨_, rfl, ?_⟩
        rw [isB_sh H _ hlt, hc, if_pos rfl, if_pos rfl, next_sh H hlt]
        exact ⟨g1, g2⟩
      | false =>
        rw [hc, if_neg (by simp)] at hr hN
        refine ⟨_, rfl, ?_⟩
        rw [isB_sh H _ (show c.at_ < N from hN), hc, if_neg (by simp), if_neg (by simp)]
        exact ⟨rfl, rfl⟩
  obtain ⟨e, ee, me, he⟩ := e1
  have eA : sfor A st s = (node 34 s.at_ ⟨#[]⟩ [(column A (next A s).2).1, e.1, (block A st e.2).1] (block A st e.2).2, (block A st e.2).2) := by
    unfold sfor
    simp only [ee]
  rw [eA] at hr hN ⊢
  have hr' : (block A st e.2).2.reps.length = 0 := hr
  have hN' : (block A st e.2).2.at_ < N := hN
  have mb := block_md (A := A) h.md e.2
  have q1 := mc.mono
  have q2 := mc.reps
  have q3 := me.mono
  have q4 := me.reps
  have q5 := mb.mono
  have q6 := mb.reps
  obtain ⟨b1, b2, _⟩ := block_sh H h e.2 (by omega) hr' (Nat.le_of_lt hN')
  obtain ⟨e', ee', g1, g2⟩ := he (by omega) (by omega)
  obtain ⟨c1, c2⟩ := (column_sh H).eq (next A s).2 (by omega) (by omega)
  have eB : sfor A' st' (sh d s) = (node 34 (sh d s).at_ ⟨#[]⟩ [(column A' (sh d (next A s).2)).1, e'.1, (block A' st' (sh d e.2)).1] (block A' st' (sh d e.2)).2, (block A' st' (sh d e.2)).2) := by
    unfold sfor
    simp only [next_sh H (show s.at_ < N by omega), c2, ee', g2]
  rw [eB]
  simp only [er_node, PT.ers, c1, g1, b1, b2]
  exact ⟨trivial, trivial⟩
omit H in
theorem skipped_prog (s : Ps) : s.at_ + 1 ≤ (skipped A s).2.at_ ∧ (skipped A s).2.reps.length ≠ 0 := by
  have hm : Md (next A (report 6 ⟨#[]⟩ s)).2 (skipped A s).2 := by
    unfold skipped
    simp only
    split
    · exact .refl _
    · exact skipTo_md _ _ _
  have h1 := hm.mono
  have h2 := hm.reps
  have h3 : (next A (report 6 ⟨#[]⟩ s)).2.at_ = s.at_ + 1 := rfl
  refine ⟨by omega, fun h => report_no (s := s) 6 ⟨#[]⟩ ?_⟩
  have h4 : (next A (report 6 ⟨#[]⟩ s)).2.reps = (report 6 ⟨#[]⟩ s).reps := rfl
  rw [h4] at h2
  omega
theorem stmt_sh : ∀ (n n' K : Nat), A.length < K + n → A'.length < K + d + n' → SimS A A' d N K (stmt A n) (stmt A' n')
  | 0, n', K, h1, h2 => ⟨stmt_md 0, fun s hK he => absurd ((atEnd_beyond (by omega)).symm.trans he) (by simp), fun s hK he => absurd ((atEnd_beyond (by omega)).symm.trans he) (by simp)⟩
  | n + 1, n', K, h1, h2 => ⟨stmt_md (n + 1), fun s hK he => by
      have hx : (next A s).2.at_ = s.at_ + 1 := rfl
      rw [stmt_eq]
      split
      · exact (skipped_prog s).1
      · split
        · have := (sfor_md (A := A) (stmt_md (A := A) n) s).mono
          omega
        · have m1 := (sbody_md (A := A) (next A s)).mono
          have m2 := (demand_md (A := A) (s := (sbody A (next A s)).2) ((ByteArray.mk #[59]))).mono
          simp only
          omega, fun s hK he hr hN => by
      have hN2 : s.at_ < N := Nat.lt_of_le_of_lt (stmt_md (n + 1) s).mono hN
      have hx : (next A s).2.at_ = s.at_ + 1 := rfl
      have n2 : 0 < n' := by
        rcases Nat.eq_zero_or_pos n' with h0 | h0
        · have := atEnd_sh H hN2
          rw [atEnd_beyond (s := sh d s) (by show _ ≤ s.at_ + d; omega), he] at this
          cases this
        · exact h0
      obtain ⟨n', rfl⟩ : ∃ j, n' = j + 1 := ⟨n' - 1, by omega⟩
      have hS : states A' (sh d s) = states A s := isB_sh H _ hN2
      rw [stmt_eq] at hr hN ⊢
      rw [stmt_eq, hS, next_sh H hN2]
      cases hs : states A s with
      | false =>
        rw [hs, if_pos rfl] at hr
        exact ((skipped_prog s).2 hr).elim
      | true =>
        have hne : ¬ (true = false) := by simp
        rw [hs, if_neg hne] at hr hN
        rw [if_neg hne, if_neg hne]
        by_cases hf : (next A s).1 = (ByteArray.mk #[102, 111, 114])
        · rw [if_pos hf] at hr hN ⊢
          rw [if_pos hf]
          exact sfor_sh H (stmt_sh n n' (K + 1) (by omega) (by omega)) s (by omega) hr hN
        · rw [if_neg hf] at hr hN ⊢
          rw [if_neg hf]
          have hr' : (demand A ((ByteArray.mk #[59])) (sbody A (next A s)).2).2.reps.length = 0 := hr
          have hN' : (demand A ((ByteArray.mk #[59])) (sbody A (next A s)).2).2.at_ < N := hN
          have m := demand_md (A := A) (s := (sbody A (next A s)).2) ((ByteArray.mk #[59]))
          have q1 := m.mono
          have q2 := m.reps
          obtain ⟨f1, _, f3⟩ := demand_sh H (s := (sbody A (next A s)).2) ((ByteArray.mk #[59])) hr' (Nat.le_of_lt hN')
          obtain ⟨g1, g2, g3⟩ := sbody_sh H (next A s) (by omega) (by omega)
          simp only [er_node, g1, g2, g3, f1]
          exact ⟨trivial, trivial⟩⟩
theorem declaration_sh (s : Ps) (hr : (declaration A s).2.reps.length = 0) (hN : (declaration A s).2.at_ ≤ N) : (declaration A' (sh d s)).1.er = (declaration A s).1.er ∧ (declaration A' (sh d s)).2 = sh d (declaration A s).2 ∧ s.at_ + 1 ≤ (declaration A s).2.at_ := by
  have hx : (next A s).2.at_ = s.at_ + 1 := rfl
  rw [declaration_eq (A := A) s] at hr hN ⊢
  cases hs : declares A s with
  | false =>
    rw [hs, if_pos rfl] at hr
    have m := skipDecl_md (A := A) A.length (next A (report 7 ⟨#[]⟩ s)).2
    have h2 := m.reps
    have h4 : (next A (report 7 ⟨#[]⟩ s)).2.reps = (report 7 ⟨#[]⟩ s).reps := rfl
    rw [h4] at h2
    have hr' : (skipDecl A A.length (next A (report 7 ⟨#[]⟩ s)).2).reps.length = 0 := hr
    exact (report_no (s := s) 7 ⟨#[]⟩ (by omega)).elim
  | true =>
    have hne : ¬ (true = false) := by simp
    rw [hs, if_neg hne] at hr hN
    rw [if_neg hne]
    have mn := name_md (A := A) (s := (next A s).2)
    have n1 := mn.mono
    have n2 := mn.reps
    by_cases hf : (next A s).1 = (ByteArray.mk #[111, 112, 101, 114, 97, 116, 105, 111, 110])
    · rw [if_pos hf] at hr hN ⊢
      simp only at hr hN ⊢
      have hP := list1_sh H 23 (parameter_sh H)
      have m1 := hP.md (name A (next A s).2).2
      have m2 := (maybe_sh H ((ByteArray.mk #[111, 114, 100, 101, 114, 101, 100]))).md (list1 A 23 (parameter A) (name A (next A s).2).2).2
      have m3 := block_md (A := A) (st := statement A) (stmt_md _) (maybe A ((ByteArray.mk #[111, 114, 100, 101, 114, 101, 100])) (list1 A 23 (parameter A) (name A (next A s).2).2).2).2
      have q1 := m1.mono
      have q2 := m1.reps
      have q3 := m2.mono
      have q4 := m2.reps
      have q5 := m3.mono
      have q6 := m3.reps
      obtain ⟨b1, b2, b3⟩ := block_sh H (stmt_sh H (A.length + 1) (A'.length + 1) 0 (by omega) (by omega)) _ (Nat.zero_le _) hr hN
      have hN3 : (maybe A ((ByteArray.mk #[111, 114, 100, 101, 114, 101, 100])) (list1 A 23 (parameter A) (name A (next A s).2).2).2).2.at_ < N := Nat.lt_of_lt_of_le b3 hN
      obtain ⟨o1, o2⟩ := (maybe_sh H ((ByteArray.mk #[111, 114, 100, 101, 114, 101, 100]))).eq (list1 A 23 (parameter A) (name A (next A s).2).2).2 (by omega) hN3
      obtain ⟨p1, p2⟩ := hP.eq (name A (next A s).2).2 (by omega) (by omega)
      obtain ⟨e1, _⟩ := name_sh H (s := (next A s).2) (by omega) (by omega)
      have hlt : s.at_ < N := by omega
      have eB : declaration A' (sh d s) = (node 9 (sh d s).at_ (name A (next A s).2).1 [(list1 A' 23 (parameter A') (sh d (name A (next A s).2).2)).1, (maybe A' ((ByteArray.mk #[111, 114, 100, 101, 114, 101, 100])) (sh d (list1 A 23 (parameter A) (name A (next A s).2).2).2)).1, (block A' (statement A') (sh d (maybe A ((ByteArray.mk #[111, 114, 100, 101, 114, 101, 100])) (list1 A 23 (parameter A) (name A (next A s).2).2).2).2)).1] (block A' (statement A') (sh d (maybe A ((ByteArray.mk #[111, 114, 100, 101, 114, 101, 100])) (list1 A 23 (parameter A) (name A (next A s).2).2).2).2)).2, (block A' (statement A') (sh d (maybe A ((ByteArray.mk #[111, 114, 100, 101, 114, 101, 100])) (list1 A 23 (parameter A) (name A (next A s).2).2).2).2)).2) := by
        rw [declaration_eq, show declares A' (sh d s) = declares A s from isB_sh H _ hlt, hs, if_neg hne, next_sh H hlt, if_pos hf]
        simp only [e1, p2, o2]
      rw [eB]
      unfold statement at *
      simp only [er_node, PT.ers, p1, o1, b1, b2]
      exact ⟨trivial, trivial, by omega⟩
    · rw [if_neg hf] at hr hN ⊢
      simp only at hr hN ⊢
      have m1 := dbody_md (A := A) (next A s).1 (name A (next A s).2).2
      have m2 := demand_md (A := A) (s := (dbody A (next A s).1 (name A (next A s).2).2).2) ((ByteArray.mk #[59]))
      have q1 := m1.mono
      have q2 := m1.reps
      have q3 := m2.mono
      have q4 := m2.reps
      obtain ⟨f1, _, f3⟩ := demand_sh H ((ByteArray.mk #[59])) hr hN
      obtain ⟨g1, g2, g3⟩ := dbody_sh H (next A s).1 (name A (next A s).2).2 (by omega) (by omega)
      obtain ⟨e1, _⟩ := name_sh H (s := (next A s).2) (by omega) (by omega)
      have hlt : s.at_ < N := by omega
      have eB : declaration A' (sh d s) = (node (dbody A' (next A s).1 (sh d (name A (next A s).2).2)).1.1 (sh d s).at_ (name A (next A s).2).1 (dbody A' (next A s).1 (sh d (name A (next A s).2).2)).1.2 (demand A' ((ByteArray.mk #[59])) (sh d (dbody A (next A s).1 (name A (next A s).2).2).2)).2, (demand A' ((ByteArray.mk #[59])) (sh d (dbody A (next A s).1 (name A (next A s).2).2).2)).2) := by
        rw [declaration_eq, show declares A' (sh d s) = declares A s from isB_sh H _ hlt, hs, if_neg hne, next_sh H hlt, if_neg hf]
        simp only [e1, g3]
      rw [eB]
      simp only [er_node, g1, g2, f1]
      exact ⟨trivial, trivial, by omega⟩
omit H in
theorem declaration_md (s : Ps) : Md s (declaration A s).2 := (declaration_gd s).md
omit H in
theorem decls_md : ∀ (n : Nat) (ks : List PT) (s : Ps), Md s (decls A n ks s).2
  | 0, ks, s => .refl _
  | n + 1, ks, s => by
    rw [decls]
    split
    · exact .refl _
    · exact (declaration_md s).trans (decls_md n _ _)
/-- The declarations of A stand first in what A' gives from there on. -/
theorem decls_sh (X : List PT) : ∀ (n n' : Nat) (ks ks' : List PT) (s : Ps), PT.ers ks' = X ++ PT.ers ks → A'.length ≤ s.at_ + d + n' → (decls A n ks s).2.reps.length = 0 → (decls A n ks s).2.at_ ≤ N → ∃ m ks2, decls A' n' ks' (sh d s) = decls A' m ks2 (sh d (decls A n ks s).2) ∧ PT.ers ks2 = X ++ PT.ers (decls A n ks s).1 ∧ A'.length ≤ (decls A n ks s).2.at_ + d + m
  | 0, n', ks, ks', s, hk, ha', hr, hN => ⟨n', ks', rfl, hk, ha'⟩
  | n + 1, n', ks, ks', s, hk, ha', hr, hN => by
    cases he : atEnd A s with
    | true =>
      have eA : decls A (n + 1) ks s = (ks, s) := by rw [decls, if_pos he]
      rw [eA]
      exact ⟨n', ks', rfl, hk, ha'⟩
    | false =>
      have eA : decls A (n + 1) ks s = decls A n (ks ++ [(declaration A s).1]) (declaration A s).2 := by rw [decls, if_neg (by rw [he]; simp)]
      rw [eA] at hr hN ⊢
      have m := decls_md (A := A) n (ks ++ [(declaration A s).1]) (declaration A s).2
      have q1 := m.mono
      have q2 := m.reps
      obtain ⟨g1, g2, g3⟩ := declaration_sh H s (by omega) (by omega)
      have hlt : s.at_ < N := by omega
      have n2 : 0 < n' := by
        rcases Nat.eq_zero_or_pos n' with h0 | h0
        · have := atEnd_sh H hlt
          rw [atEnd_beyond (s := sh d s) (by show _ ≤ s.at_ + d; omega), he] at this
          cases this
        · exact h0
      obtain ⟨n', rfl⟩ : ∃ j, n' = j + 1 := ⟨n' - 1, by omega⟩
      have eA' : decls A' (n' + 1) ks' (sh d s) = decls A' n' (ks' ++ [(declaration A' (sh d s)).1]) (declaration A' (sh d s)).2 := by rw [decls, if_neg (by rw [atEnd_sh H hlt, he]; simp)]
      rw [eA', g2]
      exact decls_sh X n n' _ _ _ (by rw [ers_snoc, ers_snoc, hk, g1, List.append_assoc]) (by omega) hr hN
end
end Go.Proofs.YthggagophcnkfaaGreatDoor.px
