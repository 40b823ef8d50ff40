/- Stable sorting, as plain laws on lists of diagnostics. No function of the program is walked here. -/
import Derived.Test.YthggagophcnkfaaGreatDoorM1
namespace Go.Proofs.YthggagophcnkfaaGreatDoor.so
open Go.RowKit Go.Proofs.YthggagophcnkfaaGreatDoor.px
set_option linter.unusedSimpArgs false
set_option linter.unusedVariables false

/-- In the order of their places. -/
def Srt (l : List Dg) : Prop := l.Pairwise (fun a b => a.at_ ≤ b.at_)
/-- The same diagnostics; those at one place stand in the same order. -/
def Like (l m : List Dg) : Prop := ∀ k : Int, l.filter (fun x => x.at_ == k) = m.filter (fun x => x.at_ == k)
theorem Like.refl (l : List Dg) : Like l l := fun _ => rfl
theorem Like.symm {l m : List Dg} (h : Like l m) : Like m l := fun k => (h k).symm
theorem Like.trans {l m n : List Dg} (h : Like l m) (k : Like m n) : Like l n := fun i => (h i).trans (k i)
theorem Like.app {a b c d : List Dg} (h : Like a b) (k : Like c d) : Like (a ++ c) (b ++ d) := fun i => by
  rw [List.filter_append, List.filter_append, h i, k i]
theorem Like.mem {l m : List Dg} (h : Like l m) {x : Dg} (hx : x ∈ l) : x ∈ m := by
  have h1 : x ∈ l.filter (fun y => y.at_ == x.at_) := List.mem_filter.2 ⟨hx, by simp⟩
  rw [h] at h1
  exact (List.mem_filter.1 h1).1
theorem Like.comm {A B : List Dg} (h : ∀ a ∈ A, ∀ b ∈ B, a.at_ ≠ b.at_) : Like (A ++ B) (B ++ A) := fun k => by
  rw [List.filter_append, List.filter_append]
  by_cases ha : A.filter (fun x => x.at_ == k) = []
  · rw [ha]; simp
  · obtain ⟨a, ha'⟩ := List.exists_mem_of_ne_nil _ ha
    have hb : B.filter (fun x => x.at_ == k) = [] := by
      rw [List.filter_eq_nil_iff]
      intro b hb e
      have h1 := (List.mem_filter.1 ha').2
      simp only [beq_iff_eq] at h1 e
      exact h a (List.mem_filter.1 ha').1 b hb (by omega)
    rw [hb]; simp
theorem like_nil {m : List Dg} (h : Like [] m) : m = [] := by
  cases m with
  | nil => rfl
  | cons x m => exact absurd (h.symm.mem (List.mem_cons_self ..)) (by simp)
theorem srt_unique : ∀ {l m : List Dg}, Srt l → Srt m → Like l m → l = m
  | [], m, _, _, h => (like_nil h).symm
  | a :: l, [], _, _, h => absurd (h.mem (List.mem_cons_self ..)) (by simp)
  | a :: l, b :: m, hl, hm, h => by
    have ha : a ∈ b :: m := h.mem (List.mem_cons_self ..)
    have hb : b ∈ a :: l := h.symm.mem (List.mem_cons_self ..)
    have e : a.at_ = b.at_ := by
      have h1 : b.at_ ≤ a.at_ := by
        rcases List.mem_cons.1 ha with rfl | h'
        · exact Int.le_refl _
        · exact (List.pairwise_cons.1 hm).1 a h'
      have h2 : a.at_ ≤ b.at_ := by
        rcases List.mem_cons.1 hb with rfl | h'
        · exact Int.le_refl _
        · exact (List.pairwise_cons.1 hl).1 b h'
      omega
    have hk := h a.at_
    rw [List.filter_cons_of_pos (by simp), List.filter_cons_of_pos (by simp [e])] at hk
    have e2 : a = b := (List.cons.inj hk).1
    subst e2
    have ht : Like l m := fun k => by
      have hk := h k
      by_cases hak : a.at_ = k
      · rw [List.filter_cons_of_pos (by simp [hak]), List.filter_cons_of_pos (by simp [hak])] at hk
        exact (List.cons.inj hk).2
      · rw [List.filter_cons_of_neg (by simp [hak]), List.filter_cons_of_neg (by simp [hak])] at hk
        exact hk
    rw [srt_unique (List.pairwise_cons.1 hl).2 (List.pairwise_cons.1 hm).2 ht]
theorem put_mem {d x : Dg} {l : List Dg} : x ∈ put d l ↔ x = d ∨ x ∈ l := by
  induction l with
  | nil => simp [put]
  | cons y l ih =>
    rw [put]
    split
    · simp [List.mem_cons]
    · simp only [List.mem_cons, ih]
      constructor
      · rintro (h | h | h)
        · exact .inr (.inl h)
        · exact .inl h
        · exact .inr (.inr h)
      · rintro (h | h | h)
        · exact .inr (.inl h)
        · exact .inl h
        · exact .inr (.inr h)
theorem put_srt {d : Dg} {l : List Dg} (h : Srt l) : Srt (put d l) := by
  induction l with
  | nil => simp [put, Srt]
  | cons y l ih =>
    obtain ⟨h1, h2⟩ := List.pairwise_cons.1 h
    rw [put]
    split
    · rename_i hlt
      refine List.pairwise_cons.2 ⟨fun x hx => ?_, h⟩
      rcases List.mem_cons.1 hx with rfl | hx
      · omega
      · have := h1 x hx; omega
    · rename_i hlt
      refine List.pairwise_cons.2 ⟨fun x hx => ?_, ih h2⟩
      rcases put_mem.1 hx with rfl | hx
      · omega
      · exact h1 x hx
theorem put_like {d : Dg} {l : List Dg} (h : Srt l) : Like (l ++ [d]) (put d l) := by
  induction l with
  | nil => exact .refl _
  | cons y l ih =>
    obtain ⟨h1, h2⟩ := List.pairwise_cons.1 h
    rw [put]
    split
    · rename_i hlt
      refine Like.comm (B := [d]) fun a ha b hb => ?_
      obtain rfl := List.mem_singleton.1 hb
      rcases List.mem_cons.1 ha with rfl | ha
      · omega
      · have := h1 a ha; omega
    · exact Like.app (Like.refl [y]) (ih h2)
theorem foldl_put (l : List Dg) : ∀ acc : List Dg, Srt acc → Srt (l.foldl (fun acc d => put d acc) acc) ∧ Like (acc ++ l) (l.foldl (fun acc d => put d acc) acc) := by
  induction l with
  | nil => intro acc h; exact ⟨h, by simpa using Like.refl acc⟩
  | cons d l ih =>
    intro acc h
    obtain ⟨h1, h2⟩ := ih (put d acc) (put_srt h)
    refine ⟨h1, ?_⟩
    have h3 : Like ((acc ++ [d]) ++ l) (put d acc ++ l) := (put_like h).app (.refl l)
    rw [List.append_assoc] at h3
    exact h3.trans h2
theorem sortD_srt (l : List Dg) : Srt (sortD l) := (foldl_put l [] List.Pairwise.nil).1
theorem sortD_like (l : List Dg) : Like l (sortD l) := (foldl_put l [] List.Pairwise.nil).2
theorem sortD_unique {l m : List Dg} (h : Srt m) (hl : Like l m) : m = sortD l := srt_unique h (sortD_srt l) (hl.symm.trans (sortD_like l))
theorem srt_app {a b : List Dg} : Srt (a ++ b) ↔ Srt a ∧ Srt b ∧ ∀ x ∈ a, ∀ y ∈ b, x.at_ ≤ y.at_ := List.pairwise_append
/-- Two halves that are merged apart. -/
theorem merge_core {U1 U2 V1 V2 W1 W2 : List Dg} (hU : Srt (U1 ++ U2)) (hV : Srt (V1 ++ V2)) (h1 : ∀ u ∈ U1, ∀ v ∈ V2, u.at_ ≤ v.at_) (h2 : ∀ v ∈ V1, ∀ u ∈ U2, v.at_ < u.at_)
    (s1 : Srt W1) (l1 : Like (U1 ++ V1) W1) (s2 : Srt W2) (l2 : Like (U2 ++ V2) W2) : Srt (W1 ++ W2) ∧ Like ((U1 ++ U2) ++ (V1 ++ V2)) (W1 ++ W2) := by
  obtain ⟨_, _, hU'⟩ := srt_app.1 hU
  obtain ⟨_, _, hV'⟩ := srt_app.1 hV
  constructor
  · refine srt_app.2 ⟨s1, s2, fun x hx y hy => ?_⟩
    rcases List.mem_append.1 (l1.symm.mem hx) with hx | hx <;> rcases List.mem_append.1 (l2.symm.mem hy) with hy | hy
    · exact hU' x hx y hy
    · exact h1 x hx y hy
    · exact Int.le_of_lt (h2 x hx y hy)
    · exact hV' x hx y hy
  · have h3 : Like (U2 ++ V1) (V1 ++ U2) := Like.comm fun a ha b hb => by have := h2 b hb a ha; omega
    have h4 := (Like.refl U1).app (h3.app (Like.refl V2))
    have h5 := l1.app l2
    simp only [List.append_assoc] at h4 h5 ⊢
    exact h4.trans h5
/-- One, put into its place behind those that are less. -/
theorem merge_left {x : Dg} {V1 V2 : List Dg} (hV : Srt (V1 ++ V2)) (h1 : ∀ v ∈ V1, v.at_ < x.at_) (h2 : ∀ v ∈ V2, x.at_ ≤ v.at_) : Srt (V1 ++ ([x] ++ V2)) ∧ Like ([x] ++ (V1 ++ V2)) (V1 ++ ([x] ++ V2)) := by
  obtain ⟨a, b, c⟩ := srt_app.1 hV
  constructor
  · refine srt_app.2 ⟨a, List.pairwise_cons.2 ⟨h2, b⟩, fun u hu v hv => ?_⟩
    rcases List.mem_cons.1 hv with rfl | hv
    · exact Int.le_of_lt (h1 u hu)
    · exact c u hu v hv
  · have h3 : Like ([x] ++ V1) (V1 ++ [x]) := Like.comm fun a ha b hb => by
      obtain rfl := List.mem_singleton.1 ha
      have := h1 b hb; omega
    have h4 := h3.app (Like.refl V2)
    simpa only [List.append_assoc] using h4
/-- One, put into its place ahead of those that are greater. -/
theorem merge_right {x : Dg} {U1 U2 : List Dg} (hU : Srt (U1 ++ U2)) (h1 : ∀ v ∈ U1, v.at_ ≤ x.at_) (h2 : ∀ v ∈ U2, x.at_ < v.at_) : Srt (U1 ++ ([x] ++ U2)) ∧ Like ((U1 ++ U2) ++ [x]) (U1 ++ ([x] ++ U2)) := by
  obtain ⟨a, b, c⟩ := srt_app.1 hU
  constructor
  · refine srt_app.2 ⟨a, List.pairwise_cons.2 ⟨fun v hv => Int.le_of_lt (h2 v hv), b⟩, fun u hu v hv => ?_⟩
    rcases List.mem_cons.1 hv with rfl | hv
    · exact h1 u hu
    · exact c u hu v hv
  · have h3 : Like (U2 ++ [x]) ([x] ++ U2) := Like.comm fun a ha b hb => by
      obtain rfl := List.mem_singleton.1 hb
      have := h2 a ha; omega
    have h4 := (Like.refl U1).app h3
    simpa only [List.append_assoc] using h4
theorem srt_get {l : List Dg} (h : Srt l) {i j : Nat} (hi : i < l.length) (hj : j < l.length) (hij : i ≤ j) : l[i].at_ ≤ l[j].at_ := by
  rcases Nat.lt_or_eq_of_le hij with h1 | rfl
  · exact (List.pairwise_iff_getElem.1 h) i j hi hj h1
  · exact Int.le_refl _
/-- Two that stand beside each other are exchanged. -/
def swp (l : List Dg) (i j : Nat) : List Dg := match l[i]?, l[j]? with | some x, some y => (l.set i y).set j x | _, _ => l
theorem swp_len (l : List Dg) (i j : Nat) : (swp l i j).length = l.length := by
  unfold swp
  split <;> simp
theorem swp_at (P Q R : List Dg) (x y : Dg) : swp (P ++ (x :: (Q ++ (y :: R)))) P.length (P.length + 1 + Q.length) = P ++ (y :: (Q ++ (x :: R))) := by
  have e1 : (P ++ (x :: (Q ++ (y :: R))))[P.length]? = some x := by simp
  have e2 : (P ++ (x :: (Q ++ (y :: R))))[P.length + 1 + Q.length]? = some y := by
    rw [List.getElem?_append_right (by omega)]
    rw [show P.length + 1 + Q.length - P.length = Q.length + 1 by omega, List.getElem?_cons_succ]
    simp
  unfold swp
  rw [e1, e2]
  simp only
  rw [List.set_append_right _ _ (Nat.le_refl _), Nat.sub_self, List.set_cons_zero]
  rw [List.set_append_right _ _ (by omega), show P.length + 1 + Q.length - P.length = Q.length + 1 by omega, List.set_cons_succ]
  rw [List.set_append_right _ _ (Nat.le_refl _), Nat.sub_self, List.set_cons_zero]
end Go.Proofs.YthggagophcnkfaaGreatDoor.so
