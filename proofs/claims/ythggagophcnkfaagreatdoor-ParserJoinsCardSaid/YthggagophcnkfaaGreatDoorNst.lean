/- What is right of every tree that the parser gives: its spans lie in order, it has few nodes, its names stand at their tokens. Plain laws: no function of the program is walked here. -/
import Derived.Test.YthggagophcnkfaaGreatDoorM1
namespace Go.Proofs.YthggagophcnkfaaGreatDoor.px
open Go.RowKit Go.Proofs.YthggagophcnkfaaGreatDoor.agg Go.Proofs.YthggagophcnkfaaGreatDoor.sx
set_option linter.unusedSimpArgs false
set_option linter.unusedVariables false

mutual
/-- The number of nodes. -/
def PT.cnt : PT → Nat
  | .mk _ _ _ _ ks => 1 + PT.cnts ks
def PT.cnts : List PT → Nat
  | [] => 0
  | k :: ks => PT.cnt k + PT.cnts ks
end
mutual
/-- The spans of all kids lie in that of their node, one behind the other. -/
def PT.nst : PT → Prop
  | .mk _ _ a e ks => a ≤ e ∧ PT.nsts a e ks
def PT.nsts : Nat → Nat → List PT → Prop
  | _, _, [] => True
  | lo, hi, k :: ks => lo ≤ k.fr ∧ k.to ≤ hi ∧ PT.nst k ∧ PT.nsts k.to hi ks
end
/-- What a number is without its leading zeros. -/
def numT (w : ByteArray) : ByteArray := if dropZ w = ⟨#[]⟩ then (ByteArray.mk #[48]) else dropZ w
/-- A name, a number or a word stands at its token. -/
def NmOk (A : List Tk) (k : Int) (t : ByteArray) (a e : Nat) : Prop :=
  (k = 35 ∨ k = 38 → e = a + 1 ∧ t = (A.getD a default).word) ∧ (k = 36 → e = a + 1 ∧ t = numT (A.getD a default).word)
mutual
def PT.nmd (A : List Tk) : PT → Prop
  | .mk k t a e ks => NmOk A k t a e ∧ PT.nmds A ks
def PT.nmds (A : List Tk) : List PT → Prop
  | [] => True
  | k :: ks => PT.nmd A k ∧ PT.nmds A ks
end
theorem cnts_snoc (ks : List PT) (t : PT) : PT.cnts (ks ++ [t]) = PT.cnts ks + t.cnt := by
  induction ks with
  | nil => simp [PT.cnts]
  | cons k ks ih => rw [List.cons_append, PT.cnts, PT.cnts, ih]; omega
theorem nst_le {t : PT} (h : t.nst) : t.fr ≤ t.to := by
  cases t
  exact h.1
theorem nsts_snoc {lo mid hi : Nat} {ks : List PT} {t : PT} (h : PT.nsts lo mid ks) (hl : lo ≤ mid) (h1 : mid ≤ t.fr) (h2 : t.to ≤ hi) (h3 : t.nst) : PT.nsts lo hi (ks ++ [t]) := by
  induction ks generalizing lo with
  | nil => exact ⟨by omega, h2, h3, trivial⟩
  | cons k ks ih =>
    have h' : lo ≤ k.fr ∧ k.to ≤ mid ∧ k.nst ∧ PT.nsts k.to mid ks := h
    obtain ⟨a, b, c, d⟩ := h'
    have hk := nst_le h3
    exact ⟨a, by omega, c, ih d b⟩
theorem nsts_hi {lo mid hi : Nat} {ks : List PT} (h : PT.nsts lo mid ks) (hm : mid ≤ hi) : PT.nsts lo hi ks := by
  induction ks generalizing lo with
  | nil => trivial
  | cons k ks ih =>
    have h' : lo ≤ k.fr ∧ k.to ≤ mid ∧ k.nst ∧ PT.nsts k.to mid ks := h
    obtain ⟨a, b, c, d⟩ := h'
    exact ⟨a, by omega, c, ih d⟩
theorem nsts_lo {lo lo' hi : Nat} {ks : List PT} (h : PT.nsts lo hi ks) (hm : lo' ≤ lo) : PT.nsts lo' hi ks := by
  cases ks with
  | nil => trivial
  | cons k ks => exact ⟨Nat.le_trans hm h.1, h.2.1, h.2.2.1, h.2.2.2⟩
theorem nmds_snoc {A : List Tk} {ks : List PT} {t : PT} (h : PT.nmds A ks) (ht : t.nmd A) : PT.nmds A (ks ++ [t]) := by
  induction ks with
  | nil => exact ⟨ht, trivial⟩
  | cons k ks ih => exact ⟨h.1, ih h.2⟩
/-- A step of the parser. -/
structure Md (s s' : Ps) : Prop where
  mono : s.at_ ≤ s'.at_
  reps : s.reps.length ≤ s'.reps.length
theorem Md.refl (s : Ps) : Md s s := ⟨Nat.le_refl _, Nat.le_refl _⟩
theorem Md.trans {a b c : Ps} (h : Md a b) (k : Md b c) : Md a c := ⟨Nat.le_trans h.mono k.mono, Nat.le_trans h.reps k.reps⟩
/-- A tree that is given between two states, with at most so many nodes more than a hundred a token. -/
structure Gd (A : List Tk) (s : Ps) (t : PT) (s' : Ps) (C : Nat) : Prop where
  md : Md s s'
  fr : s.at_ ≤ t.fr
  to : t.to ≤ s'.at_
  nst : t.nst
  cnt : t.cnt + 100 * s.at_ ≤ 100 * s'.at_ + C
  nmd : s'.reps.length = 0 → t.nmd A
/-- Trees that are given between two states, from a token on. -/
structure Kd (A : List Tk) (b : Nat) (ks : List PT) (s s' : Ps) (C : Nat) : Prop where
  md : Md s s'
  lo : b ≤ s.at_
  nst : PT.nsts b s'.at_ ks
  cnt : PT.cnts ks + 100 * s.at_ ≤ 100 * s'.at_ + C
  nmd : s'.reps.length = 0 → PT.nmds A ks
section
variable {A : List Tk} {s s1 s2 s3 : Ps} {b C D : Nat} {ks : List PT} {t : PT}
theorem Kd.nil (h : b ≤ s.at_) (hm : Md s s1) : Kd A b [] s s1 0 := ⟨hm, h, trivial, by have := hm.mono; simp only [PT.cnts]; omega, fun _ => trivial⟩
theorem Kd.move (h : Kd A b ks s s1 C) (m : Md s1 s2) : Kd A b ks s s2 C :=
  ⟨h.md.trans m, h.lo, nsts_hi h.nst m.mono, by have := h.cnt; have := m.mono; omega, fun hr => h.nmd (by have := m.reps; omega)⟩
theorem Kd.snoc (h : Kd A b ks s s1 C) (g : Gd A s1 t s2 D) : Kd A b (ks ++ [t]) s s2 (C + D) :=
  ⟨h.md.trans g.md, h.lo, nsts_snoc h.nst (Nat.le_trans h.lo h.md.mono) g.fr g.to g.nst, by rw [cnts_snoc]; have := h.cnt; have := g.cnt; omega, fun hr => by
    have h1 := g.md.reps
    exact nmds_snoc (h.nmd (by omega)) (g.nmd hr)⟩
theorem Kd.le (h : Kd A b ks s s1 C) (hC : C ≤ D) : Kd A b ks s s1 D := ⟨h.md, h.lo, h.nst, by have := h.cnt; omega, h.nmd⟩
theorem Gd.le (h : Gd A s t s1 C) (hC : C ≤ D) : Gd A s t s1 D := ⟨h.md, h.fr, h.to, h.nst, by have := h.cnt; omega, h.nmd⟩
theorem Gd.before (h : Gd A s1 t s2 C) (m : Md s s1) : Gd A s t s2 C :=
  ⟨m.trans h.md, Nat.le_trans m.mono h.fr, h.to, h.nst, by have := h.cnt; have := m.mono; omega, h.nmd⟩
theorem Gd.behind (h : Gd A s t s1 C) (m : Md s1 s2) : Gd A s t s2 C :=
  ⟨h.md.trans m, h.fr, Nat.le_trans h.to m.mono, h.nst, by have := h.cnt; have := m.mono; omega, fun hr => h.nmd (by have := m.reps; omega)⟩
/-- Behind a token that was read, a hundred nodes more are free. -/
theorem Gd.free (h : Gd A (next A s).2 t s2 C) : Gd A s t s2 (C - 100) :=
  ⟨(⟨Nat.le_succ _, Nat.le_refl _⟩ : Md s (next A s).2).trans h.md, Nat.le_trans (Nat.le_succ _) h.fr, h.to, h.nst, by have h1 := h.cnt; simp only [next] at h1; omega, h.nmd⟩
def Plain (kind : Int) : Prop := kind ≠ 35 ∧ kind ≠ 38 ∧ kind ≠ 36
/-- A node whose first token was read before. -/
theorem Gd.node' (kind : Int) (text : ByteArray) {first : Nat} (h : Kd A first ks s s1 C) (m : Md s2 s) (hf : s2.at_ = first) (hn : Plain kind) : Gd A s2 (node kind first text ks s1) s1 (C + 1) := by
  subst hf
  exact ⟨m.trans h.md, Nat.le_refl _, Nat.le_refl _, ⟨Nat.le_trans m.mono h.md.mono, h.nst⟩, by have h1 := h.cnt; have h2 := m.mono; simp only [px.node, PT.cnt]; omega, fun hr => ⟨⟨fun e => by
    rcases e with e | e
    · exact absurd e hn.1
    · exact absurd e hn.2.1, fun e => absurd e hn.2.2⟩, h.nmd hr⟩⟩
theorem Gd.node (kind : Int) (text : ByteArray) {first : Nat} (h : Kd A first ks s s1 C) (hf : s.at_ = first) (hn : Plain kind) : Gd A s (node kind first text ks s1) s1 (C + 1) := .node' kind text h (.refl _) hf hn
theorem next_md {A : List Tk} {s : Ps} : Md s (next A s).2 := ⟨Nat.le_succ _, Nat.le_refl _⟩
theorem report_md (c : Int) (x : ByteArray) : Md s (report c x s) := ⟨Nat.le_refl _, by unfold report; simp only; split <;> simp⟩
/-- Where there is no report, none was made. -/
theorem report_no (c : Int) (x : ByteArray) (h : (report c x s).reps.length = 0) : False := by
  have h1 := (report_md (s := s) c x).reps
  have h2 : s.reps = [] := List.eq_nil_of_length_eq_zero (by omega)
  have h3 : told s = false := by unfold told; rw [h2]; rfl
  unfold report at h
  rw [h3] at h
  simp at h
theorem demand_md (w : ByteArray) : Md s (demand A w s).2 := by
  unfold demand
  split
  · exact next_md (A := A)
  · exact report_md _ _
theorem name_md : Md s (name A s).2 := by
  unfold name
  split
  · exact next_md (A := A)
  · exact report_md _ _
theorem digits_md : Md s (digits A s).2 := by
  unfold digits
  split
  · exact next_md (A := A)
  · exact report_md _ _
theorem optional_md (w : ByteArray) : Md s (optional A w s).2 := by
  unfold optional
  split
  · exact next_md (A := A)
  · exact .refl _
theorem missing_gd (kind : Int) (hn : Plain kind) : Gd A s (missing kind s) s 1 := .node kind _ (.nil (Nat.le_refl _) (.refl _)) rfl hn
theorem missing_gd' (kind c : Int) (x : ByteArray) (hn : Plain kind) : Gd A s (missing kind (report c x s)) (report c x s) 1 := (missing_gd kind hn).before (report_md c x)
theorem leaf_gd (kind : Int) (text : ByteArray) (s' : Ps) (m : Md s s') (hk : s'.reps.length = 0 → NmOk A kind text s.at_ s'.at_) : Gd A s (px.node kind s.at_ text [] s') s' 1 :=
  ⟨m, Nat.le_refl _, Nat.le_refl _, ⟨m.mono, trivial⟩, by have := m.mono; simp only [px.node, PT.cnt, PT.cnts]; omega, fun hr => ⟨hk hr, trivial⟩⟩
theorem named_gd : Gd A s (named A s).1 (named A s).2 1 := by
  refine leaf_gd 35 _ _ name_md (fun h0 => ⟨fun _ => ?_, fun e => absurd e (by decide)⟩)
  unfold name at h0 ⊢
  split at h0
  · rename_i hk
    rw [if_pos hk]
    exact ⟨rfl, rfl⟩
  · exact absurd (report_no _ _ h0) (fun e => e)
theorem number_gd : Gd A s (number A s).1 (number A s).2 1 := by
  refine leaf_gd 36 _ _ digits_md (fun h0 => ⟨fun e => absurd e (by decide), fun _ => ?_⟩)
  unfold digits at h0 ⊢
  split at h0
  · rename_i hk
    rw [if_pos hk]
    exact ⟨rfl, rfl⟩
  · exact absurd (report_no _ _ h0) (fun e => e)
theorem integer_gd : Gd A s (integer A s).1 (integer A s).2 1 :=
  leaf_gd 37 _ _ ((optional_md _).trans digits_md) (fun _ => ⟨fun e => absurd e (by decide), fun e => absurd e (by decide)⟩)
theorem chosen_gd (ws : List ByteArray) : Gd A s (chosen A ws s).1 (chosen A ws s).2 1 := by
  unfold chosen
  split
  · exact leaf_gd 38 _ _ next_md (fun _ => ⟨fun _ => ⟨rfl, rfl⟩, fun e => absurd e (by decide)⟩)
  · exact missing_gd' 0 4 _ (by unfold Plain; decide)
theorem maybe_gd (w : ByteArray) : Gd A s (maybe A w s).1 (maybe A w s).2 1 := by
  unfold maybe
  split
  · exact chosen_gd _
  · exact missing_gd 1 (by unfold Plain; decide)
/-- A function that gives a tree. -/
def GdF (A : List Tk) (f : M PT) (C : Nat) : Prop := ∀ s, Gd A s (f s).1 (f s).2 C
theorem more_kd {el : M PT} (h : GdF A el C) (hC : C ≤ 100) : ∀ (n : Nat) (ks : List PT) (s s1 : Ps), Kd A b ks s s1 D → Kd A b (more A el n ks s1).1 s (more A el n ks s1).2 D
  | 0, ks, s, s1, k => k
  | n + 1, ks, s, s1, k => by
    rw [more]
    split
    · exact more_kd h hC n _ s _ ((k.snoc ((h _).free)).le (by omega))
    · exact k
theorem elements_kd {el : M PT} (h : GdF A el C) (hC : C ≤ 100) (hb : b ≤ s.at_) : Kd A b (elements A el s).1 s (elements A el s).2 C := by
  unfold elements
  simp only
  split
  · exact ((Kd.nil hb ((demand_md _).trans (demand_md _))).le (Nat.zero_le _))
  · refine (more_kd h hC _ _ s _ ?_).move (demand_md _)
    exact ((Kd.nil hb (demand_md _)).snoc (h _)).le (by omega)
theorem list1_gd (kind : Int) {el : M PT} (h : GdF A el C) (hC : C ≤ 100) (hn : Plain kind) : GdF A (list1 A kind el) (C + 1) := fun s =>
  .node kind _ (elements_kd h hC (Nat.le_refl _)) rfl hn
theorem column_gd : GdF A (column A) 2 := fun s =>
  .node 11 _ (((Kd.nil (Nat.le_refl _) (name_md.trans (demand_md _))).snoc named_gd).le (by omega : 0 + 1 ≤ 1)) rfl (by unfold Plain; decide)
theorem columns_gd : GdF A (columns A) 3 := list1_gd 10 column_gd (by omega) (by unfold Plain; decide)
theorem limits_gd : GdF A (limits A) 3 := fun s =>
  .node 12 _ (((((Kd.nil (Nat.le_refl _) (.refl _)).snoc integer_gd).move (demand_md _)).snoc integer_gd).le (by omega : 0 + 1 + 1 ≤ 2)) rfl (by unfold Plain; decide)
theorem bound_gd {kid : M PT} (h : GdF A kid 1) : GdF A (bound A kid) 2 := fun s => by
  unfold bound
  simp only
  have hm : Md s (if isB A [(ByteArray.mk #[60, 61]), (ByteArray.mk #[62, 61])] s = true then next A s else (⟨#[]⟩, report 4 ((ByteArray.mk #[60, 61])) s)).2 := by
    split
    · exact next_md
    · exact report_md _ _
  exact .node 19 _ (((Kd.nil (Nat.le_refl _) hm).snoc (h _)).le (by omega : 0 + 1 ≤ 1)) rfl (by unfold Plain; decide)
theorem argument_gd : GdF A (argument A) 1 := fun s => by
  unfold argument
  split
  · exact named_gd
  · split
    · exact number_gd
    · exact missing_gd' 0 4 _ (by unfold Plain; decide)
theorem Kd.back (h : Kd A b ks s1 s2 C) (m : Md s s1) (hb : s.at_ ≤ b) : Kd A s.at_ ks s s2 C :=
  ⟨m.trans h.md, Nat.le_refl _, nsts_lo h.nst hb, by have := h.cnt; have := m.mono; omega, h.nmd⟩
theorem cell_gd : GdF A (cell A) 2 := fun s =>
  .node 22 _ ((elements_kd argument_gd (by omega) (Nat.le_refl _)).back name_md name_md.mono) rfl (by unfold Plain; decide)
/-- A node whose first token was read before, its kids counted from there on. -/
theorem Gd.nodeD (kind : Int) (text : ByteArray) {first : Nat} (h : Kd A first ks s s1 C) (m : Md s2 s) (hf : s2.at_ = first) (hn : Plain kind) (hD : C + 1 + 100 * s2.at_ ≤ 100 * s.at_ + D) : Gd A s2 (px.node kind first text ks s1) s1 D := by
  have g := Gd.node' kind text h m hf hn
  exact ⟨g.md, g.fr, g.to, g.nst, by have := h.cnt; simp only [px.node, PT.cnt]; omega, g.nmd⟩
theorem term_kd {first : Nat} (sign : ByteArray) (hf : first ≤ s.at_) : ∃ ks, (term A first sign s).1 = px.node 21 first sign ks (term A first sign s).2 ∧ Kd A first ks s (term A first sign s).2 6 := by
  unfold term
  simp only
  have h1 : Gd A s (if (tok A s).kind = 3 then ((number A s).1, (demand A ((ByteArray.mk #[42])) (number A s).2).2) else (missing 1 s, s)).1 (if (tok A s).kind = 3 then ((number A s).1, (demand A ((ByteArray.mk #[42])) (number A s).2).2) else (missing 1 s, s)).2 1 := by
    split
    · exact number_gd.behind (demand_md _)
    · exact missing_gd 1 (by unfold Plain; decide)
  generalize (if (tok A s).kind = 3 then ((number A s).1, (demand A ((ByteArray.mk #[42])) (number A s).2).2) else (missing 1 s, s)) = f at *
  have h2 : Gd A f.2 (if isB A [(ByteArray.mk #[115, 117, 109])] f.2 = true then columns A (next A f.2).2 else (missing 1 f.2, f.2)).1 (if isB A [(ByteArray.mk #[115, 117, 109])] f.2 = true then columns A (next A f.2).2 else (missing 1 f.2, f.2)).2 3 := by
    split
    · exact (columns_gd _).before next_md
    · exact (missing_gd 1 (by unfold Plain; decide)).le (by omega)
  generalize (if isB A [(ByteArray.mk #[115, 117, 109])] f.2 = true then columns A (next A f.2).2 else (missing 1 f.2, f.2)) = o at *
  exact ⟨_, rfl, (((Kd.nil hf (.refl _)).snoc h1).snoc h2).snoc (cell_gd _) |>.le (by omega)⟩
theorem terms_kd : ∀ (n : Nat) (ks : List PT) (s s1 : Ps), Kd A b ks s s1 D → Kd A b (terms A n ks s1).1 s (terms A n ks s1).2 D
  | 0, ks, s, s1, k => k
  | n + 1, ks, s, s1, k => by
    rw [terms]
    split
    · simp only
      obtain ⟨l, e, h⟩ := term_kd (A := A) (s := (next A s1).2) (first := s1.at_) (next A s1).1 (Nat.le_succ _)
      have g : Gd A s1 (term A s1.at_ (next A s1).1 (next A s1).2).1 (term A s1.at_ (next A s1).1 (next A s1).2).2 0 := by
        rw [e]
        exact .nodeD 21 _ h next_md rfl (by unfold Plain; decide) (by simp only [next]; omega)
      exact terms_kd n _ s _ ((k.snoc g).le (by omega))
    · exact k
theorem total_gd : GdF A (total A) 8 := fun s => by
  unfold total
  simp only
  have hm : Md s (if isB A [(ByteArray.mk #[45])] s = true then next A s else ((ByteArray.mk #[43]), s)).2 := by
    split
    · exact next_md (A := A)
    · exact .refl _
  generalize (if isB A [(ByteArray.mk #[45])] s = true then next A s else ((ByteArray.mk #[43]), s)) = r at *
  obtain ⟨l, e, h⟩ := term_kd (A := A) (s := r.2) (first := s.at_) r.1 hm.mono
  have g : Gd A s (term A s.at_ r.1 r.2).1 (term A s.at_ r.1 r.2).2 7 := by
    rw [e]
    exact .nodeD 21 _ h hm rfl (by unfold Plain; decide) (by have := hm.mono; omega)
  exact .node 20 _ (terms_kd _ _ s _ (((Kd.nil (Nat.le_refl _) (.refl _)).snoc g).le (by omega : 0 + 7 ≤ 7))) rfl (by unfold Plain; decide)
theorem names_gd : GdF A (names A) 2 := list1_gd 18 (fun _ => named_gd) (by omega) (by unfold Plain; decide)
theorem part_gd : GdF A (part A) 14 := fun s => by
  have P13 : Plain 13 := by unfold Plain; decide
  have P14 : Plain 14 := by unfold Plain; decide
  have P15 : Plain 15 := by unfold Plain; decide
  have P16 : Plain 16 := by unfold Plain; decide
  have P17 : Plain 17 := by unfold Plain; decide
  have hB : ∀ s, Gd A s (bound A (integer A) s).1 (bound A (integer A) s).2 2 := bound_gd (fun _ => integer_gd)
  unfold part
  split
  · exact (Gd.node 13 _ ((Kd.nil (Nat.le_refl _) ((next_md (A := A)).trans (name_md (A := A)))).snoc (names_gd _)) rfl P13).le (by omega)
  · split
    · exact (Gd.node 14 _ ((((((Kd.nil (Nat.le_refl _) (((next_md (A := A)).trans (name_md (A := A))).trans (demand_md _))).snoc named_gd).move (demand_md _)).move (demand_md _)).snoc named_gd).snoc (maybe_gd _)) rfl P14).le (by omega)
    · split
      · exact (Gd.node 15 _ (((Kd.nil (Nat.le_refl _) ((next_md (A := A)).trans (name_md (A := A)))).snoc (names_gd _)).snoc (hB _)) rfl P15).le (by omega)
      · split
        · exact (Gd.node 16 _ (Kd.nil (Nat.le_refl _) ((next_md (A := A)).trans (name_md (A := A)))) rfl P16).le (by omega)
        · split
          · exact (Gd.node 17 _ ((((Kd.nil (Nat.le_refl _) (next_md (A := A))).snoc (columns_gd _)).snoc (total_gd _)).snoc (hB _)) rfl P17).le (by omega)
          · exact (missing_gd' 0 4 _ (by unfold Plain; decide)).le (by omega)
theorem parameter_gd : GdF A (parameter A) 4 := fun s => by
  unfold parameter
  simp only
  have h : Gd A (name A s).2 (if isB A [(ByteArray.mk #[58])] (name A s).2 = true then named A (next A (name A s).2).2 else if isB A [(ByteArray.mk #[105, 110])] (name A s).2 = true then limits A (next A (name A s).2).2 else (missing 0 (report 4 ((ByteArray.mk #[58])) (name A s).2), report 4 ((ByteArray.mk #[58])) (name A s).2)).1 (if isB A [(ByteArray.mk #[58])] (name A s).2 = true then named A (next A (name A s).2).2 else if isB A [(ByteArray.mk #[105, 110])] (name A s).2 = true then limits A (next A (name A s).2).2 else (missing 0 (report 4 ((ByteArray.mk #[58])) (name A s).2), report 4 ((ByteArray.mk #[58])) (name A s).2)).2 3 := by
    split
    · exact (named_gd.before next_md).le (by omega)
    · split
      · exact ((limits_gd _).before next_md).le (by omega)
      · exact (missing_gd' 0 4 _ (by unfold Plain; decide)).le (by omega)
  exact .node 24 _ (((Kd.nil (Nat.le_refl _) name_md).snoc h).le (by omega : 0 + 3 ≤ 3)) rfl (by unfold Plain; decide)
theorem binMore_gd {operand : M PT} (h : GdF A operand 1) (ops : List ByteArray) {s0 : Ps} : ∀ (k : Nat) (n : PT) (s : Ps), Gd A s0 n s 1 → Gd A s0 (binMore A operand ops s0.at_ k n s).1 (binMore A operand ops s0.at_ k n s).2 1
  | 0, n, s, g => g
  | k + 1, n, s, g => by
    rw [binMore]
    split
    · simp only
      refine binMore_gd h ops k _ _ ?_
      exact (Gd.node 40 _ ((((Kd.nil (Nat.le_refl _) (.refl _)).snoc g).snoc ((h _).free)).le (by omega : 0 + 1 + (1 - 100) ≤ 0 + 1)) rfl (by unfold Plain; decide)) |> fun (g2 : Gd A s0 _ _ (0 + 1 + 1)) => ⟨g2.md, g2.fr, g2.to, g2.nst, by
        have h1 := g.cnt
        have h2 := (h (next A s).2).cnt
        simp only [next, px.node, PT.cnt, PT.cnts] at h2 ⊢
        omega, g2.nmd⟩
    · exact g
theorem binary_gd {operand : M PT} (h : GdF A operand 1) (ops : List ByteArray) : GdF A (binary A operand ops) 1 := fun s => binMore_gd h ops _ _ _ (h s)
theorem primary_gd {ex : M PT} (h : GdF A ex 1) : GdF A (primary A ex) 1 := fun s => by
  unfold primary
  split
  · exact number_gd
  · split
    · exact named_gd
    · split
      · exact ((h _).before next_md).behind (demand_md _)
      · exact missing_gd' 0 5 _ (by unfold Plain; decide)
theorem pre_gd (w : ByteArray) {base : M PT} (h : GdF A base 1) : ∀ n, GdF A (pre A w base n) 1
  | 0 => h
  | n + 1 => fun s => by
    rw [pre]
    split
    · exact .nodeD 39 _ (((Kd.nil (Nat.le_succ _) (.refl _)).snoc (pre_gd w h n _)).le (by omega : 0 + 1 ≤ 1)) next_md rfl (by unfold Plain; decide) (by simp only [next]; omega)
    · exact h s
theorem product_gd {ex : M PT} (h : GdF A ex 1) : GdF A (product A ex) 1 := binary_gd (pre_gd _ (primary_gd h) _) _
theorem difference_gd {ex : M PT} (h : GdF A ex 1) : GdF A (difference A ex) 1 := binary_gd (product_gd h) _
theorem comparison_gd {ex : M PT} (h : GdF A ex 1) : GdF A (comparison A ex) 1 := fun s => by
  unfold comparison
  simp only
  have g := difference_gd h s
  split
  · have g2 := (Gd.node 40 (next A (difference A ex s).2).1 (((Kd.nil (Nat.le_refl _) (.refl _)).snoc g).snoc ((difference_gd h _).free)) rfl (by unfold Plain; decide))
    exact ⟨g2.md, g2.fr, g2.to, g2.nst, by
      have h1 := g.cnt
      have h2 := (difference_gd h (next A (difference A ex s).2).2).cnt
      simp only [next, px.node, PT.cnt, PT.cnts] at h2 ⊢
      omega, g2.nmd⟩
  · exact g
theorem negation_gd {ex : M PT} (h : GdF A ex 1) : GdF A (negation A ex) 1 := pre_gd _ (comparison_gd h) _
theorem conjunction_gd {ex : M PT} (h : GdF A ex 1) : GdF A (conjunction A ex) 1 := binary_gd (negation_gd h) _
theorem expr_gd : ∀ n, GdF A (expr A n) 1
  | 0 => fun s => missing_gd 0 (by unfold Plain; decide)
  | n + 1 => binary_gd (conjunction_gd (expr_gd n)) _
theorem expression_gd : GdF A (expression A) 1 := expr_gd _
theorem skipTo_md (stop : Ps → Bool) : ∀ (n : Nat) (s : Ps), Md s (skipTo A stop n s)
  | 0, s => .refl _
  | n + 1, s => by
    rw [skipTo]
    split
    · exact .refl _
    · split
      · exact next_md (A := A)
      · exact (next_md (A := A)).trans (skipTo_md stop n _)
theorem skipped_gd : GdF A (skipped A) 0 := fun s => by
  unfold skipped
  simp only
  have hm : Md (next A (report 6 ⟨#[]⟩ s)).2 (if (next A (report 6 ⟨#[]⟩ s)).1 = (ByteArray.mk #[59]) then (next A (report 6 ⟨#[]⟩ s)).2 else skipTo A (fun s => atEnd A s || isB A [(ByteArray.mk #[125])] s || declares A s || states A s) A.length (next A (report 6 ⟨#[]⟩ s)).2) := by
    split
    · exact .refl _
    · exact skipTo_md _ _ _
  generalize (if (next A (report 6 ⟨#[]⟩ s)).1 = (ByteArray.mk #[59]) then (next A (report 6 ⟨#[]⟩ s)).2 else skipTo A (fun s => atEnd A s || isB A [(ByteArray.mk #[125])] s || declares A s || states A s) A.length (next A (report 6 ⟨#[]⟩ s)).2) = s2 at *
  exact .nodeD 0 _ (.nil (Nat.le_succ _) hm) ((report_md 6 _).trans next_md) rfl (by unfold Plain; decide) (by simp only [next, report]; omega)
theorem atEnd_beyond (h : A.length ≤ s.at_) : atEnd A s = true := by
  unfold atEnd tok
  rw [List.getD_eq_getElem?_getD, List.getElem?_eq_none h]
  rfl
/-- A function that gives a statement, where fewer than n tokens are to come. -/
def StF (A : List Tk) (st : M PT) (n : Nat) : Prop := ∀ s, A.length < s.at_ + n → atEnd A s = false → Gd A s (st s).1 (st s).2 0
theorem stmts_kd {st : M PT} {n : Nat} (h : StF A st n) : ∀ (k : Nat) (ks : List PT) (s s1 : Ps), A.length < s1.at_ + n → Kd A b ks s s1 D → Kd A b (stmts A st k ks s1).1 s (stmts A st k ks s1).2 D
  | 0, ks, s, s1, _, kd => kd
  | k + 1, ks, s, s1, hn, kd => by
    rw [stmts]
    split
    · exact kd
    · rename_i hc
      have he : atEnd A s1 = false := by
        cases e : atEnd A s1 with
        | false => rfl
        | true => rw [e] at hc; simp at hc
      have g := h s1 hn he
      exact stmts_kd h k _ s _ (by have := g.md.mono; omega) ((kd.snoc g).le (by omega))
theorem block_gd {st : M PT} {n : Nat} (h : StF A st n) (hn : A.length < s.at_ + n) : Gd A s (block A st s).1 (block A st s).2 1 := by
  unfold block
  simp only
  have hm := demand_md (A := A) (s := s) ((ByteArray.mk #[123]))
  split
  · exact .node 25 _ ((stmts_kd h _ _ s _ (by have := hm.mono; omega) (.nil (Nat.le_refl _) hm)).move (demand_md _)) rfl (by unfold Plain; decide)
  · exact (missing_gd 25 (by unfold Plain; decide)).before hm
theorem stmt_gd : ∀ n, StF A (stmt A n) n
  | 0 => fun s hn he => by
    rw [atEnd_beyond (by omega)] at he
    cases he
  | n + 1 => fun s hn he => by
    by_cases hst : states A s = false
    · have e : stmt A (n + 1) s = skipped A s := by rw [stmt]; simp only [if_pos hst]
      rw [e]
      exact skipped_gd s
    · rw [stmt]
      simp only [if_neg hst]
      have hx := next_md (A := A) (s := s)
      have hx1 : (next A s).2.at_ = s.at_ + 1 := rfl
      generalize next A s = w at *
      split
      · have hc := column_gd (A := A) w.2
        generalize column A w.2 = c at *
        have he2 : Gd A c.2 (if isB A [(ByteArray.mk #[119, 104, 101, 114, 101])] c.2 = true then expression A (next A c.2).2 else (missing 1 c.2, c.2)).1 (if isB A [(ByteArray.mk #[119, 104, 101, 114, 101])] c.2 = true then expression A (next A c.2).2 else (missing 1 c.2, c.2)).2 1 := by
          split
          · exact (expression_gd _).before next_md
          · exact missing_gd 1 (by unfold Plain; decide)
        generalize (if isB A [(ByteArray.mk #[119, 104, 101, 114, 101])] c.2 = true then expression A (next A c.2).2 else (missing 1 c.2, c.2)) = e at *
        have hb := block_gd (s := e.2) (stmt_gd n) (by have := hc.md.mono; have := he2.md.mono; omega)
        exact .nodeD 34 _ ((((Kd.nil (Nat.le_of_eq hx1.symm |> fun h => Nat.le_of_succ_le h) (.refl _)).snoc hc).snoc he2).snoc hb) hx rfl (by unfold Plain; decide) (by omega)
      · have hk : ∀ r : (Int × List PT) × Ps, Plain r.1.1 → Kd A s.at_ r.1.2 w.2 r.2 12 → Gd A s (px.node r.1.1 s.at_ ⟨#[]⟩ r.1.2 (demand A ((ByteArray.mk #[59])) r.2).2) (demand A ((ByteArray.mk #[59])) r.2).2 0 := fun r hp k =>
          .nodeD _ _ (k.move (demand_md _)) hx rfl hp (by omega)
        have hB : ∀ s, Gd A s (bound A (expression A) s).1 (bound A (expression A) s).2 2 := bound_gd expression_gd
        have hs : s.at_ ≤ w.2.at_ := hx.mono
        refine hk _ ?_ ?_
        · split
          · exact (by unfold Plain; decide : Plain 26)
          · split
            · exact (by unfold Plain; decide : Plain 27)
            · split
              · exact (by unfold Plain; decide : Plain 28)
              · split
                · exact (by unfold Plain; decide : Plain 29)
                · split
                  · exact (by unfold Plain; decide : Plain 31)
                  · split
                    · exact (by unfold Plain; decide : Plain 32)
                    · split
                      · exact (by unfold Plain; decide : Plain 30)
                      · exact (by unfold Plain; decide : Plain 33)
        · split
          · exact ((Kd.nil hs (.refl _)).snoc (expression_gd _)).le (by omega)
          · split
            · exact (((Kd.nil hs (.refl _)).snoc (total_gd _)).snoc (hB _)).le (by omega)
            · split
              · exact ((Kd.nil hs (.refl _)).snoc (cell_gd _)).le (by omega)
              · split
                · exact ((Kd.nil hs (.refl _)).snoc (cell_gd _)).le (by omega)
                · split
                  · exact ((Kd.nil hs (.refl _)).snoc (cell_gd _)).le (by omega)
                  · split
                    · exact ((Kd.nil hs (.refl _)).snoc (cell_gd _)).le (by omega)
                    · split
                      · exact ((((Kd.nil hs (.refl _)).snoc (expression_gd _)).move (demand_md _)).snoc (cell_gd _)).le (by omega)
                      · exact ((((Kd.nil hs (.refl _)).snoc (cell_gd _)).move (demand_md _)).snoc (expression_gd _)).le (by omega)
theorem statement_gd : StF A (statement A) (A.length + 1) := stmt_gd _
theorem skipDecl_md : ∀ (n : Nat) (s : Ps), Md s (skipDecl A n s)
  | 0, s => .refl _
  | n + 1, s => by
    rw [skipDecl]
    split
    · exact .refl _
    · exact (next_md (A := A)).trans (skipDecl_md n _)
theorem declaration_gd : GdF A (declaration A) 0 := fun s => by
  unfold declaration
  split
  · simp only
    exact .nodeD 0 _ (.nil (Nat.le_succ _) (skipDecl_md _ _)) ((report_md 7 _).trans next_md) rfl (by unfold Plain; decide) (by simp only [next, report]; omega)
  · simp only
    have hx : Md s (name A (next A s).2).2 := (next_md (A := A)).trans name_md
    have hx1 : s.at_ + 1 ≤ (name A (next A s).2).2.at_ := (name_md (A := A) (s := (next A s).2)).mono
    generalize name A (next A s).2 = n at *
    have hs : s.at_ ≤ n.2.at_ := hx.mono
    split
    · have hp := list1_gd (A := A) 23 parameter_gd (by omega) (by unfold Plain; decide) n.2
      generalize list1 A 23 (parameter A) n.2 = p at *
      have ho := maybe_gd (A := A) (s := p.2) ((ByteArray.mk #[111, 114, 100, 101, 114, 101, 100]))
      generalize maybe A ((ByteArray.mk #[111, 114, 100, 101, 114, 101, 100])) p.2 = o at *
      have hb := block_gd (s := o.2) (statement_gd (A := A)) (by omega)
      exact .nodeD 9 _ ((((Kd.nil hs (.refl _)).snoc hp).snoc ho).snoc hb) hx rfl (by unfold Plain; decide) (by omega)
    · have hk : ∀ r : (Int × List PT) × Ps, Plain r.1.1 → Kd A s.at_ r.1.2 n.2 r.2 20 → Gd A s (px.node r.1.1 s.at_ n.1 r.1.2 (demand A ((ByteArray.mk #[59])) r.2).2) (demand A ((ByteArray.mk #[59])) r.2).2 0 := fun r hp k =>
        .nodeD _ _ (k.move (demand_md _)) hx rfl hp (by omega)
      refine hk _ ?_ ?_
      · split
        · exact (by unfold Plain; decide : Plain 3)
        · split
          · exact (by unfold Plain; decide : Plain 4)
          · split
            · exact (by unfold Plain; decide : Plain 5)
            · split
              · exact (by unfold Plain; decide : Plain 6)
              · split
                · exact (by unfold Plain; decide : Plain 7)
                · exact (by unfold Plain; decide : Plain 8)
      · split
        · exact ((Kd.nil hs (.refl _)).snoc number_gd).le (by omega)
        · split
          · exact ((Kd.nil hs (.refl _)).snoc (columns_gd _)).le (by omega)
          · split
            · exact ((((Kd.nil hs (.refl _)).snoc (columns_gd _)).move (demand_md _)).snoc (limits_gd _)).le (by omega)
            · split
              · exact (((Kd.nil hs (.refl _)).snoc (columns_gd _)).snoc (chosen_gd _)).le (by omega)
              · split
                · exact (((((Kd.nil hs (.refl _)).snoc (columns_gd _)).move (demand_md _)).snoc (limits_gd _)).snoc (chosen_gd _)).le (by omega)
                · exact (((Kd.nil hs (demand_md _)).snoc (part_gd _))).le (by omega)
theorem decls_kd : ∀ (k : Nat) (ks : List PT) (s s1 : Ps), Kd A b ks s s1 D → Kd A b (decls A k ks s1).1 s (decls A k ks s1).2 D
  | 0, ks, s, s1, kd => kd
  | k + 1, ks, s, s1, kd => by
    rw [decls]
    split
    · exact kd
    · exact decls_kd k _ s _ ((kd.snoc (declaration_gd _)).le (by omega))
end
/-- What is right of the declarations of a text. -/
theorem parse_kd (A : List Tk) : Kd A 0 (decls A A.length [] ⟨0, []⟩).1 ⟨0, []⟩ (decls A A.length [] ⟨0, []⟩).2 0 := decls_kd _ _ _ _ (.nil (Nat.le_refl _) (.refl _))
end Go.Proofs.YthggagophcnkfaaGreatDoor.px
