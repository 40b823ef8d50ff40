/- Stable sorting, as plain laws on lists of diagnostics. No function of the program is walked here. A slice of diagnostics that is sorted in place: how it lies; the walks of the comparison and of the exchange of two stretches. The walk of the rotation of two stretches of a slice of diagnostics. -/
import Derived.Test.YthggagophcnkfaaGreatDoorM1
import Derived.Test.YthggagophcnkfaaGreatDoorTk
import Derived.Test.YthggagophcnkfaaGreatDoorM5
import Derived.BigQuiet
import Derived.Deep.RegionHeld3
import Derived.IntWalk
namespace Go.Proofs.YthggagophcnkfaaGreatDoor.so
open Go.RowKit Go.Proofs.YthggagophcnkfaaGreatDoor.px
set_option linter.unusedSimpArgs false
set_option linter.unusedVariables false
def Srt (l : List Dg) : Prop := l.Pairwise (fun a b => a.at_ ≤ b.at_)
def Like (l m : List Dg) : Prop := ∀ k : Int, l.filter (fun x => x.at_ == k) = m.filter (fun x => x.at_ == k)
theorem Like.refl (l : List Dg) : Like l l := fun _ => rfl
theorem Like.symm {l m : List Dg} (h : Like l m) : Like m l := fun k => (h k).symm
theorem Like.trans {l m n : List Dg} (h : Like l m) (k : Like m n) : Like l n := fun i => (h i).trans (k i)
theorem Like.app {a b c d : List Dg} (h : Like a b) (k : Like c d) : Like (a ++ c) (b ++ d) := fun i => by
 rw [List.filter_append, List.filter_append, h i, k i]
theorem Like.mem {l m : List Dg} (h : Like l m) {x : Dg} (hx : x ∈ l) : x ∈ m := by
 have h1 : x ∈ l.filter (fun y => y.at_ == x.at_) := List.mem_filter.2 ⟨hx, by simp⟩
 rw [h] at h1
 exact (List.mem_filter.1 h1).1
theorem Like.comm {A B : List Dg} (h : ∀ a ∈ A, ∀ b ∈ B, a.at_ ≠ b.at_) : Like (A ++ B) (B ++ A) := fun k => by
 rw [List.filter_append, List.filter_append]
 by_cases ha : A.filter (fun x => x.at_ == k) = []
 ·rw [ha]; simp
 ·obtain ⟨a, ha'⟩ := List.exists_mem_of_ne_nil _ ha
  have hb : B.filter (fun x => x.at_ == k) = [] := by
   rw [List.filter_eq_nil_iff]
   intro b hb e
   have h1 := (List.mem_filter.1 ha').2
   simp only [beq_iff_eq] at h1 e
   exact h a (List.mem_filter.1 ha').1 b hb (by omega)
  rw [hb]; simp
theorem like_nil {m : List Dg} (h : Like [] m) : m = [] := by
 cases m with
 | nil => rfl
 | cons x m => exact absurd (h.symm.mem (List.mem_cons_self ..)) (by simp)
theorem srt_unique : ∀ {l m : List Dg}, Srt l → Srt m → Like l m → l = m
 | [], m, _, _, h => (like_nil h).symm
 | a :: l, [], _, _, h => absurd (h.mem (List.mem_cons_self ..)) (by simp)
 | a :: l, b :: m, hl, hm, h => by
  have ha : a ∈ b :: m := h.mem (List.mem_cons_self ..)
  have hb : b ∈ a :: l := h.symm.mem (List.mem_cons_self ..)
  have e : a.at_ = b.at_ := by
   have h1 : b.at_ ≤ a.at_ := by
    rcases List.mem_cons.1 ha with rfl | h'
    ·exact Int.le_refl _
    ·exact (List.pairwise_cons.1 hm).1 a h'
   have h2 : a.at_ ≤ b.at_ := by
    rcases List.mem_cons.1 hb with rfl | h'
    ·exact Int.le_refl _
    ·exact (List.pairwise_cons.1 hl).1 b h'
   omega
  have hk := h a.at_
  rw [List.filter_cons_of_pos (by simp), List.filter_cons_of_pos (by simp [e])] at hk
  have e2 : a = b := (List.cons.inj hk).1
  subst e2
  have ht : Like l m := fun k => by
   have hk := h k
   by_cases hak : a.at_ = k
   ·rw [List.filter_cons_of_pos (by simp [hak]), List.filter_cons_of_pos (by simp [hak])] at hk
    exact (List.cons.inj hk).2
   ·rw [List.filter_cons_of_neg (by simp [hak]), List.filter_cons_of_neg (by simp [hak])] at hk
    exact hk
  rw [srt_unique (List.pairwise_cons.1 hl).2 (List.pairwise_cons.1 hm).2 ht]
theorem put_mem {d x : Dg} {l : List Dg} : x ∈ put d l ↔ x = d ∨ x ∈ l := by
 induction l with
 | nil => simp [put]
 | cons y l ih =>
  rw [put]
  split
  ·simp [List.mem_cons]
  ·simp only [List.mem_cons, ih]
   constructor
   ·rintro (h | h | h)
    ·exact .inr (.inl h)
    ·exact .inl h
    ·exact .inr (.inr h)
   ·rintro (h | h | h)
    ·exact .inr (.inl h)
    ·exact .inl h
    ·exact .inr (.inr h)
theorem put_srt {d : Dg} {l : List Dg} (h : Srt l) : Srt (put d l) := by
 induction l with
 | nil => simp [put, Srt]
 | cons y l ih =>
  obtain ⟨h1, h2⟩ := List.pairwise_cons.1 h
  rw [put]
  split
  ·rename_i hlt
   refine List.pairwise_cons.2 ⟨fun x hx => ?_, h⟩
   rcases List.mem_cons.1 hx with rfl | hx
   ·omega
   ·have := h1 x hx; omega
  ·rename_i hlt
   refine List.pairwise_cons.2 ⟨fun x hx => ?_, ih h2⟩
   rcases put_mem.1 hx with rfl | hx
   ·omega
   ·exact h1 x hx
theorem put_like {d : Dg} {l : List Dg} (h : Srt l) : Like (l ++ [d]) (put d l) := by
 induction l with
 | nil => exact .refl _
 | cons y l ih =>
  obtain ⟨h1, h2⟩ := List.pairwise_cons.1 h
  rw [put]
  split
  ·rename_i hlt
   refine Like.comm (B := [d]) fun a ha b hb => ?_
   obtain rfl := List.mem_singleton.1 hb
   rcases List.mem_cons.1 ha with rfl | ha
   ·omega
   ·have := h1 a ha; omega
  ·exact Like.app (Like.refl [y]) (ih h2)
theorem foldl_put (l : List Dg) : ∀ acc : List Dg, Srt acc → Srt (l.foldl (fun acc d => put d acc) acc) ∧ Like (acc ++ l) (l.foldl (fun acc d => put d acc) acc) := by
 induction l with
 | nil => intro acc h; exact ⟨h, by simpa using Like.refl acc⟩
 | cons d l ih =>
  intro acc h
  obtain ⟨h1, h2⟩ := ih (put d acc) (put_srt h)
  refine ⟨h1, ?_⟩
  have h3 : Like ((acc ++ [d]) ++ l) (put d acc ++ l) := (put_like h).app (.refl l)
  rw [List.append_assoc] at h3
  exact h3.trans h2
theorem sortD_srt (l : List Dg) : Srt (sortD l) := (foldl_put l [] List.Pairwise.nil).1
theorem sortD_like (l : List Dg) : Like l (sortD l) := (foldl_put l [] List.Pairwise.nil).2
theorem sortD_unique {l m : List Dg} (h : Srt m) (hl : Like l m) : m = sortD l := srt_unique h (sortD_srt l) (hl.symm.trans (sortD_like l))
theorem srt_app {a b : List Dg} : Srt (a ++ b) ↔ Srt a ∧ Srt b ∧ ∀ x ∈ a, ∀ y ∈ b, x.at_ ≤ y.at_ := List.pairwise_append
theorem merge_core {U1 U2 V1 V2 W1 W2 : List Dg} (hU : Srt (U1 ++ U2)) (hV : Srt (V1 ++ V2)) (h1 : ∀ u ∈ U1, ∀ v ∈ V2, u.at_ ≤ v.at_) (h2 : ∀ v ∈ V1, ∀ u ∈ U2, v.at_ < u.at_)
 (s1 : Srt W1) (l1 : Like (U1 ++ V1) W1) (s2 : Srt W2) (l2 : Like (U2 ++ V2) W2) : Srt (W1 ++ W2) ∧ Like ((U1 ++ U2) ++ (V1 ++ V2)) (W1 ++ W2) := by
 obtain ⟨_, _, hU'⟩ := srt_app.1 hU
 obtain ⟨_, _, hV'⟩ := srt_app.1 hV
 constructor
 ·refine srt_app.2 ⟨s1, s2, fun x hx y hy => ?_⟩
  rcases List.mem_append.1 (l1.symm.mem hx) with hx | hx <;> rcases List.mem_append.1 (l2.symm.mem hy) with hy | hy
  ·exact hU' x hx y hy
  ·exact h1 x hx y hy
  ·exact Int.le_of_lt (h2 x hx y hy)
  ·exact hV' x hx y hy
 ·have h3 : Like (U2 ++ V1) (V1 ++ U2) := Like.comm fun a ha b hb => by have := h2 b hb a ha; omega
  have h4 := (Like.refl U1).app (h3.app (Like.refl V2))
  have h5 := l1.app l2
  simp only [List.append_assoc] at h4 h5 ⊢
  exact h4.trans h5
theorem merge_left {x : Dg} {V1 V2 : List Dg} (hV : Srt (V1 ++ V2)) (h1 : ∀ v ∈ V1, v.at_ < x.at_) (h2 : ∀ v ∈ V2, x.at_ ≤ v.at_) : Srt (V1 ++ ([x] ++ V2)) ∧ Like ([x] ++ (V1 ++ V2)) (V1 ++ ([x] ++ V2)) := by
 obtain ⟨a, b, c⟩ := srt_app.1 hV
 constructor
 ·refine srt_app.2 ⟨a, List.pairwise_cons.2 ⟨h2, b⟩, fun u hu v hv => ?_⟩
  rcases List.mem_cons.1 hv with rfl | hv
  ·exact Int.le_of_lt (h1 u hu)
  ·exact c u hu v hv
 ·have h3 : Like ([x] ++ V1) (V1 ++ [x]) := Like.comm fun a ha b hb => by
   obtain rfl := List.mem_singleton.1 ha
   have := h1 b hb; omega
  have h4 := h3.app (Like.refl V2)
  simpa only [List.append_assoc] using h4
theorem merge_right {x : Dg} {U1 U2 : List Dg} (hU : Srt (U1 ++ U2)) (h1 : ∀ v ∈ U1, v.at_ ≤ x.at_) (h2 : ∀ v ∈ U2, x.at_ < v.at_) : Srt (U1 ++ ([x] ++ U2)) ∧ Like ((U1 ++ U2) ++ [x]) (U1 ++ ([x] ++ U2)) := by
 obtain ⟨a, b, c⟩ := srt_app.1 hU
 constructor
 ·refine srt_app.2 ⟨a, List.pairwise_cons.2 ⟨fun v hv => Int.le_of_lt (h2 v hv), b⟩, fun u hu v hv => ?_⟩
  rcases List.mem_cons.1 hv with rfl | hv
  ·exact h1 u hu
  ·exact c u hu v hv
 ·have h3 : Like (U2 ++ [x]) ([x] ++ U2) := Like.comm fun a ha b hb => by
   obtain rfl := List.mem_singleton.1 hb
   have := h2 a ha; omega
  have h4 := (Like.refl U1).app h3
  simpa only [List.append_assoc] using h4
theorem srt_get {l : List Dg} (h : Srt l) {i j : Nat} (hi : i < l.length) (hj : j < l.length) (hij : i ≤ j) : l[i].at_ ≤ l[j].at_ := by
 rcases Nat.lt_or_eq_of_le hij with h1 | rfl
 ·exact (List.pairwise_iff_getElem.1 h) i j hi hj h1
 ·exact Int.le_refl _
end Go.Proofs.YthggagophcnkfaaGreatDoor.so
namespace Go.Proofs.YthggagophcnkfaaGreatDoor.so
open Go.RowKit Go.Proofs.YthggagophcnkfaaGreatDoor.agg Go.Proofs.YthggagophcnkfaaGreatDoor.sx Go.Proofs.YthggagophcnkfaaGreatDoor.px Go.Proofs.YthggagophcnkfaaGreatDoor.lx
set_option linter.unusedSimpArgs false
set_option linter.unusedVariables false
def ArrIn (w : World) (g cap : Nat) (l : List Dg) : Prop := w.ownsRow 0 34 4 (.slice (some ⟨g, 0, none⟩) l.length cap) l.length (dgV l)
def OkD (l : List Dg) : Prop := ∀ d ∈ l, 0 ≤ d.at_ ∧ d.at_ ≤ 4096
theorem dgV_get (L : List Dg) : ∀ {i : Nat} (hi : i < L.length) {j : Nat} {u : Value}, (L[i].cells).toList[j]? = some u → (dgV L)[i * 4 + j]? = some u := by
 induction L with
 | nil => intro i hi; simp at hi
 | cons x l ih =>
  intro i hi j u hu
  have hj : j < 4 := by
   have := (List.getElem?_eq_some_iff.1 hu).1
   simpa [Dg.cells] using this
  have e1 : dgV (x :: l) = x.cells.toList ++ dgV l := by simp [dgV]
  have hx : x.cells.toList.length = 4 := rfl
  rw [e1]
  cases i with
  | zero =>
   rw [List.getElem?_append_left (by omega)]
   simpa using hu
  | succ i =>
   rw [List.getElem?_append_right (by omega), hx]
   have e2 : (i + 1) * 4 + j - 4 = i * 4 + j := by omega
   rw [e2]
   exact ih (by simpa using hi) (by simpa using hu)
section
variable {w w' : World} {g cap : Nat} {l : List Dg}
theorem ArrIn.block (h : ArrIn w g cap l) : g < w.heap.size := (h.lt g rfl).2
theorem ArrIn.cell (h : ArrIn w g cap l) {i : Nat} (hi : i < l.length) : w.cell? ⟨g, i * 4, none⟩ = some (.int .i64 l[i].code) ∧ w.cell? ⟨g, i * 4 + 1, none⟩ = some (.int .i64 l[i].at_) ∧ w.cell? ⟨g, i * 4 + 2, none⟩ = some (.int .i64 l[i].to) ∧ w.cell? ⟨g, i * 4 + 3, none⟩ = some (.string l[i].text) := by
 refine ⟨?_, ?_, ?_, ?_⟩
 ·have := h.cells (g := g) rfl (i * 4 + 0) _ (dgV_get l hi (j := 0) rfl)
  simpa [Addr.add_lit] using this
 ·have := h.cells (g := g) rfl (i * 4 + 1) _ (dgV_get l hi (j := 1) rfl)
  simpa [Addr.add_lit] using this
 ·have := h.cells (g := g) rfl (i * 4 + 2) _ (dgV_get l hi (j := 2) rfl)
  simpa [Addr.add_lit] using this
 ·have := h.cells (g := g) rfl (i * 4 + 3) _ (dgV_get l hi (j := 3) rfl)
  simpa [Addr.add_lit] using this
theorem ArrIn.free (h : ArrIn w g cap l) (j : Nat) : w.frozen? ⟨g, j, none⟩ = false := h.frozenAt j
theorem ArrIn.same (h : ArrIn w g cap l) (hb : w'.heap[g]? = w.heap[g]?) : ArrIn w' g cap l := ownsRow_same h (fun k hk => by
 have e : g = k := by simpa [Value.ownBlock] using hk
 exact e ▸ hb)
theorem ArrIn.below (h : ArrIn w g cap l) (hb : Below w.heap.size w w') : ArrIn w' g cap l := h.same (hb.block g h.block)
theorem dgV_set (l : List Dg) : ∀ {i : Nat} (hi : i < l.length) (d : Dg), dgV (l.set i d) = ((((dgV l).set (i * 4) (.int .i64 d.code)).set (i * 4 + 1) (.int .i64 d.at_)).set (i * 4 + 2) (.int .i64 d.to)).set (i * 4 + 3) (.string d.text) := by
 induction l with
 | nil => intro i hi; simp at hi
 | cons x l ih =>
  intro i hi d
  have e1 : ∀ (y : Dg) (k : List Dg), dgV (y :: k) = Value.int .i64 y.code :: .int .i64 y.at_ :: .int .i64 y.to :: .string y.text :: dgV k := fun y k => by simp [dgV, Dg.cells]
  cases i with
  | zero => rw [List.set_cons_zero, e1, e1]; simp
  | succ i =>
   rw [List.set_cons_succ, e1, e1, ih (by simpa using hi) d]
   have h0 : (i + 1) * 4 = i * 4 + 4 := by omega
   rw [h0]
   simp [List.set_cons_succ]
theorem ArrIn.set (h : ArrIn w g cap l) {i : Nat} (hi : i < l.length) (d : Dg) :
 ArrIn ((((w.setCell ⟨g, i * 4, none⟩ (.int .i64 d.code)).setCell ⟨g, i * 4 + 1, none⟩ (.int .i64 d.at_)).setCell ⟨g, i * 4 + 2, none⟩ (.int .i64 d.to)).setCell ⟨g, i * 4 + 3, none⟩ (.string d.text)) g cap (l.set i d) := by
 unfold ArrIn
 rw [List.length_set, dgV_set l hi d]
 exact ((((h.stored (i * 4) _).1.stored (i * 4 + 1) _).1.stored (i * 4 + 2) _).1.stored (i * 4 + 3) _).1
abbrev gfoot (g : Nat) (k : Nat) : Prop := k = g
theorem kept_set4 (w : World) (g o : Nat) (a b c d : Value) : Kept (gfoot g) w ((((w.setCell ⟨g, o, none⟩ a).setCell ⟨g, o + 1, none⟩ b).setCell ⟨g, o + 2, none⟩ c).setCell ⟨g, o + 3, none⟩ d) :=
 (((Kept.setCell (F := gfoot g) w (a := ⟨g, o, none⟩) rfl a).trans (Kept.setCell (F := gfoot g) _ (a := ⟨g, o + 1, none⟩) rfl b)).trans (Kept.setCell (F := gfoot g) _ (a := ⟨g, o + 2, none⟩) rfl c)).trans (Kept.setCell (F := gfoot g) _ (a := ⟨g, o + 3, none⟩) rfl d)
end
theorem take_next {l l2 : List Dg} {k : Nat} {x : Dg} (h : l.drop k = x :: l2) : l.take (k + 1) = l.take k ++ [x] := by
 have hk : k < l.length := by
  rcases Nat.lt_or_ge k l.length with h1 | h1
  ·exact h1
  ·rw [List.drop_eq_nil_of_le h1] at h; cases h
 rw [List.drop_eq_getElem_cons hk] at h
 rw [List.take_succ_eq_append_getElem hk, (List.cons.inj h).1]
theorem drop_next {l l2 : List Dg} {k : Nat} {x : Dg} (h : l.drop k = x :: l2) : l.drop (k + 1) = l2 := by
 rw [← List.drop_drop, h]
 rfl
theorem set_two (P Q R : List Dg) (x y : Dg) : ((P ++ (x :: (Q ++ (y :: R)))).set P.length y).set (P.length + 1 + Q.length) x = P ++ (y :: (Q ++ (x :: R))) := by
 rw [List.set_append_right _ _ (Nat.le_refl _), Nat.sub_self, List.set_cons_zero]
 rw [List.set_append_right _ _ (by omega), show P.length + 1 + Q.length - P.length = Q.length + 1 by omega, List.set_cons_succ]
 rw [List.set_append_right _ _ (Nat.le_refl _), Nat.sub_self, List.set_cons_zero]
theorem set_two' (P Q R : List Dg) (x y : Dg) : ((P ++ (x :: (Q ++ (y :: R)))).set (P.length + 1 + Q.length) x).set P.length y = P ++ (y :: (Q ++ (x :: R))) := by
 rw [List.set_comm _ _ (show P.length + 1 + Q.length ≠ P.length by omega)]
 exact set_two P Q R x y
theorem ArrIn.two {w : World} {g cap : Nat} {P Q R : List Dg} {x y : Dg} (h : ArrIn w g cap (P ++ (x :: (Q ++ (y :: R))))) :
 (w.cell? ⟨g, P.length * 4, none⟩ = some (.int .i64 x.code) ∧ w.cell? ⟨g, P.length * 4 + 1, none⟩ = some (.int .i64 x.at_) ∧ w.cell? ⟨g, P.length * 4 + 2, none⟩ = some (.int .i64 x.to) ∧ w.cell? ⟨g, P.length * 4 + 3, none⟩ = some (.string x.text)) ∧
 (w.cell? ⟨g, (P.length + 1 + Q.length) * 4, none⟩ = some (.int .i64 y.code) ∧ w.cell? ⟨g, (P.length + 1 + Q.length) * 4 + 1, none⟩ = some (.int .i64 y.at_) ∧ w.cell? ⟨g, (P.length + 1 + Q.length) * 4 + 2, none⟩ = some (.int .i64 y.to) ∧ w.cell? ⟨g, (P.length + 1 + Q.length) * 4 + 3, none⟩ = some (.string y.text)) := by
 have h1 := h.cell (i := P.length) (by simp)
 have h2 := h.cell (i := P.length + 1 + Q.length) (by simp; omega)
 have e1 : (P ++ (x :: (Q ++ (y :: R))))[P.length]'(by simp) = x := by simp
 have e2 : (P ++ (x :: (Q ++ (y :: R))))[P.length + 1 + Q.length]'(by simp; omega) = y := by
  rw [List.getElem_append_right (by omega)]
  simp only [show P.length + 1 + Q.length - P.length = Q.length + 1 by omega, List.getElem_cons_succ]
  rw [List.getElem_append_right (by omega)]
  simp
 rw [e1] at h1
 rw [e2] at h2
 exact ⟨h1, h2⟩
def CmpEnd (w : World) (r : Int) (e : Ending) (w' : World) : Prop := e = .returned (.int .i64 r) ∧ Below w.heap.size w w'
set_option maxHeartbeats 1000000 in
theorem cmp_walk (w : World) (a b : Dg) (ha : 0 ≤ a.at_ ∧ a.at_ ≤ 4096) (hb : 0 ≤ b.at_ ∧ b.at_ ≤ 4096) :
 Calls Tryz.prog 76 #[.agg #[.int .i64 a.code, .int .i64 a.at_, .int .i64 a.to, .string a.text], .agg #[.int .i64 b.code, .int .i64 b.at_, .int .i64 b.to, .string b.text]] w (CmpEnd w (a.at_ - b.at_)) := by
 obtain ⟨ac, aa, at2, ax⟩ := a
 obtain ⟨bc, ba, bt, bx⟩ := b
 simp only at ha hb ⊢
 obtain ⟨h1, h2⟩ := ha
 obtain ⟨h3, h4⟩ := hb
 go_enter Tryz.func76, Tryz.ntmps76
 go_wp2_with fail
 go_ret
 exact ⟨rfl, ((Below.refl _ _).alloc (Nat.le_refl _) _).alloc (by simp) _⟩
theorem cmp_run : ∀ args w, (callFunc 76 args).run Tryz.prog w = .ok (.enter 76 args) w := enters_of Tryz.func76 (by kernel_rfl) rfl
def ArrEnd (w : World) (g cap : Nat) (Q : List Dg → Prop) (e : Ending) (w' : World) : Prop := ∃ l', e = .returned (.tuple #[]) ∧ Q l' ∧ ArrIn w' g cap l' ∧ Kept (gfoot g) w w'
set_option maxRecDepth 100000 in
set_option maxHeartbeats 4000000 in
theorem swap_walk {w : World} {g cap : Nat} (X A M B Y : List Dg) (hA : ArrIn w g cap (X ++ (A ++ (M ++ (B ++ Y))))) (hAB : A.length = B.length) (hn : (X ++ (A ++ (M ++ (B ++ Y)))).length ≤ 100000) (cf : Value) :
 Calls Tryz.prog 190 #[.slice (some ⟨g, 0, none⟩) (X ++ (A ++ (M ++ (B ++ Y)))).length cap, .int .i64 X.length, .int .i64 (X.length + (A.length + M.length) : Nat), .int .i64 A.length, cf] w (ArrEnd w g cap (fun l' => l' = X ++ (B ++ (M ++ (A ++ Y))))) := by
 obtain ⟨n, hn'⟩ : ∃ n, (X ++ (A ++ (M ++ (B ++ Y)))).length = n := ⟨_, rfl⟩
 have hns : n = X.length + (A.length + (M.length + (B.length + Y.length))) := by rw [← hn']; simp
 have hA' := Lib.hid hA
 obtain ⟨a, ha⟩ : ∃ a, X.length = a := ⟨_, rfl⟩
 obtain ⟨m, hm⟩ : ∃ m, M.length = m := ⟨_, rfl⟩
 obtain ⟨q, hq⟩ : ∃ q, A.length = q := ⟨_, rfl⟩
 have hq2 : Hid (B.length = q) := by rw [← hq, hAB]; rfl
 have ha' := Lib.hid ha
 have hm' := Lib.hid hm
 have hq' := Lib.hid hq
 have hnn := Lib.hid hn'
 have hb1 : a + (q + (m + q)) ≤ n := by rw [← ha, ← hm, hns, ← hq]; omega
 rw [hn'] at hn ⊢
 rw [ha, hm, hq]
 clear hA ha hm hq hn' hns hAB
 obtain ⟨b, hb⟩ : ∃ b, a + (q + m) = b := ⟨_, rfl⟩
 rw [hb]
 have hb' := Lib.hid hb
 have hb2 : b + q ≤ n := by omega
 have hb3 : a + q ≤ n := by omega
 clear hb
 go_enter Tryz.func190, Tryz.ntmps190
 go_wp2_with fail
 go_loopw [10] (fun i wr => ∃ k : Nat, k ≤ q ∧ i = .int .i64 k ∧ ArrIn wr g cap (X ++ ((B.take k ++ A.drop k) ++ (M ++ ((A.take k ++ B.drop k) ++ Y)))) ∧ Kept (gfoot g) w wr) (fun i wr => q - (intOf i).toNat)
 case atStart => exact ⟨0, by omega, rfl, by simpa using hA'.out, .refl _ _⟩
 case round =>
  obtain ⟨k, hk, rfl, hAr, hK⟩ := hrel
  by_cases hlt : k < q
  ·obtain ⟨x, A2, hxA⟩ : ∃ x A2, A.drop k = x :: A2 := by
    have : 0 < (A.drop k).length := by rw [List.length_drop, hq'.out]; omega
    cases hd : A.drop k with
    | nil => rw [hd] at this; simp at this
    | cons x A2 => exact ⟨x, A2, rfl⟩
   obtain ⟨y, B2, hyB⟩ : ∃ y B2, B.drop k = y :: B2 := by
    have : 0 < (B.drop k).length := by rw [List.length_drop, hq2.out]; omega
    cases hd : B.drop k with
    | nil => rw [hd] at this; simp at this
    | cons y B2 => exact ⟨y, B2, rfl⟩
   have hAl : A2.length + k + 1 = q := by
    have := congrArg List.length hxA
    rw [List.length_drop, hq'.out, List.length_cons] at this
    omega
   have hBl : B2.length + k + 1 = q := by
    have := congrArg List.length hyB
    rw [List.length_drop, hq2.out, List.length_cons] at this
    omega
   have hBt : (B.take k).length = k := by rw [List.length_take, hq2.out]; omega
   have hAt : (A.take k).length = k := by rw [List.length_take, hq'.out]; omega
   have hnext : Hid (X ++ ((B.take (k + 1) ++ A.drop (k + 1)) ++ (M ++ ((A.take (k + 1) ++ B.drop (k + 1)) ++ Y))) = (X ++ B.take k) ++ (y :: ((A2 ++ (M ++ A.take k)) ++ (x :: (B2 ++ Y))))) := by
    have e1 : B.take (k + 1) = B.take k ++ [y] := take_next hyB
    have e2 : A.take (k + 1) = A.take k ++ [x] := take_next hxA
    have e3 : B.drop (k + 1) = B2 := drop_next hyB
    have e4 : A.drop (k + 1) = A2 := drop_next hxA
    unfold Hid
    rw [e1, e2, e3, e4]
    simp
   have hcur : X ++ ((B.take k ++ A.drop k) ++ (M ++ ((A.take k ++ B.drop k) ++ Y))) = (X ++ B.take k) ++ (x :: ((A2 ++ (M ++ A.take k)) ++ (y :: (B2 ++ Y)))) := by
    rw [hxA, hyB]
    simp
   rw [hcur] at hAr
   have hPl : (X ++ B.take k).length = a + k := by rw [List.length_append, ha'.out, hBt]
   have hQl : (A2 ++ (M ++ A.take k)).length + 1 = q + m := by
    rw [List.length_append, List.length_append, hm'.out, hAt]; omega
   have hLl : Hid (((X ++ B.take k) ++ (x :: ((A2 ++ (M ++ A.take k)) ++ (y :: (B2 ++ Y))))).length = n) := by
    have h5 := hnn.out
    simp only [List.length_append, ha'.out, hq'.out, hm'.out, hq2.out] at h5
    simp only [List.length_append, List.length_cons, ha'.out, hm'.out, hBt, hAt]
    show _ = n
    omega
   clear hcur hxA hyB hBt hAt
   generalize X ++ B.take k = P at *
   generalize A2 ++ (M ++ A.take k) = Q at *
   generalize B2 ++ Y = R at *
   obtain ⟨cx, cy⟩ := hAr.two
   rw [hPl] at cx cy
   have hjj : a + k + 1 + Q.length = b + k := by have := hb'.out; omega
   rw [hjj] at cy
   have hjj' := Lib.hid hjj
   have hPl' := Lib.hid hPl
   have hAr' := Lib.hid hAr
   have hK' := Lib.hid hK
   have hfr := hAr.free
   clear hjj hPl hAr hK hQl hAl hBl
   have s1 : IntKind.i64.wrap ((a : Int) + k) = a + k := IntWalk.i64_in _ (by omega)
   have s2 : IntKind.i64.wrap ((b : Int) + k) = b + k := IntWalk.i64_in _ (by omega)
   have s3 : (0 : Int) ≤ (a : Int) + k := by omega
   have s4 : (0 : Int) ≤ (b : Int) + k := by omega
   have s5 : ((a : Int) + k).toNat = a + k := by omega
   have s6 : ((b : Int) + k).toNat = b + k := by omega
   have s7 : (a : Int) + k < n := by omega
   have s8 : (b : Int) + k < n := by omega
   obtain ⟨cx0, cx1, cx2, cx3⟩ := cx
   obtain ⟨cy0, cy1, cy2, cy3⟩ := cy
   go_upto_region 3 with fail
   refine wp_region_held_drew (S := fun u => True) (by kernel_rfl) trivial (fun hHeld => ?_)
   refine tk (i := 0) (v := .slice (some ⟨g, 0, none⟩) n cap) rfl hHeld ?_
   try simp only [Act.put, kA, kB, kC, kD, kE, kF]
   refine tk (i := 1) (v := .int .i64 a) rfl hHeld ?_
   try simp only [Act.put, kA, kB, kC, kD, kE, kF]
   refine tk (i := 2) (v := .int .i64 k) rfl hHeld ?_
   try simp only [Act.put, kA, kB, kC, kD, kE, kF]
   refine tk (i := 3) (v := .int .i64 ((a : Int) + k)) rfl hHeld ?_
   try simp only [Act.put, kA, kB, kC, kD, kE, kF]
   refine tk (i := 4) (v := .slice (some ⟨g, 0, none⟩) n cap) rfl hHeld ?_
   try simp only [Act.put, kA, kB, kC, kD, kE, kF]
   refine tk (i := 5) (v := .int .i64 b) rfl hHeld ?_
   try simp only [Act.put, kA, kB, kC, kD, kE, kF]
   refine tk (i := 6) (v := .int .i64 k) rfl hHeld ?_
   try simp only [Act.put, kA, kB, kC, kD, kE, kF]
   refine tk (i := 7) (v := .int .i64 ((b : Int) + k)) rfl hHeld ?_
   try simp only [Act.put, kA, kB, kC, kD, kE, kF]
   refine tk (i := 8) (v := .slice (some ⟨g, 0, none⟩) n cap) rfl hHeld ?_
   try simp only [Act.put, kA, kB, kC, kD, kE, kF]
   refine tk (i := 9) (v := .int .i64 b) rfl hHeld ?_
   try simp only [Act.put, kA, kB, kC, kD, kE, kF]
   refine tk (i := 10) (v := .int .i64 k) rfl hHeld ?_
   try simp only [Act.put, kA, kB, kC, kD, kE, kF]
   refine tk (i := 11) (v := .int .i64 ((b : Int) + k)) rfl hHeld ?_
   try simp only [Act.put, kA, kB, kC, kD, kE, kF]
   refine tk (i := 12) (v := .pointer (some ⟨g, (b + k) * 4, none⟩)) rfl hHeld ?_
   try simp only [Act.put, kA, kB, kC, kD, kE, kF]
   refine tk (i := 14) (v := .slice (some ⟨g, 0, none⟩) n cap) rfl hHeld ?_
   try simp only [Act.put, kA, kB, kC, kD, kE, kF]
   refine tk (i := 15) (v := .int .i64 a) rfl hHeld ?_
   try simp only [Act.put, kA, kB, kC, kD, kE, kF]
   refine tk (i := 16) (v := .int .i64 k) rfl hHeld ?_
   try simp only [Act.put, kA, kB, kC, kD, kE, kF]
   refine tk (i := 17) (v := .int .i64 ((a : Int) + k)) rfl hHeld ?_
   try simp only [Act.put, kA, kB, kC, kD, kE, kF]
   refine tk (i := 18) (v := .pointer (some ⟨g, (a + k) * 4, none⟩)) rfl hHeld ?_
   try simp only [Act.put, kA, kB, kC, kD, kE, kF]
   refine wpAnyH_ready (rs := [13, 19]) (by kernel_rfl) (by simp) ?_
   refine AllReadyH.cons rfl (fun K hK => ?_) (AllReadyH.cons rfl (fun K hK => ?_) AllReadyH.nil)
   ·rw [if_pos (by rfl)]
    go_simp
    ·refine hK.out _ _ trivial (fun hHeld => ?_)
     clear hK K
     try simp only [Act.put, kA, kB, kC, kD, kE, kF]
     refine wpAnyH_ready (rs := [19]) (by kernel_rfl) (by simp) ?_
     refine AllReadyH.cons rfl (fun K hK => ?_) AllReadyH.nil
     rw [if_pos (by rfl)]
     go_simp
     refine hK.out _ _ trivial (fun hHeld => ?_)
     clear hK K
     try simp only [Act.put, kA, kB, kC, kD, kE, kF]
     refine tk (i := 20) (v := .pointer (some ⟨g, (a + k) * 4, none⟩)) rfl hHeld ?_
     try simp only [Act.put, kA, kB, kC, kD, kE, kF]
     refine wpAnyH_ready (rs := [21]) (by kernel_rfl) (by simp) ?_
     refine AllReadyH.cons rfl (fun K hK => ?_) AllReadyH.nil
     rw [if_pos (by rfl)]
     go_simp
     refine hK.out _ _ trivial (fun hHeld => ?_)
     clear hK K
     have hW1 := (hAr'.out.set (i := a + k) (by rw [hLl.out]; omega) y).below (Below.refl _ _).drew
     have hKW1 := Lib.hid ((hK'.out.trans (kept_set4 wr g ((a + k) * 4) (.int .i64 y.code) (.int .i64 y.at_) (.int .i64 y.to) (.string y.text))).trans (.drew _))
     generalize ((((wr.setCell ⟨g, (a + k) * 4, none⟩ (.int .i64 y.code)).setCell ⟨g, (a + k) * 4 + 1, none⟩ (.int .i64 y.at_)).setCell ⟨g, (a + k) * 4 + 2, none⟩ (.int .i64 y.to)).setCell ⟨g, (a + k) * 4 + 3, none⟩ (.string y.text)).drew = W1 at *
     obtain ⟨d0, d1, d2, d3⟩ := hW1.cell (i := b + k) (by rw [List.length_set, hLl.out]; omega)
     have hf1 := hW1.free
     have hW1' := Lib.hid hW1
     clear hW1
     try simp only [Act.put, kA, kB, kC, kD, kE, kF]
     refine tk (i := 22) (v := .pointer (some ⟨g, (b + k) * 4, none⟩)) rfl hHeld ?_
     try simp only [Act.put, kA, kB, kC, kD, kE, kF]
     refine wpAnyH_ready (rs := [23]) (by kernel_rfl) (by simp) ?_
     refine AllReadyH.cons rfl (fun K hK => ?_) AllReadyH.nil
     rw [if_pos (by rfl)]
     go_simp
     refine hK.out _ _ trivial (fun hHeld => ?_)
     clear hK K
     try simp only [Act.put, kA, kB, kC, kD, kE, kF]
     refine wpAnyH_done (by kernel_rfl) ?_ _
     clear hHeld
     have hW2 := hW1'.out.set (i := b + k) (by rw [List.length_set, hLl.out]; omega) x
     have hse : ((P ++ (x :: (Q ++ (y :: R)))).set (a + k) y).set (b + k) x = P ++ (y :: (Q ++ (x :: R))) := by
      rw [← hjj'.out, ← hPl'.out]
      exact set_two P Q R x y
     rw [hse] at hW2
     have hW2' := Lib.hid hW2
     have hKW2 := Lib.hid (hKW1.out.trans (kept_set4 W1 g ((b + k) * 4) (.int .i64 x.code) (.int .i64 x.at_) (.int .i64 x.to) (.string x.text)))
     clear hW2 hse d0 d1 d2 d3 hf1 s1 s2 s3 s4 s5 s6 s7 s8 cx0 cx1 cx2 cx3 cy0 cy1 cy2 cy3 hfr
     generalize (((W1.setCell ⟨g, (b + k) * 4, none⟩ _).setCell ⟨g, (b + k) * 4 + 1, none⟩ _).setCell ⟨g, (b + k) * 4 + 2, none⟩ _).setCell ⟨g, (b + k) * 4 + 3, none⟩ _ = W2 at *
     go_wp2
     go_roundw
     case rel => exact ⟨k + 1, by omega, by go_num, by rw [hnext.out]; exact hW2'.out, hKW2.out⟩
     case measure => simp [intOf]; omega
   ·rw [if_pos (by rfl)]
    go_simp
    ·refine hK.out _ _ trivial (fun hHeld => ?_)
     clear hK K
     try simp only [Act.put, kA, kB, kC, kD, kE, kF]
     refine wpAnyH_ready (rs := [13]) (by kernel_rfl) (by simp) ?_
     refine AllReadyH.cons rfl (fun K hK => ?_) AllReadyH.nil
     rw [if_pos (by rfl)]
     go_simp
     refine hK.out _ _ trivial (fun hHeld => ?_)
     clear hK K
     try simp only [Act.put, kA, kB, kC, kD, kE, kF]
     refine tk (i := 20) (v := .pointer (some ⟨g, (a + k) * 4, none⟩)) rfl hHeld ?_
     try simp only [Act.put, kA, kB, kC, kD, kE, kF]
     refine wpAnyH_ready (rs := [21]) (by kernel_rfl) (by simp) ?_
     refine AllReadyH.cons rfl (fun K hK => ?_) AllReadyH.nil
     rw [if_pos (by rfl)]
     go_simp
     refine hK.out _ _ trivial (fun hHeld => ?_)
     clear hK K
     have hW1 := (hAr'.out.set (i := a + k) (by rw [hLl.out]; omega) y).below (Below.refl _ _).drew
     have hKW1 := Lib.hid ((hK'.out.trans (kept_set4 wr g ((a + k) * 4) (.int .i64 y.code) (.int .i64 y.at_) (.int .i64 y.to) (.string y.text))).trans (.drew _))
     generalize ((((wr.setCell ⟨g, (a + k) * 4, none⟩ (.int .i64 y.code)).setCell ⟨g, (a + k) * 4 + 1, none⟩ (.int .i64 y.at_)).setCell ⟨g, (a + k) * 4 + 2, none⟩ (.int .i64 y.to)).setCell ⟨g, (a + k) * 4 + 3, none⟩ (.string y.text)).drew = W1 at *
     obtain ⟨d0, d1, d2, d3⟩ := hW1.cell (i := b + k) (by rw [List.length_set, hLl.out]; omega)
     have hf1 := hW1.free
     have hW1' := Lib.hid hW1
     clear hW1
     try simp only [Act.put, kA, kB, kC, kD, kE, kF]
     refine tk (i := 22) (v := .pointer (some ⟨g, (b + k) * 4, none⟩)) rfl hHeld ?_
     try simp only [Act.put, kA, kB, kC, kD, kE, kF]
     refine wpAnyH_ready (rs := [23]) (by kernel_rfl) (by simp) ?_
     refine AllReadyH.cons rfl (fun K hK => ?_) AllReadyH.nil
     rw [if_pos (by rfl)]
     go_simp
     refine hK.out _ _ trivial (fun hHeld => ?_)
     clear hK K
     try simp only [Act.put, kA, kB, kC, kD, kE, kF]
     refine wpAnyH_done (by kernel_rfl) ?_ _
     clear hHeld
     have hW2 := hW1'.out.set (i := b + k) (by rw [List.length_set, hLl.out]; omega) x
     have hse : ((P ++ (x :: (Q ++ (y :: R)))).set (a + k) y).set (b + k) x = P ++ (y :: (Q ++ (x :: R))) := by
      rw [← hjj'.out, ← hPl'.out]
      exact set_two P Q R x y
     rw [hse] at hW2
     have hW2' := Lib.hid hW2
     have hKW2 := Lib.hid (hKW1.out.trans (kept_set4 W1 g ((b + k) * 4) (.int .i64 x.code) (.int .i64 x.at_) (.int .i64 x.to) (.string x.text)))
     clear hW2 hse d0 d1 d2 d3 hf1 s1 s2 s3 s4 s5 s6 s7 s8 cx0 cx1 cx2 cx3 cy0 cy1 cy2 cy3 hfr
     generalize (((W1.setCell ⟨g, (b + k) * 4, none⟩ _).setCell ⟨g, (b + k) * 4 + 1, none⟩ _).setCell ⟨g, (b + k) * 4 + 2, none⟩ _).setCell ⟨g, (b + k) * 4 + 3, none⟩ _ = W2 at *
     go_wp2
     go_roundw
     case rel => exact ⟨k + 1, by omega, by go_num, by rw [hnext.out]; exact hW2'.out, hKW2.out⟩
     case measure => simp [intOf]; omega
  ·obtain rfl : k = q := by omega
   have hAr' := Lib.hid hAr
   have hK' := Lib.hid hK
   clear hAr hK
   go_wp2_with fail
   go_end0
   refine ⟨_, rfl, rfl, ?_, hK'.out⟩
   have h1 := hAr'.out
   have e1 : B.take k = B := List.take_of_length_le (by rw [hq2.out]; exact Nat.le_refl _)
   have e2 : A.take k = A := List.take_of_length_le (by rw [hq'.out]; exact Nat.le_refl _)
   have e3 : B.drop k = [] := List.drop_eq_nil_of_le (by rw [hq2.out]; exact Nat.le_refl _)
   have e4 : A.drop k = [] := List.drop_eq_nil_of_le (by rw [hq'.out]; exact Nat.le_refl _)
   rw [e1, e2, e3, e4, List.append_nil, List.append_nil] at h1
   exact h1
end Go.Proofs.YthggagophcnkfaaGreatDoor.so
namespace Go.Proofs.YthggagophcnkfaaGreatDoor.so
open Go.RowKit Go.Proofs.YthggagophcnkfaaGreatDoor.agg Go.Proofs.YthggagophcnkfaaGreatDoor.sx Go.Proofs.YthggagophcnkfaaGreatDoor.px Go.Proofs.YthggagophcnkfaaGreatDoor.lx
set_option linter.unusedSimpArgs false
set_option linter.unusedVariables false
theorem swap_at {w : World} {g cap : Nat} {l : List Dg} (h : ArrIn w g cap l) {N : Nat} (hN : l.length = N) (hn : N ≤ 100000) (X A M B Y : List Dg) (hl : l = X ++ (A ++ (M ++ (B ++ Y)))) (hAB : A.length = B.length) {x b q : Int} (hx : x = X.length) (hb : b = (X.length + (A.length + M.length) : Nat)) (hq : q = A.length) (cf : Value) :
 Calls Tryz.prog 190 #[.slice (some ⟨g, 0, none⟩) N cap, .int .i64 x, .int .i64 b, .int .i64 q, cf] w (ArrEnd w g cap (fun l' => l' = X ++ (B ++ (M ++ (A ++ Y))))) := by
 subst hN hl hx hb hq
 exact swap_walk X A M B Y h hAB hn cf
def RotSt (X Y V0 U0 : List Dg) (n m : Nat) (w : World) (g cap : Nat) (wr : World) (i j : Nat) (A U V B : List Dg) : Prop :=
 U.length = i ∧ V.length = j ∧ 0 < i ∧ 0 < j ∧ X.length + (A.length + i) = m ∧ A ++ (V ++ (U ++ B)) = V0 ++ U0 ∧ (X ++ (A ++ (U ++ (V ++ (B ++ Y))))).length = n ∧ ArrIn wr g cap (X ++ (A ++ (U ++ (V ++ (B ++ Y))))) ∧ Kept (gfoot g) w wr
set_option maxRecDepth 100000 in
set_option maxHeartbeats 2000000 in
theorem rotate_walk {w : World} {g cap : Nat} (X U0 V0 Y : List Dg) {N : Nat} (hA : ArrIn w g cap (X ++ (U0 ++ (V0 ++ Y)))) (hN : (X ++ (U0 ++ (V0 ++ Y))).length = N) (hn : N ≤ 100000) (hU : 0 < U0.length) (hV : 0 < V0.length) {a m b : Int} (ha : a = X.length) (hm : m = (X.length + U0.length : Nat)) (hb : b = (X.length + (U0.length + V0.length) : Nat)) (cf : Value) :
 Calls Tryz.prog 181 #[.slice (some ⟨g, 0, none⟩) N cap, .int .i64 a, .int .i64 m, .int .i64 b, cf] w (ArrEnd w g cap (fun l' => l' = X ++ (V0 ++ (U0 ++ Y)))) := by
 have hst : Hid (RotSt X Y V0 U0 N (X.length + U0.length) w g cap w U0.length V0.length [] U0 V0 []) := ⟨rfl, rfl, hU, hV, by simp, by simp, by simpa using hN, by simpa using hA, .refl _ _⟩
 obtain ⟨x, hx⟩ : ∃ x, X.length = x := ⟨_, rfl⟩
 obtain ⟨u, hu⟩ : ∃ u, U0.length = u := ⟨_, rfl⟩
 obtain ⟨v, hv⟩ : ∃ v, V0.length = v := ⟨_, rfl⟩
 have hb0 : x + (u + v) ≤ N := by rw [← hN, ← hx, ← hu, ← hv]; simp
 have hx' := Lib.hid hx
 rw [hx, hu, hv] at hst
 rw [hx] at ha
 rw [hx, hu] at hm
 rw [hx, hu, hv] at hb
 have ha' := Lib.hid ha
 have hm' := Lib.hid hm
 have hbb := Lib.hid hb
 have g1 : 0 ≤ a := by omega
 have g2 : a ≤ m := by omega
 have g3 : m ≤ b := by omega
 have g4 : b ≤ N := by omega
 clear hx hu hv hA hN hU hV ha hm hb
 go_enter Tryz.func181, Tryz.ntmps181
 go_wp2_with fail
 go_loopw [10, 11] (fun s10 s11 wr => ∃ (i j : Nat) (A U V B : List Dg), s10 = .int .i64 i ∧ s11 = .int .i64 j ∧ Hid (RotSt X Y V0 U0 N (x + u) w g cap wr i j A U V B)) (fun s10 s11 wr => (intOf s10).toNat + (intOf s11).toNat)
 case atStart => exact ⟨u, v, _, _, _, _, by congr 1; have := ha'.out; have := hm'.out; omega, by congr 1; have := hm'.out; have := hbb.out; omega, hst⟩
 case round =>
  obtain ⟨i, j, A, U, V, B, rfl, rfl, hR⟩ := hrel
  obtain ⟨h1, h2, h3, h4, h5, h6, h7, h8, h9⟩ := hR.out
  have hb1 : i ≤ x + u := by have := hx'.out; omega
  have hb2 : x + u + j ≤ N := by
   rw [← h7]; simp only [List.length_append]; have := hx'.out; omega
  have hfx := hx'.out
  have hfm := hm'.out
  have g5 : (i : Int) ≤ m := by omega
  have g6 : m + j ≤ N := by omega
  rcases Nat.lt_trichotomy i j with hlt | heq | hgt
  ·obtain ⟨Q, S, hV⟩ : ∃ Q S, V = Q ++ S ∧ S.length = i := ⟨V.take (j - i), V.drop (j - i), (List.take_append_drop _ _).symm, by rw [List.length_drop]; omega⟩
   obtain ⟨rfl, hS⟩ := hV
   rw [List.length_append] at h2
   have hC := Lib.hid (swap_at h8 h7 hn (X ++ A) U Q S (B ++ Y) (by simp) (by omega) (x := m - i) (b := m + j - i) (q := i) (by rw [List.length_append]; omega) (by rw [List.length_append]; omega) (by omega) cf)
   have hnx := Lib.hid (fun (w2 : World) (q1 : ArrIn w2 g cap ((X ++ A) ++ (S ++ (Q ++ (U ++ (B ++ Y)))))) (q2 : Kept (gfoot g) wr w2) => (show RotSt X Y V0 U0 N (x + u) w g cap w2 i (j - i) A S Q (U ++ B) from by
    refine ⟨hS, by omega, h3, by omega, h5, by rw [← h6]; simp, ?_, by simpa using q1, h9.trans q2⟩
    rw [← h7]
    simp only [List.length_append]
    omega))
   clear h1 h2 h5 h6 h7 h8 h9 hR hfx hfm hst hS
   go_wp2_with (go_at_call 190; refine hC.out.mono ?_; rintro e w2 ⟨l', rfl, rfl, q1, q2⟩; have q3 := Lib.hid (hnx.out _ q1 q2); clear q1 q2)
   go_roundw
   case rel => exact ⟨i, j - i, _, _, _, _, rfl, by congr 1; omega, q3⟩
   case measure => simp [intOf]; omega
  ·subst heq
   have hC := Lib.hid (swap_at h8 h7 hn (X ++ A) U [] V (B ++ Y) (by simp) (by omega) (x := m - i) (b := m) (q := i) (by rw [List.length_append]; omega) (by simp; omega) (by omega) cf)
   have hfin : Hid ((X ++ A) ++ (V ++ ([] ++ (U ++ (B ++ Y)))) = X ++ (V0 ++ (U0 ++ Y))) := by
    have := congrArg (fun z => X ++ (z ++ Y)) h6
    exact Lib.hid (by simpa using this)
   have h9' := Lib.hid h9
   clear h1 h2 h5 h6 h7 h8 h9 hR hfx hfm hst
   go_wp2_with (go_at_call 190; refine hC.out.mono ?_; rintro e w2 ⟨l', rfl, rfl, q1, q2⟩; have q1' := Lib.hid q1; have q2' := Lib.hid q2; clear q1 q2)
   go_end0
   exact ⟨_, rfl, hfin.out, q1'.out, h9'.out.trans q2'.out⟩
  ·obtain ⟨P, R, hUe⟩ : ∃ P R, U = P ++ R ∧ P.length = j := ⟨U.take j, U.drop j, (List.take_append_drop _ _).symm, by rw [List.length_take]; omega⟩
   obtain ⟨rfl, hP⟩ := hUe
   rw [List.length_append] at h1
   have hC := Lib.hid (swap_at h8 h7 hn (X ++ A) P R V (B ++ Y) (by simp) (by omega) (x := m - i) (b := m) (q := j) (by rw [List.length_append]; omega) (by rw [List.length_append]; omega) (by omega) cf)
   have hnx := Lib.hid (fun (w2 : World) (q1 : ArrIn w2 g cap ((X ++ A) ++ (V ++ (R ++ (P ++ (B ++ Y)))))) (q2 : Kept (gfoot g) wr w2) => (show RotSt X Y V0 U0 N (x + u) w g cap w2 (i - j) j (A ++ V) R P B from by
    refine ⟨by omega, hP, by omega, h4, by rw [List.length_append]; omega, by rw [← h6]; simp, ?_, by simpa using q1, h9.trans q2⟩
    rw [← h7]
    simp only [List.length_append]
    omega))
   clear h1 h2 h5 h6 h7 h8 h9 hR hfx hfm hst hP
   go_wp2_with (go_at_call 190; refine hC.out.mono ?_; rintro e w2 ⟨l', rfl, rfl, q1, q2⟩; have q3 := Lib.hid (hnx.out _ q1 q2); clear q1 q2)
   go_roundw
   case rel => exact ⟨i - j, j, _, _, _, _, by congr 1; omega, rfl, q3⟩
   case measure => simp [intOf]; omega
end Go.Proofs.YthggagophcnkfaaGreatDoor.so
