/- The words of a text, without places; the words of two texts with a line's end between them. Plain laws: no function of the program is walked here. Two texts without diagnostics, joined: what is parsed of them. Plain laws: no function of the program is walked here. -/
import Derived.Test.YthggagophcnkfaaGreatDoorM5
import Derived.Test.YthggagophcnkfaaGreatDoorM14
import Derived.Test.YthggagophcnkfaaGreatDoorM11
import Derived.Test.YthggagophcnkfaaGreatDoorNstT
import Derived.Test.YthggagophcnkfaaGreatDoorPParse0
namespace Go.Proofs.YthggagophcnkfaaGreatDoor.px
open Go.RowKit Go.Proofs.YthggagophcnkfaaGreatDoor.agg Go.Proofs.YthggagophcnkfaaGreatDoor.sx Go.Proofs.YthggagophcnkfaaGreatDoor.lx
set_option linter.unusedSimpArgs false
set_option linter.unusedVariables false

/-- The tokens of bytes, without the end: kinds and words. -/
def wds : Nat → List UInt8 → List Tk
  | 0, _ => []
  | n + 1, l =>
    match l.drop (skipS false l) with
    | [] => []
    | c :: r => ⟨(tokB (c :: r)).1, ⟨((c :: r).take (tokB (c :: r)).2).toArray⟩⟩ :: wds n ((c :: r).drop (tokB (c :: r)).2)
theorem wds_nil {n : Nat} {l : List UInt8} (h : l.drop (skipS false l) = []) : wds (n + 1) l = [] := by rw [wds, h]
theorem wds_cons {n : Nat} {l : List UInt8} {c : UInt8} {r : List UInt8} (h : l.drop (skipS false l) = c :: r) : wds (n + 1) l = ⟨(tokB (c :: r)).1, ⟨((c :: r).take (tokB (c :: r)).2).toArray⟩⟩ :: wds n ((c :: r).drop (tokB (c :: r)).2) := by rw [wds, h]
theorem wds_fuel : ∀ (n m : Nat) (l : List UInt8), l.length < n → l.length < m → wds n l = wds m l
  | 0, m, l, h, _ => by omega
  | n + 1, 0, l, _, h => by omega
  | n + 1, m + 1, l, hn, hm => by
    cases hd : l.drop (skipS false l) with
    | nil => rw [wds_nil hd, wds_nil hd]
    | cons c r =>
      rw [wds_cons hd, wds_cons hd]
      congr 1
      have hl := congrArg List.length hd
      rw [List.length_drop] at hl
      have hp := tokB_pos (c := c) (r := r)
      have hc : 0 < (c :: r).length := Nat.succ_pos _
      have hdl : ((c :: r).drop (tokB (c :: r)).2).length = (c :: r).length - (tokB (c :: r)).2 := List.length_drop
      exact wds_fuel n m _ (by rw [hdl]; omega) (by rw [hdl]; omega)
/-- Behind a line's end nothing of what stood before counts: what is skipped. -/
theorem skip_all (r : List UInt8) : ∀ (l : List UInt8) (b : Bool), skipS b l = l.length → skipS b (l ++ 10 :: r) = l.length + 1 + skipS false r
  | [], b, _ => by
    cases b with
    | false =>
      rw [List.nil_append, skipS, if_pos (by decide)]
      simp only [List.length_nil]
      omega
    | true =>
      rw [List.nil_append, skipS, if_pos (by decide)]
      simp only [List.length_nil]
      omega
  | c :: l, false, h => by
    rw [skipS] at h
    rw [List.cons_append, skipS]
    simp only [List.length_cons] at h ⊢
    split at h
    · rename_i hw
      rw [if_pos hw, skip_all r l false (by omega)]
      omega
    · rename_i hw
      split at h
      · rename_i h2
        rw [if_neg hw, if_pos h2, skip_all r l true (by omega)]
        omega
      · omega
  | c :: l, true, h => by
    rw [skipS] at h
    rw [List.cons_append, skipS]
    simp only [List.length_cons] at h ⊢
    split at h
    · rename_i hw
      rw [if_pos hw, skip_all r l false (by omega)]
      omega
    · rename_i hw
      rw [if_neg hw, skip_all r l true (by omega)]
      omega
theorem skip_front (x : List UInt8) : ∀ (l : List UInt8) (b : Bool), skipS b l < l.length → skipS b (l ++ x) = skipS b l
  | [], b, h => by simp at h
  | c :: l, false, h => by
    rw [skipS] at h
    rw [List.cons_append, skipS, skipS]
    simp only [List.length_cons] at h
    split at h
    · rename_i hw
      rw [if_pos hw, if_pos hw, skip_front x l false (by omega)]
    · rename_i hw
      split at h
      · rename_i h2
        rw [if_neg hw, if_neg hw, if_pos h2, if_pos h2, skip_front x l true (by omega)]
      · rename_i h2
        rw [if_neg hw, if_neg hw, if_neg h2, if_neg h2]
  | c :: l, true, h => by
    rw [skipS] at h
    rw [List.cons_append, skipS, skipS]
    simp only [List.length_cons] at h
    split at h
    · rename_i hw
      rw [if_pos hw, if_pos hw, skip_front x l false (by omega)]
    · rename_i hw
      rw [if_neg hw, if_neg hw, skip_front x l true (by omega)]
theorem cnt_front {p : UInt8 → Bool} (hp : p 10 = false) (r : List UInt8) : ∀ (l : List UInt8), cntN p (l ++ 10 :: r) = cntN p l
  | [] => by simp [cntN, hp]
  | c :: l => by
    rw [List.cons_append, cntN, cntN, cnt_front hp r l]
theorem two_line (a : UInt8) : two a 10 = false := by
  unfold two
  have h1 : ((10 : UInt8) == 61) = false := by decide
  have h2 : ((10 : UInt8) == 46) = false := by decide
  simp [h1, h2]
theorem sym_front (r : List UInt8) : ∀ (c : UInt8) (l : List UInt8), symN (c :: l ++ 10 :: r) = symN (c :: l)
  | a, [] => by
    show symN (a :: 10 :: r) = symN [a]
    simp only [symN, two_line, Bool.false_eq_true, if_false]
  | a, b :: l => rfl
theorem begins_front (r : List UInt8) (c : UInt8) (l : List UInt8) : beginsB (c :: l ++ 10 :: r) = beginsB (c :: l) := by
  have := sym_front r c l
  rw [List.cons_append] at this ⊢
  rw [beginsB, beginsB, this]
theorem wrong_front (r : List UInt8) : ∀ (l : List UInt8), wrongN (l ++ 10 :: r) = wrongN l
  | [] => by simp [wrongN, whiteB]
  | c :: l => by
    have := begins_front r c l
    rw [List.cons_append] at this ⊢
    rw [wrongN, wrongN, this, wrong_front r l]
theorem tok_front (r : List UInt8) (c : UInt8) (l : List UInt8) : tokB (c :: l ++ 10 :: r) = tokB (c :: l) := by
  have h1 := cnt_front (p := partB) (by decide) r (c :: l)
  have h2 := cnt_front (p := digitB) (by decide) r (c :: l)
  have h3 := sym_front r c l
  have h4 := wrong_front r l
  have h5 : (c :: l ++ 10 :: r).take (cntN partB (c :: l)) = (c :: l).take (cntN partB (c :: l)) := List.take_append_of_le_length (cntN_le _ _)
  rw [List.cons_append] at h1 h2 h3 h5 ⊢
  unfold tokB
  simp only [h1, h2, h3, h4, h5]
/-- The words of two texts with a line's end between them. -/
theorem wds_line (r : List UInt8) : ∀ (n m k : Nat) (l : List UInt8), l.length < n → r.length < m → l.length + 1 + r.length < k → wds k (l ++ 10 :: r) = wds n l ++ wds m r
  | 0, m, k, l, h, _, _ => by omega
  | n + 1, m, 0, l, _, _, h => by omega
  | n + 1, 0, k + 1, l, _, h, _ => by omega
  | n + 1, m + 1, k + 1, l, hn, hm, hk => by
    have hsk := skipS_le false l
    cases hd : l.drop (skipS false l) with
    | nil =>
      have hl := congrArg List.length hd
      rw [List.length_drop, List.length_nil] at hl
      have hs := skip_all r l false (by omega)
      have hdr : (l ++ 10 :: r).drop (skipS false (l ++ 10 :: r)) = r.drop (skipS false r) := by
        rw [hs, List.drop_append]
        rw [List.drop_eq_nil_of_le (show l.length ≤ l.length + 1 + skipS false r by omega), List.nil_append]
        rw [show l.length + 1 + skipS false r - l.length = skipS false r + 1 by omega, List.drop_succ_cons]
      rw [wds_nil hd, List.nil_append]
      cases hr : r.drop (skipS false r) with
      | nil => rw [wds_nil (hdr.trans hr), wds_nil hr]
      | cons c x =>
        rw [wds_cons (hdr.trans hr), wds_cons hr]
        congr 1
        have hl2 := congrArg List.length hr
        rw [List.length_drop] at hl2
        have hp := tokB_pos (c := c) (r := x)
        have hc : 0 < (c :: x).length := Nat.succ_pos _
        have hdl : ((c :: x).drop (tokB (c :: x)).2).length = (c :: x).length - (tokB (c :: x)).2 := List.length_drop
        exact wds_fuel _ _ _ (by rw [hdl]; omega) (by rw [hdl]; omega)
    | cons c x =>
      have hl := congrArg List.length hd
      rw [List.length_drop] at hl
      simp only [List.length_cons] at hl
      have hs := skip_front (10 :: r) l false (by omega)
      have hdr : (l ++ 10 :: r).drop (skipS false (l ++ 10 :: r)) = c :: (x ++ 10 :: r) := by
        rw [hs, List.drop_append_of_le_length hsk, hd, List.cons_append]
      have ht := tok_front r c x
      rw [List.cons_append] at ht
      have hm2 := tokB_len (c :: x)
      have hp := tokB_pos (c := c) (r := x)
      have hdl : ((c :: x).drop (tokB (c :: x)).2).length = (c :: x).length - (tokB (c :: x)).2 := List.length_drop
      rw [wds_cons hdr, wds_cons hd, ht]
      have e1 : (c :: (x ++ 10 :: r)).take (tokB (c :: x)).2 = (c :: x).take (tokB (c :: x)).2 := by
        rw [← List.cons_append]
        exact List.take_append_of_le_length hm2
      have e2 : (c :: (x ++ 10 :: r)).drop (tokB (c :: x)).2 = (c :: x).drop (tokB (c :: x)).2 ++ 10 :: r := by
        rw [← List.cons_append]
        exact List.drop_append_of_le_length hm2
      rw [e1, e2, wds_line r n (m + 1) k _ (by rw [hdl]; simp only [List.length_cons]; omega) hm (by rw [hdl]; simp only [List.length_cons]; omega), List.cons_append]
/-- The tokens of a text by their words. -/
theorem scan_wds (T : ByteArray) : ∀ (n : Nat) (l : List UInt8) (pos : Nat), T.data.toList.drop pos = l → l.length < n → (scan n l pos).map (fun t => (⟨t.kind, T.extract t.at_ t.to⟩ : Tk)) = wds n l ++ [⟨0, ⟨#[]⟩⟩]
  | 0, l, pos, _, h => by omega
  | n + 1, l, pos, hl, hn => by
    rw [scan]
    cases hd : l.drop (skipS false l) with
    | nil =>
      rw [wds_nil hd]
      simp only [List.map_cons, List.map_nil, List.nil_append, List.cons.injEq, Tk.mk.injEq, true_and, and_true]
      apply ByteArray.ext
      rw [ByteArray.data_extract]
      simp
      exact Nat.min_le_left _ _
    | cons c r =>
      have hl2 := congrArg List.length hd
      rw [List.length_drop] at hl2
      have hp := tokB_pos (c := c) (r := r)
      have hc : 0 < (c :: r).length := Nat.succ_pos _
      have hdl : ((c :: r).drop (tokB (c :: r)).2).length = (c :: r).length - (tokB (c :: r)).2 := List.length_drop
      have hw : T.extract (pos + skipS false l) (pos + skipS false l + (tokB (c :: r)).2) = ⟨((c :: r).take (tokB (c :: r)).2).toArray⟩ := by
        apply ByteArray.ext
        rw [ByteArray.data_extract]
        apply Array.toList_inj.1
        rw [Array.toList_extract, List.extract_eq_take_drop, ← List.drop_drop, hl, hd]
        congr 1
        omega
      rw [wds_cons hd]
      simp only [List.map_cons, List.cons_append, hw]
      congr 1
      refine scan_wds T n _ _ ?_ (by rw [hdl]; omega)
      rw [← List.drop_drop, ← List.drop_drop, hl, hd]
/-- What the lexer has nothing to say of. -/
def okTk (t : Tk) : Bool := t.kind != 5 && (t.kind != 3 || numberB t.word.data.toList) && (t.kind != 1 || decide (t.word.size ≤ 16))
def wdsOf (T : ByteArray) : List Tk := wds (T.size + 1) T.data.toList
theorem toks_wds (T : ByteArray) : (toks T).map (fun t => (⟨t.kind, T.extract t.at_ t.to⟩ : Tk)) = wdsOf T ++ [⟨0, ⟨#[]⟩⟩] :=
  scan_wds T _ _ 0 rfl (by show T.data.toList.length < _; have : T.data.toList.length = T.size := rfl; omega)
theorem src_wds (T : ByteArray) : (src T).A = (wdsOf T).filter (fun t => t.kind != 5) ++ [⟨0, ⟨#[]⟩⟩] := by
  unfold Src.A src kept
  simp only
  have h := congrArg (List.filter (fun t : Tk => t.kind != 5)) (toks_wds T)
  rw [List.filter_map, List.filter_append, List.filter_cons_of_pos (by rfl), List.filter_nil] at h
  exact h
theorem lexDg_ok {T : ByteArray} {t : Tok} (h : t.at_ ≤ t.to ∧ t.to ≤ T.size) : lexDg T t = [] ↔ okTk ⟨t.kind, T.extract t.at_ t.to⟩ = true := by
  have hs : (T.extract t.at_ t.to).size = t.to - t.at_ := by rw [ByteArray.size_extract]; omega
  unfold lexDg okTk
  simp only [hs]
  by_cases h5 : t.kind = 5
  · simp [h5]
  · by_cases h3 : t.kind = 3
    · simp [h3]
    · by_cases h1 : t.kind = 1
      · simp [h1]
      · simp [h1, h3, h5]
theorem lexDgs_ok (T : ByteArray) : (src T).D = [] ↔ ∀ t ∈ wdsOf T, okTk t = true := by
  obtain ⟨init, e, h1, h2, h2b, h3, h4, h5⟩ := toks_split T
  have hm := toks_wds T
  show (toks T).flatMap (lexDg T) = [] ↔ _
  rw [List.flatMap_eq_nil_iff]
  constructor
  · intro h t ht
    have : t ∈ (toks T).map (fun t => (⟨t.kind, T.extract t.at_ t.to⟩ : Tk)) := by rw [hm]; exact List.mem_append_left _ ht
    obtain ⟨x, hx, rfl⟩ := List.mem_map.1 this
    exact (lexDg_ok (by have := h4 x (h1 ▸ hx); exact ⟨this.2.1, this.2.2⟩)).1 (h x hx)
  · intro h x hx
    have : (⟨x.kind, T.extract x.at_ x.to⟩ : Tk) ∈ wdsOf T ++ [⟨0, ⟨#[]⟩⟩] := by rw [← hm]; exact List.mem_map_of_mem hx
    refine (lexDg_ok (by have := h4 x (h1 ▸ hx); exact ⟨this.2.1, this.2.2⟩)).2 ?_
    rcases List.mem_append.1 this with h6 | h6
    · exact h _ h6
    · rw [List.mem_singleton] at h6
      rw [h6]
      rfl
end Go.Proofs.YthggagophcnkfaaGreatDoor.px
namespace Go.Proofs.YthggagophcnkfaaGreatDoor.px
open Go.RowKit Go.Proofs.YthggagophcnkfaaGreatDoor.agg Go.Proofs.YthggagophcnkfaaGreatDoor.sx Go.Proofs.YthggagophcnkfaaGreatDoor.lx
set_option linter.unusedSimpArgs false
set_option linter.unusedVariables false

mutual
/-- A tree of a text without its places. -/
def trEr : Tr → Tr
  | .mk k t _ _ ks => .mk k t 0 0 (trErs ks)
def trErs : List Tr → List Tr
  | [] => []
  | t :: ts => trEr t :: trErs ts
end
mutual
def trOf : PT → Tr
  | .mk k t _ _ ks => .mk k t 0 0 (trsOf ks)
def trsOf : List PT → List Tr
  | [] => []
  | t :: ts => trOf t :: trsOf ts
end
theorem trErs_map (l : List Tr) : trErs l = l.map trEr := by
  induction l with
  | nil => rfl
  | cons x l ih => rw [trErs, ih]; rfl
theorem trsOf_map (l : List PT) : trsOf l = l.map trOf := by
  induction l with
  | nil => rfl
  | cons x l ih => rw [trsOf, ih]; rfl
theorem ers_map (l : List PT) : PT.ers l = l.map PT.er := by
  induction l with
  | nil => rfl
  | cons x l ih => rw [PT.ers, ih]; rfl
theorem tree_er (S : Src) (t : PT) : trEr (S.tree t) = trOf t := by
  induction t using PT.ind with
  | h k tx f t ks ih =>
    rw [Src.tree, trEr, trOf, trErs_map, trsOf_map, Src.trees_map, List.map_map]
    congr 1
    exact List.map_congr_left ih
theorem of_er (t : PT) : trOf t.er = trOf t := by
  induction t using PT.ind with
  | h k tx f t ks ih =>
    rw [PT.er, trOf, trOf, trsOf_map, trsOf_map, ers_map, List.map_map]
    congr 1
    exact List.map_congr_left ih
theorem trees_er {S S' S2 : Src} {l m n : List PT} (h : PT.ers l = PT.ers m ++ PT.ers n) : trErs (l.map S.tree) = trErs (m.map S'.tree ++ n.map S2.tree) := by
  have e : ∀ (S : Src) (l : List PT), (l.map S.tree).map trEr = (PT.ers l).map trOf := by
    intro S l
    rw [ers_map, List.map_map, List.map_map]
    exact List.map_congr_left fun t _ => by
      show trEr (S.tree t) = trOf t.er
      rw [tree_er, of_er]
  rw [trErs_map, trErs_map, List.map_append, e, e, e, h, List.map_append]
section
variable {A A' : List Tk} {d N : Nat} (H : Win A A' d N)
include H
theorem decls_end : ∀ (n : Nat) (ks : List PT) (s : Ps), A.length ≤ s.at_ + n → (decls A n ks s).2.reps.length = 0 → (decls A n ks s).2.at_ ≤ N → atEnd A (decls A n ks s).2 = true
  | 0, ks, s, ha, hr, hN => atEnd_beyond (by show A.length ≤ s.at_; omega)
  | n + 1, ks, s, ha, hr, hN => by
    cases he : atEnd A s with
    | true =>
      have eA : decls A (n + 1) ks s = (ks, s) := by rw [decls, if_pos he]
      rw [eA]
      exact he
    | false =>
      have eA : decls A (n + 1) ks s = decls A n (ks ++ [(declaration A s).1]) (declaration A s).2 := by rw [decls, if_neg (by rw [he]; simp)]
      rw [eA] at hr hN ⊢
      have m := decls_md (A := A) n (ks ++ [(declaration A s).1]) (declaration A s).2
      have q1 := m.mono
      have q2 := m.reps
      obtain ⟨_, _, g3⟩ := declaration_sh H s (by omega) (by omega)
      exact decls_end n _ _ (by omega) hr hN
end
theorem parse_none {T : ByteArray} (h : (parse T).2 = []) : (src T).D = [] ∧ (decls (src T).A (src T).A.length [] ⟨0, []⟩).2.reps = [] := by
  have h2 := congrArg List.length h
  unfold parse at h2
  simp only at h2
  rw [so.sortD_len] at h2
  have h3 := List.eq_nil_of_length_eq_zero h2
  unfold Src.list at h3
  obtain ⟨h4, h5⟩ := List.append_eq_nil_iff.1 h3
  exact ⟨h4, List.map_eq_nil_iff.1 h5⟩
theorem filter_ok {l : List Tk} (h : ∀ t ∈ l, okTk t = true) : l.filter (fun t => t.kind != 5) = l :=
  List.filter_eq_self.2 fun t ht => by
    have := h t ht
    unfold okTk at this
    simp only [Bool.and_eq_true] at this
    exact this.1.1
theorem joins_plain {a b c : ByteArray} (hc : c.data.toList = a.data.toList ++ 10 :: b.data.toList) (ha : a.size ≤ 4096) (hb : b.size ≤ 4096) (fa : FinOk a) (fb : FinOk b) (na : (parse a).2 = []) (nb : (parse b).2 = []) :
    (parse c).2 = [] ∧ trErs (parse c).1.kids = trErs ((parse a).1.kids ++ (parse b).1.kids) ∧ (parse c).1.kind = 2 ∧ (parse c).1.text = ⟨#[]⟩ := by
  obtain ⟨da, ra⟩ := parse_none na
  obtain ⟨db, rb⟩ := parse_none nb
  have oa := (lexDgs_ok a).1 da
  have ob := (lexDgs_ok b).1 db
  have la : a.data.toList.length = a.size := rfl
  have lb : b.data.toList.length = b.size := rfl
  have lc : c.data.toList.length = c.size := rfl
  have lcc := congrArg List.length hc
  rw [List.length_append, List.length_cons] at lcc
  have hw : wdsOf c = wdsOf a ++ wdsOf b := by
    unfold wdsOf
    rw [hc]
    exact wds_line _ _ _ _ _ (by omega) (by omega) (by omega)
  have oc : ∀ t ∈ wdsOf c, okTk t = true := fun t ht => by
    rw [hw] at ht
    rcases List.mem_append.1 ht with h | h
    · exact oa t h
    · exact ob t h
  have dc := (lexDgs_ok c).2 oc
  have A1 : (src a).A = wdsOf a ++ [⟨0, ⟨#[]⟩⟩] := by rw [src_wds, filter_ok oa]
  have A2 : (src b).A = wdsOf b ++ [⟨0, ⟨#[]⟩⟩] := by rw [src_wds, filter_ok ob]
  have A3 : (src c).A = wdsOf a ++ (wdsOf b ++ [⟨0, ⟨#[]⟩⟩]) := by rw [src_wds, filter_ok oc, hw, List.append_assoc]
  have L1 := congrArg List.length A1
  have L2 := congrArg List.length A2
  have L3 := congrArg List.length A3
  simp only [List.length_append, List.length_cons, List.length_nil] at L1 L2 L3
  have H1 : Win (src a).A (src c).A 0 (wdsOf a).length := ⟨fun i hi => by
    rw [A1, A3, List.getD_eq_getElem?_getD, List.getD_eq_getElem?_getD, Nat.add_zero, List.getElem?_append_left hi, List.getElem?_append_left hi], by omega, by omega⟩
  have H2 : Win (src b).A (src c).A (wdsOf a).length (src b).A.length := ⟨fun i hi => by
    rw [A2, A3, List.getD_eq_getElem?_getD, List.getD_eq_getElem?_getD, List.getElem?_append_right (show (wdsOf a).length ≤ i + (wdsOf a).length by omega), Nat.add_sub_cancel], Nat.le_refl _, by omega⟩
  have ta := src_ok a ha
  have tb := src_ok b hb
  have f1 : (decls (src a).A (src a).A.length [] ⟨0, []⟩).2.at_ < (src a).A.length := Nat.lt_of_lt_of_eq fa.lt (Src.len (src a)).symm
  have f2 : (decls (src b).A (src b).A.length [] ⟨0, []⟩).2.at_ < (src b).A.length := Nat.lt_of_lt_of_eq fb.lt (Src.len (src b)).symm
  have e1 := decls_end H1 (src a).A.length [] ⟨0, []⟩ (by simp) (by rw [ra]; rfl) (by omega)
  have e2 := decls_end H2 (src b).A.length [] ⟨0, []⟩ (by simp) (by rw [rb]; rfl) (by omega)
  obtain ⟨m, ks2, g1, g2, g3⟩ := decls_sh H1 [] (src a).A.length (src c).A.length [] [] ⟨0, []⟩ rfl (by simp) (by rw [ra]; rfl) (by omega)
  have hat : (decls (src a).A (src a).A.length [] ⟨0, []⟩).2.at_ = (wdsOf a).length := by
    have hk := tok_kind (src a) (decls (src a).A (src a).A.length [] ⟨0, []⟩).2
    unfold atEnd at e1
    rw [hk] at e1
    have hl := f1
    clear g1 g2 g3 ra
    generalize (decls (src a).A (src a).A.length [] ⟨0, []⟩).2 = s at *
    rw [Src.len] at hl L1
    have hfin := (ta.fin s.at_ hl).1 (by
      have h5 : (src a).tk s = (src a).L[s.at_] := by
        unfold Src.tk
        rw [List.getD_eq_getElem?_getD, List.getElem?_eq_getElem hl]
        rfl
      rw [← h5]
      simpa using e1)
    omega
  have hsh : sh 0 (decls (src a).A (src a).A.length [] ⟨0, []⟩).2 = sh (wdsOf a).length ⟨0, []⟩ := by
    unfold sh
    rw [hat]
    simp
  rw [hsh] at g1
  obtain ⟨m2, ks3, k1, k2, k3⟩ := decls_sh H2 (PT.ers (decls (src a).A (src a).A.length [] ⟨0, []⟩).1) (src b).A.length m [] ks2 ⟨0, []⟩ (by rw [g2]; simp [PT.ers]) (by rw [hat] at g3; simpa using g3) (by rw [rb]; rfl) (by omega)
  have hsh0 : (sh 0 ⟨0, []⟩ : Ps) = ⟨0, []⟩ := rfl
  have e3 := atEnd_sh H2 f2
  rw [e2] at e3
  have e4 : decls (src c).A m2 ks3 (sh (wdsOf a).length (decls (src b).A (src b).A.length [] ⟨0, []⟩).2) = (ks3, sh (wdsOf a).length (decls (src b).A (src b).A.length [] ⟨0, []⟩).2) := by
    cases m2 with
    | zero => rfl
    | succ m2 => rw [decls, if_pos e3]
  rw [hsh0] at g1
  have eC : decls (src c).A (src c).A.length [] ⟨0, []⟩ = (ks3, sh (wdsOf a).length (decls (src b).A (src b).A.length [] ⟨0, []⟩).2) := g1.trans (k1.trans e4)
  unfold parse
  simp only [eC]
  refine ⟨?_, trees_er k2, rfl, rfl⟩
  unfold Src.list
  rw [dc]
  rfl
end Go.Proofs.YthggagophcnkfaaGreatDoor.px
