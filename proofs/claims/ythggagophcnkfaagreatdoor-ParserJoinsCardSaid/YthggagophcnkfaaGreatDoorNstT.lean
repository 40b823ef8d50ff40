/- The trees of texts: their spans lie in order, names and numbers stand in theirs. Plain laws: no function of the program is walked here. -/
import Derived.Test.YthggagophcnkfaaGreatDoorNst
import Derived.Test.YthggagophcnkfaaGreatDoorM5
namespace Go.Proofs.YthggagophcnkfaaGreatDoor.px
open Go.RowKit Go.Proofs.YthggagophcnkfaaGreatDoor.agg Go.Proofs.YthggagophcnkfaaGreatDoor.sx Go.Proofs.YthggagophcnkfaaGreatDoor.lx
set_option linter.unusedSimpArgs false
set_option linter.unusedVariables false

mutual
/-- Whether spans of kids that are not empty lie in that of their node, in order. -/
def trNest : Tr → Bool
  | .mk _ _ a e ks => trNests a e ks
def trNests : Int → Int → List Tr → Bool
  | _, _, [] => true
  | a, e, k :: ks => decide (k.fr ≤ k.to) && (decide (k.to ≤ k.fr) || (decide (a ≤ k.fr) && decide (k.to ≤ e))) && trNest k && trNests (if k.fr < k.to then k.to else a) e ks
end
mutual
def allT (P : Tr → Prop) : Tr → Prop
  | .mk k t a e ks => P (.mk k t a e ks) ∧ allTs P ks
def allTs (P : Tr → Prop) : List Tr → Prop
  | [] => True
  | k :: ks => allT P k ∧ allTs P ks
end
theorem allT.self {P : Tr → Prop} {t : Tr} (h : allT P t) : P t := by
  cases t
  exact h.1
theorem allTs.mem {P : Tr → Prop} : ∀ {l : List Tr}, allTs P l → ∀ x ∈ l, allT P x
  | [], _, x, hx => by simp at hx
  | k :: ks, h, x, hx => by
    rcases List.mem_cons.1 hx with rfl | hx
    · exact h.1
    · exact allTs.mem h.2 x hx
theorem allT.kid {P : Tr → Prop} {t : Tr} (h : allT P t) : ∀ x ∈ t.kids, allT P x := by
  cases t
  exact allTs.mem h.2
/-- What is right of a text's tokens. -/
structure SrcOk (S : Src) : Prop where
  le : ∀ i, i < S.L.length → (S.L.getD i default).at_ ≤ (S.L.getD i default).to ∧ (S.L.getD i default).to ≤ S.T.size
  ord : ∀ i j, i < j → j < S.L.length → (S.L.getD i default).to ≤ (S.L.getD j default).at_
theorem src_srcok (T : ByteArray) : SrcOk (src T) := by
  obtain ⟨init, e, h1, h2, h2b, h3, h4, h5⟩ := kept_split T
  have hL : (src T).L = init ++ [e] := h1
  refine ⟨fun i hi => ?_, fun i j hij hj => ?_⟩
  · rw [List.getD_eq_getElem?_getD, List.getElem?_eq_getElem hi]
    have hall : ∀ t ∈ (src T).L, t.kind ≤ 5 ∧ t.at_ ≤ t.to ∧ t.to ≤ T.size := fun t ht => h4 t (by rw [← hL]; exact ht)
    have := hall _ (List.getElem_mem hi)
    exact ⟨this.2.1, this.2.2⟩
  · rw [List.getD_eq_getElem?_getD, List.getD_eq_getElem?_getD, List.getElem?_eq_getElem hj, List.getElem?_eq_getElem (Nat.lt_trans hij hj)]
    have h6 : (src T).L.Pairwise (fun a b => a.to ≤ b.at_ ∧ a.at_ < b.at_) := by rw [hL]; exact h5
    exact ((List.pairwise_iff_getElem.1 h6) i j _ hj hij).1
section
variable {S : Src} (ok : SrcOk S)
include ok
theorem last_mono {i j : Nat} (h : i ≤ j) (hj : j ≤ S.L.length) : S.last i ≤ S.last j := by
  unfold Src.last
  split
  · split <;> omega
  · rename_i h0
    rw [if_neg (by omega)]
    rcases Nat.lt_or_eq_of_le h with h1 | h1
    · have h2 := ok.ord (i - 1) (j - 1) (by omega) (by omega)
      have h3 := (ok.le (j - 1) (by omega)).1
      omega
    · subst h1
      exact Int.le_refl _
theorem last_le_at {i j : Nat} (h : i ≤ j) (hj : j < S.L.length) : S.last i ≤ (S.L.getD j default).at_ := by
  unfold Src.last
  split
  · omega
  · have h2 := ok.ord (i - 1) j (by omega) hj
    omega
theorem at_le_last {a e : Nat} (h : a ≤ e) (he : e ≤ S.L.length) : 0 ≤ S.at_ a e ∧ S.at_ a e ≤ S.last e := by
  unfold Src.at_
  split
  · rename_i h1
    have h2 := (ok.le a (by omega)).1
    have h3 := last_mono ok (i := a + 1) (j := e) (by omega) he
    have h4 : S.last (a + 1) = ((S.L.getD a default).to : Int) := by unfold Src.last; rw [if_neg (by omega), Nat.add_sub_cancel]
    omega
  · have := last_mono ok (i := 0) (j := e) (by omega) he
    have h0 : S.last 0 = 0 := rfl
    omega
theorem last_size {i : Nat} (h : i ≤ S.L.length) : S.last i ≤ S.T.size := by
  unfold Src.last
  split
  · omega
  · have := (ok.le (i - 1) (by omega)).2
    omega
theorem trees_nest : ∀ (ks : List PT), (∀ k ∈ ks, k.nst → k.to ≤ S.L.length → trNest (S.tree k) = true) → ∀ (lo hi : Nat) (a e : Int), PT.nsts lo hi ks → hi ≤ S.L.length → (∀ j, lo ≤ j → j < S.L.length → a ≤ (S.L.getD j default).at_) → S.last hi ≤ e → trNests a e (S.trees ks) = true
  | [], _, _, _, _, _, _, _, _, _ => rfl
  | .mk kd tx f t kk :: ks, h, lo, hi, a, e, hn, hh, ha, he => by
    obtain ⟨n1, n2, n3, n4⟩ : lo ≤ f ∧ t ≤ hi ∧ (PT.mk kd tx f t kk).nst ∧ PT.nsts t hi ks := hn
    have hft : f ≤ t := n3.1
    have hk := h _ (List.mem_cons_self ..) n3 (show t ≤ S.L.length by omega)
    obtain ⟨c1, c2⟩ := at_le_last ok hft (by omega)
    have c3 := last_mono ok n2 hh
    rw [Src.trees]
    rw [trNests, hk]
    have e1 : (S.tree (.mk kd tx f t kk)).fr = S.at_ f t := rfl
    have e2 : (S.tree (.mk kd tx f t kk)).to = S.last t := rfl
    rw [e1, e2]
    have hlt : S.at_ f t < S.last t → f < t := fun hx => by
      rcases Nat.lt_or_eq_of_le hft with h1 | h1
      · exact h1
      · exfalso
        subst h1
        unfold Src.at_ at hx
        rw [if_neg (by omega)] at hx
        omega
    rw [decide_eq_true c2]
    have hmid : (decide (S.last t ≤ S.at_ f t) || (decide (a ≤ S.at_ f t) && decide (S.last t ≤ e))) = true := by
      by_cases hx : S.at_ f t < S.last t
      · have h1 := hlt hx
        have h2 : S.at_ f t = (S.L.getD f default).at_ := by unfold Src.at_; rw [if_pos h1]
        have h3 := ha f n1 (by omega)
        rw [decide_eq_true (show a ≤ S.at_ f t by omega), decide_eq_true (show S.last t ≤ e by omega)]
        simp
      · rw [decide_eq_true (show S.last t ≤ S.at_ f t by omega)]
        rfl
    rw [hmid]
    simp only [Bool.true_and]
    refine trees_nest ks (fun k hk => h k (List.mem_cons_of_mem _ hk)) t hi _ e n4 hh (fun j hj hjl => ?_) he
    split
    · exact last_le_at ok hj hjl
    · exact ha j (by omega) hjl
theorem tree_nest (t : PT) : t.nst → t.to ≤ S.L.length → trNest (S.tree t) = true := by
  induction t using PT.ind with
  | h k tx f t ks ih =>
    intro h ht
    rw [Src.tree, trNest]
    refine trees_nest ok ks ih f t _ _ h.2 ht (fun j hj hjl => ?_) (Int.le_refl _)
    have hft : f ≤ t := h.1
    unfold Src.at_
    split
    · rcases Nat.lt_or_eq_of_le hj with h1 | h1
      · have h2 := ok.ord f j h1 hjl
        have h3 := (ok.le f (by omega)).1
        omega
      · subst h1; exact Int.le_refl _
    · exact last_le_at ok (by omega) hjl
end
theorem sortD_len' (l : List Dg) : (sortD l).length = l.length := by
  have h : ∀ (d : Dg) (m : List Dg), (put d m).length = m.length + 1 := by
    intro d m
    induction m with
    | nil => rfl
    | cons x m ih =>
      unfold put
      split <;> simp [ih]
  have h2 : ∀ (l acc : List Dg), (l.foldl (fun acc d => put d acc) acc).length = acc.length + l.length := by
    intro l
    induction l with
    | nil => intro acc; simp
    | cons x l ih => intro acc; rw [List.foldl_cons, ih, h]; simp; omega
  have := h2 l []
  simpa [sortD] using this
/-- What is right of a node. -/
def XOk (T : ByteArray) (q : Prop) (x : Tr) : Prop :=
  0 ≤ x.fr ∧ x.fr ≤ x.to ∧ x.to ≤ T.size ∧ (q → (x.kind = 35 ∨ x.kind = 38 → T.extract x.fr.toNat x.to.toNat = x.text) ∧ (x.kind = 36 → dropZ (T.extract x.fr.toNat x.to.toNat) = dropZ x.text ∧ x.text.size ≤ T.size + 1))
theorem dropZ_dropZ (w : ByteArray) : dropZ (dropZ w) = dropZ w := by
  unfold dropZ
  simp only
  congr 2
  induction w.data.toList with
  | nil => rfl
  | cons c l ih =>
    rw [List.dropWhile_cons]
    split
    · exact ih
    · rename_i h
      rw [List.dropWhile_cons, if_neg h]
theorem dropZ_numT (w : ByteArray) : dropZ (numT w) = dropZ w := by
  unfold numT
  split
  · rename_i h
    rw [h]
    decide +kernel
  · exact dropZ_dropZ w
theorem numT_size (w : ByteArray) : (numT w).size ≤ w.size + 1 := by
  unfold numT
  split
  · have : ((ByteArray.mk #[48])).size = 1 := rfl
    omega
  · have h : (dropZ w).size = (w.data.toList.dropWhile (· == 48)).length := by
      unfold dropZ
      rfl
    have h2 : w.size = w.data.toList.length := rfl
    have h3 := (List.dropWhile_sublist (l := w.data.toList) (· == 48)).length_le
    omega
theorem src_word (S : Src) (a : Nat) (h : a < S.L.length) : (S.A.getD a default).word = S.T.extract (S.L.getD a default).at_ (S.L.getD a default).to := by
  unfold Src.A
  rw [List.getD_eq_getElem?_getD, List.getD_eq_getElem?_getD, List.getElem?_map, List.getElem?_eq_getElem h]
  rfl
theorem nst_to {lo hi : Nat} : ∀ {ks : List PT}, PT.nsts lo hi ks → ∀ k ∈ ks, k.nst ∧ k.to ≤ hi
  | [], _, k, hk => by simp at hk
  | x :: ks, h, k, hk => by
    obtain ⟨a, b, c, d⟩ : lo ≤ x.fr ∧ x.to ≤ hi ∧ x.nst ∧ PT.nsts x.to hi ks := h
    rcases List.mem_cons.1 hk with rfl | hk
    · exact ⟨c, b⟩
    · exact nst_to d k hk
theorem nmds_mem {A : List Tk} : ∀ {ks : List PT}, PT.nmds A ks → ∀ k ∈ ks, k.nmd A
  | [], _, k, hk => by simp at hk
  | x :: ks, h, k, hk => by
    rcases List.mem_cons.1 hk with rfl | hk
    · exact h.1
    · exact nmds_mem h.2 k hk
theorem allTs_map {P : Tr → Prop} {S : Src} : ∀ {ks : List PT}, (∀ k ∈ ks, allT P (S.tree k)) → allTs P (S.trees ks)
  | [], _ => trivial
  | x :: ks, h => ⟨h x (List.mem_cons_self ..), allTs_map fun k hk => h k (List.mem_cons_of_mem _ hk)⟩
theorem tree_all {S : Src} (ok : SrcOk S) (q : Prop) (t : PT) : t.nst → t.to ≤ S.L.length → (q → t.nmd S.A) → allT (XOk S.T q) (S.tree t) := by
  induction t using PT.ind with
  | h k tx f t ks ih =>
    intro h ht hq
    have hft : f ≤ t := h.1
    obtain ⟨c1, c2⟩ := at_le_last ok hft ht
    rw [Src.tree]
    refine ⟨⟨c1, c2, last_size ok ht, fun q0 => ?_⟩, allTs_map fun x hx => ih x hx (nst_to h.2 x hx).1 (Nat.le_trans (nst_to h.2 x hx).2 ht) (fun q0 => nmds_mem (hq q0).2 x hx)⟩
    have hN := (hq q0).1
    have key : t = f + 1 → S.T.extract (S.at_ f t).toNat (S.last t).toNat = (S.A.getD f default).word := fun e => by
      subst e
      have e1 : S.at_ f (f + 1) = ((S.L.getD f default).at_ : Int) := by unfold Src.at_; rw [if_pos (by omega)]
      have e2 : S.last (f + 1) = ((S.L.getD f default).to : Int) := by unfold Src.last; rw [if_neg (by omega), Nat.add_sub_cancel]
      rw [e1, e2, src_word S f (by have h9 : f + 1 ≤ S.L.length := ht; omega)]
      rfl
    refine ⟨fun e => ?_, fun e => ?_⟩
    · obtain ⟨n1, n2⟩ := hN.1 e
      exact (key n1).trans n2.symm
    · obtain ⟨n1, n2⟩ := hN.2 e
      constructor
      · show dropZ _ = dropZ tx
        rw [n2, dropZ_numT]
        exact congrArg dropZ (key n1)
      · show tx.size ≤ _
        rw [n2]
        refine Nat.le_trans (numT_size _) ?_
        rw [← key n1, ByteArray.size_extract]
        omega
mutual
theorem cnt_count (S : Src) : ∀ t : PT, (S.tree t).count = t.cnt
  | .mk k t a e ks => by rw [Src.tree, Tr.count, PT.cnt, cnts_counts S ks]
theorem cnts_counts (S : Src) : ∀ l : List PT, Tr.counts (S.trees l) = PT.cnts l
  | [] => rfl
  | t :: ts => by rw [Src.trees, Tr.counts, PT.cnts, cnt_count S t, cnts_counts S ts]
end
/-- The reports of a text's declarations. -/
def lastS (T : ByteArray) : Ps := (decls (src T).A (src T).A.length [] ⟨0, []⟩).2
theorem parse_nest {T : ByteArray} (hT : T.size ≤ 4096) (hs : PsOk (src T) (lastS T)) : trNest (parse T).1 = true ∧ allT (XOk T ((parse T).2 = [])) (parse T).1 ∧ (parse T).1.count ≤ 1000000 := by
  have kd := parse_kd (src T).A
  have ok := src_srcok T
  have hto := hs.lt
  have hlen := (src_ok T hT).len
  have hd : (parse T).2 = sortD ((src T).list (lastS T)) := rfl
  have ht : (parse T).1 = .mk 2 ⟨#[]⟩ 0 T.size ((src T).trees (decls (src T).A (src T).A.length [] ⟨0, []⟩).1) := by
    rw [Src.trees_map]
    rfl
  have hq : (parse T).2 = [] → (lastS T).reps.length = 0 := fun e => by
    have h1 : ((src T).list (lastS T)).length = 0 := by
      have h2 := sortD_len' ((src T).list (lastS T))
      rw [← hd, e] at h2
      exact h2.symm
    unfold Src.list at h1
    rw [List.length_append, List.length_map] at h1
    omega
  rw [ht]
  unfold lastS at *
  generalize decls (src T).A (src T).A.length [] ⟨0, []⟩ = r at *
  have hn := kd.nst
  have hll : r.2.at_ ≤ (src T).L.length := Nat.le_of_lt hto
  refine ⟨?_, ⟨⟨Int.le_refl _, Int.natCast_nonneg _, Int.le_refl _, fun _ => ⟨fun e => ?_, fun e => ?_⟩⟩, allTs_map fun k hk => tree_all ok _ k (nst_to hn k hk).1 (Nat.le_trans (nst_to hn k hk).2 hll) (fun q0 => nmds_mem (kd.nmd (hq q0)) k hk)⟩, ?_⟩
  · rw [trNest]
    exact trees_nest ok r.1 (fun k _ => tree_nest ok k) 0 r.2.at_ _ _ hn hll (fun j _ _ => Int.natCast_nonneg _) (last_size ok hll)
  · rcases e with e | e <;> exact absurd e (by simp only [Tr.kind]; decide)
  · exact absurd e (by simp only [Tr.kind]; decide)
  · rw [Tr.count, cnts_counts]
    have := kd.cnt
    omega
end Go.Proofs.YthggagophcnkfaaGreatDoor.px
