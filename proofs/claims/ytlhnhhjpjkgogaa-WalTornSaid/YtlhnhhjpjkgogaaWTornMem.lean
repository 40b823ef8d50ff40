/- What WalTorn's input says, and the memory behind its writes. -/
import Derived.Test.YtlhnhhjpjkgogaaWTornBase
namespace Go.Proofs.Ytlhnhhjpjkgogaa.wl
open Go.RowKit Go.Proofs.Ytlhnhhjpjkgogaa.agg Go.Proofs.Ytlhnhhjpjkgogaa.dk
set_option linter.unusedSimpArgs false
set_option linter.unusedVariables false

theorem skips_facts {f g : Fr} (h : skips f g = false) : (¬ (50 : Int) < f.data.size ∧ ¬ (50 : Int) < g.data.size ∧ ¬ 4294967295 ≤ imax f.epoch g.epoch ∧ ¬ imin f.epoch g.epoch < 1 ∧ ¬ 1000 < imax f.pos g.pos ∧ ¬ imin f.pos g.pos < 0 ∧ ¬ f.kind < 1 ∧ ¬ 4 < f.kind ∧ ¬ g.kind < 1 ∧ ¬ 4 < g.kind) ∧
    ((f.epoch == g.epoch) = false ∨ (f.epoch == g.epoch) = true ∧ (f.pos == g.pos) = false) := by
  rw [Bool.eq_false_iff] at h
  unfold skips at h
  simp only [ne_eq, Bool.or_eq_true, decide_eq_true_eq, Bool.and_eq_true] at h
  have e1 : imax f.epoch g.epoch = max f.epoch g.epoch := by unfold imax; split <;> omega
  have e2 : imin f.epoch g.epoch = min f.epoch g.epoch := by unfold imin; split <;> omega
  have e3 : imax f.pos g.pos = max f.pos g.pos := by unfold imax; split <;> omega
  have e4 : imin f.pos g.pos = min f.pos g.pos := by unfold imin; split <;> omega
  rw [e1, e2, e3, e4]
  refine ⟨⟨by omega, by omega, by omega, by omega, by omega, by omega, by omega, by omega, by omega, by omega⟩, ?_⟩
  by_cases q : f.epoch = g.epoch
  · refine .inr ⟨by simpa using q, ?_⟩
    have : ¬ f.pos = g.pos := by omega
    simpa using this
  · exact .inl (by simpa using q)
theorem skips_yes {f g : Fr} (h : skips f g = true) : (50 : Int) < f.data.size ∨ (50 : Int) < g.data.size ∨ 4294967295 ≤ imax f.epoch g.epoch ∨ imin f.epoch g.epoch < 1 ∨ 1000 < imax f.pos g.pos ∨ imin f.pos g.pos < 0 ∨ ((f.epoch == g.epoch) && (f.pos == g.pos)) = true ∨ f.kind < 1 ∨ 4 < f.kind ∨ g.kind < 1 ∨ 4 < g.kind := by
  unfold skips at h
  simp only [Bool.or_eq_true, decide_eq_true_eq, Bool.and_eq_true] at h
  have e1 : imax f.epoch g.epoch = max f.epoch g.epoch := by unfold imax; split <;> omega
  have e2 : imin f.epoch g.epoch = min f.epoch g.epoch := by unfold imin; split <;> omega
  have e3 : imax f.pos g.pos = max f.pos g.pos := by unfold imax; split <;> omega
  have e4 : imin f.pos g.pos = min f.pos g.pos := by unfold imin; split <;> omega
  rw [e1, e2, e3, e4]
  simp only [Bool.and_eq_true, beq_iff_eq]
  omega
/-- The memory behind the two writes of WalTorn. -/
structure Tor (w : World) (f g : Fr) (A B : Nat) (W : World) : Prop where
  a : W.heap[A]? = some (.cells (sec f.sec) 26 (0, 0))
  b : W.heap[B]? = some (.cells (sec g.sec) 26 (0, 0))
  ne : A ≠ B
  pair : Pair w f g W
  la : w.heap.size + 1 < A
  lb : w.heap.size + 1 < B
theorem Tor.more {w : World} {f g : Fr} {A B : Nat} {W u : World} (h : Tor w f g A B W) (hb : Below W.heap.size W u) : Tor w f g A B u :=
  ⟨(hb.block _ (lt_of_block h.a)).trans h.a, (hb.block _ (lt_of_block h.b)).trans h.b, h.ne, h.pair.more hb, h.la, h.lb⟩
theorem torn_row {a b : List Int} (ha : a.length = 64) (hb : b.length = 64) {m : Nat} (hm : m ≤ 64) : overrow (sec a) 0 ((sec b).extract 0 (0 + m)) = sec (torn a b m) := by
  have h : (sec b).extract 0 (0 + m) = sec (b.take m) := by
    apply Array.ext'
    rw [Array.toList_extract]
    show List.take (0 + m - 0) (List.drop 0 (u8s b)) = u8s (b.take m)
    rw [List.drop_zero, u8s, u8s, Nat.zero_add, Nat.sub_zero, List.map_take]
  rw [h, overrow_sec]
  unfold over torn
  rw [List.take_zero, List.nil_append, Nat.zero_add, List.length_take, Nat.min_eq_left (by omega)]
theorem torn_isSec {a b : List Int} (ha : IsSec a) (hb : IsSec b) {m : Nat} (hm : m ≤ 64) : IsSec (torn a b m) := by
  refine ⟨?_, fun c hc => ?_⟩
  · unfold torn
    have := ha.len
    have := hb.len
    simp
    omega
  · unfold torn at hc
    rcases List.mem_append.1 hc with h | h
    · exact hb.rng c (List.mem_of_mem_take h)
    · exact ha.rng c (List.mem_of_mem_drop h)
theorem parse_size {s : List Int} (h : (parseFr s).2 = true) : (parseFr s).1.data.size ≤ 50 := by
  unfold parseFr at h ⊢
  split
  · rename_i hq; rw [if_pos hq] at h; simp at h
  · rename_i hq
    simp only
    rw [size_strOf, List.length_take]
    omega
/-- What reading the torn sector gives: nothing, the old frame, or the new one. -/
theorem torn_cases {f g : Fr} (hf : f.Good) (hg : g.Good) (hne : ¬ (f.epoch = g.epoch ∧ f.pos = g.pos)) {m : Nat} (hm : m ≤ 64) :
    ((parseFr (torn f.sec g.sec m)).2 = false ∧ torn f.sec g.sec m ≠ g.sec) ∨ (torn f.sec g.sec m = f.sec ∧ f.sec ≠ g.sec ∧ f ≠ g) ∨ (torn f.sec g.sec m = g.sec ∧ f.sec ≠ g.sec) := by
  have hfg : f ≠ g := by rintro rfl; exact hne ⟨rfl, rfl⟩
  have hse : f.sec ≠ g.sec := by
    intro e
    have h1 := parse_sec hf
    rw [e, parse_sec hg] at h1
    exact hfg (congrArg Prod.fst h1).symm
  by_cases hp : (parseFr (torn f.sec g.sec m)).2 = true
  · have hx : (parseFr (torn f.sec g.sec m)).1.sec = torn f.sec g.sec m := parse_true (Prod.ext rfl hp)
    rcases torn_frame hf hg hne (parse_size hp) m hm hx with h | h
    · exact .inr (.inl ⟨hx.symm.trans h, hse, hfg⟩)
    · exact .inr (.inr ⟨hx.symm.trans h, hse⟩)
  · refine .inl ⟨by simpa using hp, fun e => hp ?_⟩
    rw [e, parse_sec hg]
/-- The memory behind the copy of the front. -/
structure Tor3 (w : World) (f g : Fr) (A B C : Nat) (s : List Int) (W : World) : Prop where
  tor : Tor w f g A B W
  c : W.heap[C]? = some (.cells (sec s) 26 (0, 0))
  na : A ≠ C
  nb : B ≠ C
  lc : w.heap.size + 1 < C
theorem Tor3.more {w : World} {f g : Fr} {A B C : Nat} {s : List Int} {W u : World} (h : Tor3 w f g A B C s W) (hb : Below W.heap.size W u) : Tor3 w f g A B C s u :=
  ⟨h.tor.more hb, (hb.block _ (lt_of_block h.c)).trans h.c, h.na, h.nb, h.lc⟩
theorem Tor.set {w : World} {f g : Fr} {A B C : Nat} {W : World} {s t : List Int} (h : Tor w f g A B W) (hc : W.heap[C]? = some (.cells (sec t) 26 (0, 0))) (na : A ≠ C) (nb : B ≠ C) (lc : w.heap.size + 1 < C) : Tor3 w f g A B C s (W.setRow C (sec s)) := by
  have hp := h.pair
  refine ⟨⟨(setRow_other _ _ _ _ na).trans h.a, (setRow_other _ _ _ _ nb).trans h.b, h.ne, ⟨⟨hp.below.os, hp.below.tape, hp.below.output, by simpa using hp.below.size, fun i hi => (setRow_other _ _ _ _ (by omega)).trans (hp.below.block i hi)⟩, (setRow_other _ _ _ _ (by omega)).trans hp.one, (setRow_other _ _ _ _ (by omega)).trans hp.two⟩, h.la, h.lb⟩, setRow_heap _ _ _ _ _ _ hc, na, nb, lc⟩
end Go.Proofs.Ytlhnhhjpjkgogaa.wl
