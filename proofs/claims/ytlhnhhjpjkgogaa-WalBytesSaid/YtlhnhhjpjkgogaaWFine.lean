/- A disk that works, and what it shows: what writes, a flush, a superblock leave. No program is walked here. -/
import Derived.Test.YtlhnhhjpjkgogaaWVis
import Derived.Test.YtlhnhhjpjkgogaaWLay
import Derived.Test.YtlhnhhjpjkgogaaWLook
namespace Go.Proofs.Ytlhnhhjpjkgogaa.wl
open Go.RowKit Go.Proofs.Ytlhnhhjpjkgogaa.agg Go.Proofs.Ytlhnhhjpjkgogaa.dk

/-- A disk that works and shows contents. -/
structure Fine (X : List (List Int)) (st : St) : Prop where
  ok : st.failed = false
  left : st.left = -1
  len : st.dur.length = X.length
  dl : ∀ s ∈ st.dur, s.length = 64
  pl : ∀ x ∈ st.pend, x.2.length = 64
  pin : ∀ x ∈ st.pend, 0 ≤ x.1 ∧ x.1 < st.dur.length
  vis : ∀ n : Nat, n < X.length → st.visible n = X.getD n []
theorem Fine.call {X : List (List Int)} {st : St} (h : Fine X st) : st.call = st := by
  unfold St.call
  rw [if_neg (by simp [h.ok]), if_neg (by rw [h.left]; omega), if_neg (by rw [h.left]; omega)]
theorem Fine.lens {X : List (List Int)} {st : St} (h : Fine X st) : ∀ s ∈ X, s.length = 64 := by
  intro s hs
  obtain ⟨n, hn, rfl⟩ := List.mem_iff_getElem.1 hs
  have hv := h.vis n hn
  rw [List.getD_eq_getElem?_getD, List.getElem?_eq_getElem hn] at hv
  rw [show X[n] = st.visible n from hv.symm]
  unfold St.visible
  split
  · rename_i y hy
    exact h.pl y (List.mem_reverse.1 (List.mem_of_find?_eq_some hy))
  · rw [List.getD_eq_getElem?_getD, Int.toNat_natCast, List.getElem?_eq_getElem (by rw [h.len]; exact hn)]
    exact h.dl _ (List.getElem_mem _)
theorem Fine.new (n : Nat) : Fine (List.replicate n zeros) (St.new n) := by
  refine ⟨rfl, rfl, by simp [St.new], fun s hs => ?_, (by intro x hx; cases hx), (by intro x hx; cases hx), fun k _ => rfl⟩
  rw [(List.mem_replicate.1 hs).2]
  exact length_zeros
theorem Fine.reads {X : List (List Int)} {st : St} (h : Fine X st) (k : Nat) : Fine X (reads st k) := ⟨h.ok, h.left, h.len, h.dl, h.pl, h.pin, h.vis⟩
theorem Fine.write {X : List (List Int)} {st : St} (h : Fine X st) (n : Nat) (hn : n < X.length) (d : List Int) (hd : d.length = 64) : (st.write n d).2 = 0 ∧ Fine (X.set n d) (st.write n d).1 := by
  have e : st.write n d = ({ st with pend := st.pend ++ [((n : Int), d)], wr := wrap64 (st.wr + 1) }, 0) := by
    unfold St.write
    rw [if_neg (by rw [h.len]; omega), h.call, if_neg (by simp [h.ok])]
  rw [e]
  refine ⟨rfl, h.ok, h.left, by rw [List.length_set]; exact h.len, h.dl, fun x hx => ?_, fun x hx => ?_, fun k hk => ?_⟩
  · rcases List.mem_append.1 hx with hx | hx
    · exact h.pl x hx
    · rw [List.mem_singleton.1 hx]; exact hd
  · rcases List.mem_append.1 hx with hx | hx
    · exact h.pin x hx
    · rw [List.mem_singleton.1 hx]
      have := h.len
      show (0 : Int) ≤ n ∧ (n : Int) < st.dur.length
      omega
  · rw [List.length_set] at hk
    have hv := h.vis k hk
    unfold St.visible at hv ⊢
    simp only
    rw [lastTo_snoc]
    by_cases e : (n : Int) = k
    · rw [if_pos e]
      have : n = k := by omega
      subst this
      show d = _
      rw [List.getD_eq_getElem?_getD, List.getElem?_set_self hn]
      rfl
    · rw [if_neg e, getD_set_other _ _ _ _ _ (fun h => e (by omega))]
      exact hv
theorem Fine.flush {X : List (List Int)} {st : St} (h : Fine X st) : st.flush.2 = 0 ∧ Fine X st.flush.1 ∧ st.flush.1.pend = [] := by
  have e : st.flush = ({ st with dur := layAll st.dur st.pend, pend := [], fl := wrap64 (st.fl + 1) }, 0) := by
    unfold St.flush
    rw [h.call, if_neg (by simp [h.ok])]
  rw [e]
  refine ⟨rfl, ⟨h.ok, h.left, by rw [← h.len]; exact length_layAll _ _, layAll_lens st.pend h.dl h.pl h.pin, (by intro x hx; cases hx), (by intro x hx; cases hx), fun n hn => ?_⟩, rfl⟩
  have h1 := visible_layAll st.dur st.pend h.dl h.pl h.pin n (by rw [h.len]; exact hn) st.pend.length (Nat.le_refl _)
  rw [List.take_length] at h1
  have h2 : st.visible (n : Nat) = (layAll st.dur st.pend).getD n [] := h1
  rw [h.vis n hn] at h2
  exact h2.symm
theorem Fine.writes {st0 : St} {a base : Int} (hb : base = 2 + a * sizeOf' st0) : ∀ (fs : List Fr) {X : List (List Int)} {st : St}, Fine X st → st.dur.length = st0.dur.length → (∀ f ∈ fs, f.data.size ≤ 50 ∧ 0 ≤ base + f.pos ∧ base + f.pos < X.length) →
    (writes st (placed st a fs)).2 = 0 ∧ Fine (laidF base X fs) (writes st (placed st a fs)).1
  | [], X, st, h, _, _ => ⟨rfl, h⟩
  | f :: fs, X, st, h, hl, hf => by
    have hf0 := hf f (by simp)
    have hpl : placeOf st a f.pos = (((base + f.pos).toNat : Nat) : Int) := by
      unfold placeOf sizeOf'
      rw [hl]
      rw [hb] at hf0 ⊢
      unfold sizeOf' at hf0 ⊢
      omega
    have hw := h.write (base + f.pos).toNat (by omega) f.sec (f.length_sec hf0.1)
    have e : placed st a (f :: fs) = (placeOf st a f.pos, f.sec) :: placed st a fs := rfl
    have hd : (st.write (placeOf st a f.pos) f.sec).1.dur = st.dur := write_dur _ _ _
    rw [e, writes_ok (by rw [hpl]; exact hw.1)]
    rw [← placed_dur hd a fs]
    have ih := Fine.writes hb fs (X := X.set (base + f.pos).toNat f.sec) (st := (st.write (placeOf st a f.pos) f.sec).1) (by rw [hpl]; exact hw.2) (by rw [hd]; exact hl) (fun g hg => by rw [List.length_set]; exact hf g (by simp [hg]))
    exact ih
theorem Fine.root {X : List (List Int)} {st : St} (h : Fine X st) (b : Nat) (hb : b < X.length) (e a : Int) : (rootSt st b e a).2 = 0 ∧ Fine (X.set b (rootFr e a).sec) (rootSt st b e a).1 ∧ (rootSt st b e a).1.pend = [] := by
  have hs : (rootFr e a).sec.length = 64 := Fr.length_sec _ (by unfold rootFr; simp only; rw [size_strOf]; simp)
  have hw := h.write b hb _ hs
  have hfl := hw.2.flush
  unfold rootSt
  rw [if_pos hw.1]
  exact hfl
end Go.Proofs.Ytlhnhhjpjkgogaa.wl
