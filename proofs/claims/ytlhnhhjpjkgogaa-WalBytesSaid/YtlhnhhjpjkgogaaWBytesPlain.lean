/- What Append, Sync and Checkpoint do where nothing fails. No program is walked here. -/
import Derived.Test.YtlhnhhjpjkgogaaWStart
import Derived.Test.YtlhnhhjpjkgogaaWContent
namespace Go.Proofs.Ytlhnhhjpjkgogaa.wl
open Go.RowKit Go.Proofs.Ytlhnhhjpjkgogaa.agg Go.Proofs.Ytlhnhhjpjkgogaa.dk

theorem size_fine {X : List (List Int)} {st : St} (h : Fine X st) (h2 : 2 ≤ X.length) : sizeOf' st = (((X.length - 2) / 2 : Nat) : Int) := by
  unfold sizeOf'
  rw [h.len, Int.tdiv_eq_ediv_of_nonneg (by omega)]
  omega
theorem frames_rng (r : ByteArray) (e p : Int) (f : Fr) (hf : f ∈ framesOf r e p) : f.data.size ≤ 50 ∧ p ≤ f.pos ∧ f.pos < p + nfr r := by
  simp only [framesOf, List.mem_map, List.mem_range] at hf
  obtain ⟨i, hi, rfl⟩ := hf
  refine ⟨size_chunk r i, ?_, ?_⟩ <;> simp only [frameAt] <;> omega
theorem recFrames_rng (e : Int) : ∀ (l : List ByteArray) (p : Int) (f : Fr), f ∈ recFrames l e p → f.data.size ≤ 50 ∧ p ≤ f.pos ∧ f.pos < p + needN l
  | [], _, f, hf => by simp [recFrames] at hf
  | r :: l, p, f, hf => by
    rw [recFrames] at hf
    have e1 : needN (r :: l) = nfr r + needN l := by simp [needN]
    rcases List.mem_append.1 hf with h | h
    · have := frames_rng r e p f h
      rw [e1]
      omega
    · have := recFrames_rng e l _ f h
      rw [e1]
      omega
section
variable {X : List (List Int)} {st : St} {a b e t s : Nat}
theorem append_fine (h : Fine X st) (h8 : 8 ≤ X.length) (hs : s = (X.length - 2) / 2) (ha : a = 0 ∨ a = 1) (r : ByteArray) (hr : r.size ≤ 65536) (hfit : t + nfr r ≤ s) :
    ∃ st', appendLg st ⟨e, b, a, t, 0⟩ r = (st', ⟨e, b, a, ((t + nfr r : Nat) : Int), 0⟩, 0) ∧ Fine (laidF ((2 + a * s : Nat) : Int) X (framesOf r e t)) st' ∧ st'.pend.length ≤ st.pend.length + nfr r := by
  have hsz := size_fine h (by omega)
  rw [← hs] at hsz
  have hb : ((2 + a * s : Nat) : Int) = 2 + (a : Int) * sizeOf' st := by rw [hsz]; simp
  have hw := Fine.writes hb (framesOf r e t) h rfl (fun f hf => by
    obtain ⟨h1, h2, h3⟩ := frames_rng r e t f hf
    refine ⟨h1, by omega, ?_⟩
    rcases ha with rfl | rfl <;> omega)
  have hp := writes_pend (placed st a (framesOf r e t)) st
  unfold placed at hp
  rw [List.length_map, length_framesOf] at hp
  refine ⟨_, ?_, hw.2, hp⟩
  unfold appendLg
  rw [if_neg (by simp), if_neg (by rw [hsz]; simp only; omega)]
  simp only
  rw [hw.1, if_pos rfl]
  simp
theorem append_full (h : Fine X st) (h8 : 8 ≤ X.length) (hs : s = (X.length - 2) / 2) (r : ByteArray) (hfit : ¬ t + nfr r ≤ s) :
    appendLg st ⟨e, b, a, t, 0⟩ r = (st, ⟨e, b, a, t, 0⟩, 8) := by
  have hsz := size_fine h (by omega)
  rw [← hs] at hsz
  unfold appendLg
  rw [if_neg (by simp), if_pos (.inr (by rw [hsz]; simp only; omega))]
theorem sync_fine (h : Fine X st) : syncLg st ⟨e, b, a, t, 0⟩ = (st.flush.1, ⟨e, b, a, t, 0⟩, 0) ∧ Fine X st.flush.1 ∧ st.flush.1.pend = [] := by
  have hf := h.flush
  refine ⟨?_, hf.2.1, hf.2.2⟩
  unfold syncLg
  rw [if_neg (by simp), hf.1, if_pos rfl]
/-- The contents behind a Checkpoint. -/
def checkX (X : List (List Int)) (s a b e : Nat) (recs : List ByteArray) : List (List Int) :=
  (laidF ((2 + (1 - a) * s : Nat) : Int) X (recFrames recs ((e + 1 : Nat) : Int) 0)).set (1 - b) (rootFr ((e + 1 : Nat) : Int) ((1 - a : Nat) : Int)).sec
theorem check_fine (h : Fine X st) (h8 : 8 ≤ X.length) (hs : s = (X.length - 2) / 2) (ha : a = 0 ∨ a = 1) (hb : b = 0 ∨ b = 1) (he : e < 4294967295) (recs : List ByteArray) (hfit : needN recs ≤ s) :
    ∃ st', checkLg st ⟨e, b, a, t, 0⟩ recs = (st', ⟨((e + 1 : Nat) : Int), ((1 - b : Nat) : Int), ((1 - a : Nat) : Int), ((needN recs : Nat) : Int), 0⟩, 0) ∧ Fine (checkX X s a b e recs) st' ∧ st'.pend = [] := by
  have hsz := size_fine h (by omega)
  rw [← hs] at hsz
  have ea : (1 : Int) - (a : Int) = ((1 - a : Nat) : Int) := by omega
  have eb : (1 : Int) - (b : Int) = ((1 - b : Nat) : Int) := by omega
  have ee : (e : Int) + 1 = ((e + 1 : Nat) : Int) := by omega
  have hbase : ((2 + (1 - a) * s : Nat) : Int) = 2 + ((1 - a : Nat) : Int) * sizeOf' st := by rw [hsz]; simp
  have hw := Fine.writes hbase (recFrames recs ((e + 1 : Nat) : Int) 0) h rfl (fun f hf => by
    obtain ⟨h1, h2, h3⟩ := recFrames_rng _ recs 0 f hf
    refine ⟨h1, by omega, ?_⟩
    rcases ha with rfl | rfl <;> omega)
  have hfl := hw.2.flush
  have hr := hfl.2.1.root (1 - b) (by rw [laidF_len]; omega) ((e + 1 : Nat) : Int) ((1 - a : Nat) : Int)
  refine ⟨_, ?_, hr.2.1, hr.2.2⟩
  unfold checkLg
  rw [if_neg (by simp), if_neg (by rw [hsz]; simp only; omega)]
  simp only
  rw [ea, ee]
  unfold recWrites checkEnd
  rw [if_neg (by rw [hw.1]; simp), if_neg (by rw [hfl.1]; simp)]
  simp only
  rw [ea, eb, ee, if_neg (by rw [hr.1]; simp)]
theorem check_full (h : Fine X st) (h8 : 8 ≤ X.length) (hs : s = (X.length - 2) / 2) (recs : List ByteArray) (hfit : ¬ needN recs ≤ s) :
    checkLg st ⟨e, b, a, t, 0⟩ recs = (st, ⟨e, b, a, t, 0⟩, 8) := by
  have hsz := size_fine h (by omega)
  rw [← hs] at hsz
  unfold checkLg
  rw [if_neg (by simp), if_pos (.inl (by rw [hsz]; omega))]
end
theorem visL_fine {X : List (List Int)} {st : St} (h : Fine X st) : visL st = X := by
  apply List.ext_getElem
  · rw [visL_len, h.len]
  · intro i h1 h2
    rw [visL_get, h.vis i h2, List.getD_eq_getElem?_getD, List.getElem?_eq_getElem h2]
    rfl
end Go.Proofs.Ytlhnhhjpjkgogaa.wl
