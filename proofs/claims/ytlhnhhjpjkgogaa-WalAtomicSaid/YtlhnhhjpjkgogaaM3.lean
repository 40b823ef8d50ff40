/- A disk that works, and what it shows: what writes, a flush, a superblock leave. No program is walked here. A log on a new disk; the walks of Area and Err. What Append, Sync and Checkpoint do where nothing fails. No program is walked here. What a log's disk shows within one session: a superblock, an area of records, older frames behind them. No program is walked here. The walk of confluentlaw48.Begin. Open on a disk of which the superblock is known; what a crash leaves behind appended records. What Open finds behind a crash while records were appended: those that were synchronized, and a prefix of the others. -/
import Derived.Test.YtlhnhhjpjkgogaaWVis
import Derived.Test.YtlhnhhjpjkgogaaWLay
import Derived.Test.YtlhnhhjpjkgogaaWLook
import Derived.Test.YtlhnhhjpjkgogaaWCreate
import Derived.Test.YtlhnhhjpjkgogaaWEx
import Derived.Test.YtlhnhhjpjkgogaaDNew
import Derived.Test.YtlhnhhjpjkgogaaWContent
import Derived.Test.YtlhnhhjpjkgogaaM2
namespace Go.Proofs.Ytlhnhhjpjkgogaa.wl
open Go.RowKit Go.Proofs.Ytlhnhhjpjkgogaa.agg Go.Proofs.Ytlhnhhjpjkgogaa.dk

/-- A disk that works and shows contents. -/
structure Fine (X : List (List Int)) (st : St) : Prop where
  ok : st.failed = false
  left : st.left = -1
  len : st.dur.length = X.length
  dl : ∀ s ∈ st.dur, s.length = 64
  pl : ∀ x ∈ st.pend, x.2.length = 64
  pin : ∀ x ∈ st.pend, 0 ≤ x.1 ∧ x.1 < st.dur.length
  vis : ∀ n : Nat, n < X.length → st.visible n = X.getD n []
theorem Fine.call {X : List (List Int)} {st : St} (h : Fine X st) : st.call = st := by
  unfold St.call
  rw [if_neg (by simp [h.ok]), if_neg (by rw [h.left]; omega), if_neg (by rw [h.left]; omega)]
theorem Fine.lens {X : List (List Int)} {st : St} (h : Fine X st) : ∀ s ∈ X, s.length = 64 := by
  intro s hs
  obtain ⟨n, hn, rfl⟩ := List.mem_iff_getElem.1 hs
  have hv := h.vis n hn
  rw [List.getD_eq_getElem?_getD, List.getElem?_eq_getElem hn] at hv
  rw [show X[n] = st.visible n from hv.symm]
  unfold St.visible
  split
  · rename_i y hy
    exact h.pl y (List.mem_reverse.1 (List.mem_of_find?_eq_some hy))
  · rw [List.getD_eq_getElem?_getD, Int.toNat_natCast, List.getElem?_eq_getElem (by rw [h.len]; exact hn)]
    exact h.dl _ (List.getElem_mem _)
theorem Fine.new (n : Nat) : Fine (List.replicate n zeros) (St.new n) := by
  refine ⟨rfl, rfl, by simp [St.new], fun s hs => ?_, (by intro x hx; cases hx), (by intro x hx; cases hx), fun k _ => rfl⟩
  rw [(List.mem_replicate.1 hs).2]
  exact length_zeros
theorem Fine.reads {X : List (List Int)} {st : St} (h : Fine X st) (k : Nat) : Fine X (reads st k) := ⟨h.ok, h.left, h.len, h.dl, h.pl, h.pin, h.vis⟩
theorem Fine.write {X : List (List Int)} {st : St} (h : Fine X st) (n : Nat) (hn : n < X.length) (d : List Int) (hd : d.length = 64) : (st.write n d).2 = 0 ∧ Fine (X.set n d) (st.write n d).1 := by
  have e : st.write n d = ({ st with pend := st.pend ++ [((n : Int), d)], wr := wrap64 (st.wr + 1) }, 0) := by
    unfold St.write
    rw [if_neg (by rw [h.len]; omega), h.call, if_neg (by simp [h.ok])]
  rw [e]
  refine ⟨rfl, h.ok, h.left, by rw [List.length_set]; exact h.len, h.dl, fun x hx => ?_, fun x hx => ?_, fun k hk => ?_⟩
  · rcases List.mem_append.1 hx with hx | hx
    · exact h.pl x hx
    · rw [List.mem_singleton.1 hx]; exact hd
  · rcases List.mem_append.1 hx with hx | hx
    · exact h.pin x hx
    · rw [List.mem_singleton.1 hx]
      have := h.len
      show (0 : Int) ≤ n ∧ (n : Int) < st.dur.length
      omega
  · rw [List.length_set] at hk
    have hv := h.vis k hk
    unfold St.visible at hv ⊢
    simp only
    rw [lastTo_snoc]
    by_cases e : (n : Int) = k
    · rw [if_pos e]
      have : n = k := by omega
      subst this
      show d = _
      rw [List.getD_eq_getElem?_getD, List.getElem?_set_self hn]
      rfl
    · rw [if_neg e, getD_set_other _ _ _ _ _ (fun h => e (by omega))]
      exact hv
theorem Fine.flush {X : List (List Int)} {st : St} (h : Fine X st) : st.flush.2 = 0 ∧ Fine X st.flush.1 ∧ st.flush.1.pend = [] := by
  have e : st.flush = ({ st with dur := layAll st.dur st.pend, pend := [], fl := wrap64 (st.fl + 1) }, 0) := by
    unfold St.flush
    rw [h.call, if_neg (by simp [h.ok])]
  rw [e]
  refine ⟨rfl, ⟨h.ok, h.left, by rw [← h.len]; exact length_layAll _ _, layAll_lens st.pend h.dl h.pl h.pin, (by intro x hx; cases hx), (by intro x hx; cases hx), fun n hn => ?_⟩, rfl⟩
  have h1 := visible_layAll st.dur st.pend h.dl h.pl h.pin n (by rw [h.len]; exact hn) st.pend.length (Nat.le_refl _)
  rw [List.take_length] at h1
  have h2 : st.visible (n : Nat) = (layAll st.dur st.pend).getD n [] := h1
  rw [h.vis n hn] at h2
  exact h2.symm
theorem Fine.writes {st0 : St} {a base : Int} (hb : base = 2 + a * sizeOf' st0) : ∀ (fs : List Fr) {X : List (List Int)} {st : St}, Fine X st → st.dur.length = st0.dur.length → (∀ f ∈ fs, f.data.size ≤ 50 ∧ 0 ≤ base + f.pos ∧ base + f.pos < X.length) →
    (writes st (placed st a fs)).2 = 0 ∧ Fine (laidF base X fs) (writes st (placed st a fs)).1
  | [], X, st, h, _, _ => ⟨rfl, h⟩
  | f :: fs, X, st, h, hl, hf => by
    have hf0 := hf f (by simp)
    have hpl : placeOf st a f.pos = (((base + f.pos).toNat : Nat) : Int) := by
      unfold placeOf sizeOf'
      rw [hl]
      rw [hb] at hf0 ⊢
      unfold sizeOf' at hf0 ⊢
      omega
    have hw := h.write (base + f.pos).toNat (by omega) f.sec (f.length_sec hf0.1)
    have e : placed st a (f :: fs) = (placeOf st a f.pos, f.sec) :: placed st a fs := rfl
    have hd : (st.write (placeOf st a f.pos) f.sec).1.dur = st.dur := write_dur _ _ _
    rw [e, writes_ok (by rw [hpl]; exact hw.1)]
    rw [← placed_dur hd a fs]
    have ih := Fine.writes hb fs (X := X.set (base + f.pos).toNat f.sec) (st := (st.write (placeOf st a f.pos) f.sec).1) (by rw [hpl]; exact hw.2) (by rw [hd]; exact hl) (fun g hg => by rw [List.length_set]; exact hf g (by simp [hg]))
    exact ih
theorem Fine.root {X : List (List Int)} {st : St} (h : Fine X st) (b : Nat) (hb : b < X.length) (e a : Int) : (rootSt st b e a).2 = 0 ∧ Fine (X.set b (rootFr e a).sec) (rootSt st b e a).1 ∧ (rootSt st b e a).1.pend = [] := by
  have hs : (rootFr e a).sec.length = 64 := Fr.length_sec _ (by unfold rootFr; simp only; rw [size_strOf]; simp)
  have hw := h.write b hb _ hs
  have hfl := hw.2.flush
  unfold rootSt
  rw [if_pos hw.1]
  exact hfl
end Go.Proofs.Ytlhnhhjpjkgogaa.wl
namespace Go.Proofs.Ytlhnhhjpjkgogaa.wl
open Go.RowKit Go.Proofs.Ytlhnhhjpjkgogaa.agg Go.Proofs.Ytlhnhhjpjkgogaa.dk

set_option maxHeartbeats 400000 in
theorem epochL {w : World} {L D g : Nat} {pv : Value} {st : St} {l : Lg} (h : LogIn w L D g pv st l) :
    Calls Try.prog 27 #[.pointer (some ⟨L, 0, none⟩)] w fun e w' => e = .returned (.int .i64 l.epoch) ∧ w = w' := by
  have c1 := h.cell.2.1
  go_enter Try.func27, Try.ntmps27
  go_wp2
  go_ret
  exact ⟨rfl, rfl⟩
set_option maxHeartbeats 400000 in
theorem areaL {w : World} {L D g : Nat} {pv : Value} {st : St} {l : Lg} (h : LogIn w L D g pv st l) :
    Calls Try.prog 26 #[.pointer (some ⟨L, 0, none⟩)] w fun e w' => e = .returned (.int .i64 l.area) ∧ w = w' := by
  have c1 := h.cell.2.2.2.1
  go_enter Try.func26, Try.ntmps26
  go_wp2
  go_ret
  exact ⟨rfl, rfl⟩
set_option maxHeartbeats 400000 in
theorem errL {w : World} {L D g : Nat} {pv : Value} {st : St} {l : Lg} (h : LogIn w L D g pv st l) :
    Calls Try.prog 29 #[.pointer (some ⟨L, 0, none⟩)] w fun e w' => e = .returned (.int .i64 l.failed) ∧ w = w' := by
  have c1 := h.cell.2.2.2.2.2
  go_enter Try.func29, Try.ntmps29
  go_wp2
  go_ret
  exact ⟨rfl, rfl⟩
theorem zeros_none : (parseFr zeros).2 = false := by decide +kernel
theorem zeros_isSec : IsSec zeros := isSec_ok (by decide +kernel)
theorem new_visible (n i : Nat) (hi : i < n) : (St.new n).visible (i : Nat) = zeros := by
  have := (Fine.new n).vis i (by simpa using hi)
  rw [this, List.getD_eq_getElem?_getD, List.getElem?_replicate, if_pos hi]
  rfl
theorem scan_new (n : Nat) : ∀ k, k ≤ n → scan (St.new n).visible k = Sc.zero
  | 0, _ => rfl
  | k + 1, hk => by
    rw [scan, scan_new n k (by omega), new_visible n k (by omega)]
    unfold Sc.step
    rw [if_neg (by simp [zeros_none])]
/-- The contents behind Create on a new disk. -/
def startX (n : Nat) : List (List Int) := (List.replicate n zeros).set 0 (rootFr 1 0).sec
def startSt (n : Nat) : St := (rootSt (reads (St.new n) n) 0 1 0).1
theorem start_fine (n : Nat) (h8 : 8 ≤ n) : (rootSt (reads (St.new n) n) 0 1 0).2 = 0 ∧ Fine (startX n) (startSt n) ∧ (startSt n).pend = [] :=
  ((Fine.new n).reads n).root 0 (by simp; omega) 1 0
theorem start_walk {w : World} {D g n : Nat} {pv : Value} (h8 : 8 ≤ n) (h : DiskIn w D g pv (St.new n)) : Calls Try.prog 15 #[.pointer (some ⟨D, 0, none⟩)] w (CreateEnd w D g pv (startSt n) ⟨1, 0, 0, 0, 0⟩) := by
  have hn : (St.new n).dur.length = n := by simp [St.new]
  have hs := scan_new n n (Nat.le_refl n)
  have := create_walk h (by rw [hn]; exact h8) rfl (fun i hi => by rw [hn] at hi; rw [new_visible n i hi]; exact zeros_isSec) (by simp [St.new]) (by rw [hn, hs]; decide) (by rw [hn, hs]; decide) (by rw [hn, hs]; exact (start_fine n h8).1)
  rw [hn, hs] at this
  exact this
end Go.Proofs.Ytlhnhhjpjkgogaa.wl
namespace Go.Proofs.Ytlhnhhjpjkgogaa.wl
open Go.RowKit Go.Proofs.Ytlhnhhjpjkgogaa.agg Go.Proofs.Ytlhnhhjpjkgogaa.dk

theorem size_fine {X : List (List Int)} {st : St} (h : Fine X st) (h2 : 2 ≤ X.length) : sizeOf' st = (((X.length - 2) / 2 : Nat) : Int) := by
  unfold sizeOf'
  rw [h.len, Int.tdiv_eq_ediv_of_nonneg (by omega)]
  omega
theorem frames_rng (r : ByteArray) (e p : Int) (f : Fr) (hf : f ∈ framesOf r e p) : f.data.size ≤ 50 ∧ p ≤ f.pos ∧ f.pos < p + nfr r := by
  simp only [framesOf, List.mem_map, List.mem_range] at hf
  obtain ⟨i, hi, rfl⟩ := hf
  refine ⟨size_chunk r i, ?_, ?_⟩ <;> simp only [frameAt] <;> omega
theorem recFrames_rng (e : Int) : ∀ (l : List ByteArray) (p : Int) (f : Fr), f ∈ recFrames l e p → f.data.size ≤ 50 ∧ p ≤ f.pos ∧ f.pos < p + needN l
  | [], _, f, hf => by simp [recFrames] at hf
  | r :: l, p, f, hf => by
    rw [recFrames] at hf
    have e1 : needN (r :: l) = nfr r + needN l := by simp [needN]
    rcases List.mem_append.1 hf with h | h
    · have := frames_rng r e p f h
      rw [e1]
      omega
    · have := recFrames_rng e l _ f h
      rw [e1]
      omega
section
variable {X : List (List Int)} {st : St} {a b e t s : Nat}
theorem append_fine (h : Fine X st) (h8 : 8 ≤ X.length) (hs : s = (X.length - 2) / 2) (ha : a = 0 ∨ a = 1) (r : ByteArray) (hr : r.size ≤ 65536) (hfit : t + nfr r ≤ s) :
    ∃ st', appendLg st ⟨e, b, a, t, 0⟩ r = (st', ⟨e, b, a, ((t + nfr r : Nat) : Int), 0⟩, 0) ∧ Fine (laidF ((2 + a * s : Nat) : Int) X (framesOf r e t)) st' ∧ st'.pend.length ≤ st.pend.length + nfr r := by
  have hsz := size_fine h (by omega)
  rw [← hs] at hsz
  have hb : ((2 + a * s : Nat) : Int) = 2 + (a : Int) * sizeOf' st := by rw [hsz]; simp
  have hw := Fine.writes hb (framesOf r e t) h rfl (fun f hf => by
    obtain ⟨h1, h2, h3⟩ := frames_rng r e t f hf
    refine ⟨h1, by omega, ?_⟩
    rcases ha with rfl | rfl <;> omega)
  have hp := writes_pend (placed st a (framesOf r e t)) st
  unfold placed at hp
  rw [List.length_map, length_framesOf] at hp
  refine ⟨_, ?_, hw.2, hp⟩
  unfold appendLg
  rw [if_neg (by simp), if_neg (by rw [hsz]; simp only; omega)]
  simp only
  rw [hw.1, if_pos rfl]
  simp
theorem append_full (h : Fine X st) (h8 : 8 ≤ X.length) (hs : s = (X.length - 2) / 2) (r : ByteArray) (hfit : ¬ t + nfr r ≤ s) :
    appendLg st ⟨e, b, a, t, 0⟩ r = (st, ⟨e, b, a, t, 0⟩, 8) := by
  have hsz := size_fine h (by omega)
  rw [← hs] at hsz
  unfold appendLg
  rw [if_neg (by simp), if_pos (.inr (by rw [hsz]; simp only; omega))]
theorem sync_fine (h : Fine X st) : syncLg st ⟨e, b, a, t, 0⟩ = (st.flush.1, ⟨e, b, a, t, 0⟩, 0) ∧ Fine X st.flush.1 ∧ st.flush.1.pend = [] := by
  have hf := h.flush
  refine ⟨?_, hf.2.1, hf.2.2⟩
  unfold syncLg
  rw [if_neg (by simp), hf.1, if_pos rfl]
/-- The contents behind a Checkpoint. -/
def checkX (X : List (List Int)) (s a b e : Nat) (recs : List ByteArray) : List (List Int) :=
  (laidF ((2 + (1 - a) * s : Nat) : Int) X (recFrames recs ((e + 1 : Nat) : Int) 0)).set (1 - b) (rootFr ((e + 1 : Nat) : Int) ((1 - a : Nat) : Int)).sec
theorem check_fine (h : Fine X st) (h8 : 8 ≤ X.length) (hs : s = (X.length - 2) / 2) (ha : a = 0 ∨ a = 1) (hb : b = 0 ∨ b = 1) (he : e < 4294967295) (recs : List ByteArray) (hfit : needN recs ≤ s) :
    ∃ st', checkLg st ⟨e, b, a, t, 0⟩ recs = (st', ⟨((e + 1 : Nat) : Int), ((1 - b : Nat) : Int), ((1 - a : Nat) : Int), ((needN recs : Nat) : Int), 0⟩, 0) ∧ Fine (checkX X s a b e recs) st' ∧ st'.pend = [] := by
  have hsz := size_fine h (by omega)
  rw [← hs] at hsz
  have ea : (1 : Int) - (a : Int) = ((1 - a : Nat) : Int) := by omega
  have eb : (1 : Int) - (b : Int) = ((1 - b : Nat) : Int) := by omega
  have ee : (e : Int) + 1 = ((e + 1 : Nat) : Int) := by omega
  have hbase : ((2 + (1 - a) * s : Nat) : Int) = 2 + ((1 - a : Nat) : Int) * sizeOf' st := by rw [hsz]; simp
  have hw := Fine.writes hbase (recFrames recs ((e + 1 : Nat) : Int) 0) h rfl (fun f hf => by
    obtain ⟨h1, h2, h3⟩ := recFrames_rng _ recs 0 f hf
    refine ⟨h1, by omega, ?_⟩
    rcases ha with rfl | rfl <;> omega)
  have hfl := hw.2.flush
  have hr := hfl.2.1.root (1 - b) (by rw [laidF_len]; omega) ((e + 1 : Nat) : Int) ((1 - a : Nat) : Int)
  refine ⟨_, ?_, hr.2.1, hr.2.2⟩
  unfold checkLg
  rw [if_neg (by simp), if_neg (by rw [hsz]; simp only; omega)]
  simp only
  rw [ea, ee]
  unfold recWrites checkEnd
  rw [if_neg (by rw [hw.1]; simp), if_neg (by rw [hfl.1]; simp)]
  simp only
  rw [ea, eb, ee, if_neg (by rw [hr.1]; simp)]
theorem check_full (h : Fine X st) (h8 : 8 ≤ X.length) (hs : s = (X.length - 2) / 2) (recs : List ByteArray) (hfit : ¬ needN recs ≤ s) :
    checkLg st ⟨e, b, a, t, 0⟩ recs = (st, ⟨e, b, a, t, 0⟩, 8) := by
  have hsz := size_fine h (by omega)
  rw [← hs] at hsz
  unfold checkLg
  rw [if_neg (by simp), if_pos (.inl (by rw [hsz]; omega))]
end
theorem visL_fine {X : List (List Int)} {st : St} (h : Fine X st) : visL st = X := by
  apply List.ext_getElem
  · rw [visL_len, h.len]
  · intro i h1 h2
    rw [visL_get, h.vis i h2, List.getD_eq_getElem?_getD, List.getElem?_eq_getElem h2]
    rfl
end Go.Proofs.Ytlhnhhjpjkgogaa.wl
namespace Go.Proofs.Ytlhnhhjpjkgogaa.wl
open Go.RowKit Go.Proofs.Ytlhnhhjpjkgogaa.agg Go.Proofs.Ytlhnhhjpjkgogaa.dk
set_option linter.unusedSimpArgs false
set_option linter.unusedVariables false

/-- The position that the frames of a sector bear. -/
def posOf (S i : Nat) : Int := if i < 2 then 0 else if i < 2 + S then ((i - 2 : Nat) : Int) else if i < 2 + 2 * S then ((i - 2 - S : Nat) : Int) else 0
theorem posOf_area {S a i : Nat} (ha : a = 0 ∨ a = 1) (hi : i < S) : posOf S (2 + a * S + i) = i := by
  unfold posOf
  rcases ha with rfl | rfl
  · rw [if_neg (by omega), if_pos (by omega)]
    omega
  · rw [if_neg (by omega), if_neg (by omega), if_pos (by omega)]
    omega
theorem posOf_root {S b : Nat} (hb : b = 0 ∨ b = 1) : posOf S b = 0 := by
  unfold posOf
  rw [if_pos (by omega)]
def frs (X : List (List Int)) (i : Nat) : Option Fr := frOf (X.getD i [])
theorem frameAt_good {r : ByteArray} {E : Int} {p i : Nat} (hE : 1 ≤ E ∧ E < 256) (hp : p + i < 65536) : (frameAt r E p i).Good := by
  refine ⟨⟨hE.1, by show E < _; omega⟩, ⟨by unfold frameAt; simp only; omega, by unfold frameAt; simp only; omega⟩, ?_, size_chunk r i⟩
  show 1 ≤ kindOf (nfr r) i ∧ kindOf (nfr r) i ≤ 4
  unfold kindOf
  split
  · omega
  · split
    · omega
    · split <;> omega
/-- One sector behind frames that were laid. -/
theorem laid_take (base : Nat) (r : ByteArray) (E : Int) (p : Nat) (X : List (List Int)) (k : Nat) : ∀ j, j ≤ nfr r → base + p + j ≤ X.length → (laidF (base : Int) X ((framesOf r E p).take j)).getD k [] = if base + p ≤ k ∧ k < base + p + j then (frameAt r E p (k - base - p)).sec else X.getD k []
  | 0, _, _ => by
    rw [if_neg (by omega)]
    rfl
  | j + 1, hj, hl => by
    have ih := laid_take base r E p X k j (by omega) (by omega)
    rw [take_frames r E p j (by omega), laidF_append]
    have hlen : (laidF (base : Int) X ((framesOf r E p).take j)).length = X.length := laidF_len _ _ _
    have hpos : ((base : Int) + (frameAt r E p j).pos).toNat = base + p + j := by unfold frameAt; simp only; omega
    show ((laidF (base : Int) X ((framesOf r E p).take j)).set ((base : Int) + (frameAt r E p j).pos).toNat (frameAt r E p j).sec).getD k [] = _
    rw [hpos]
    by_cases hk : k = base + p + j
    · subst hk
      rw [if_pos (by omega), List.getD_eq_getElem?_getD, List.getElem?_set_self (by omega)]
      rw [show base + p + j - base - p = j by omega]
      rfl
    · rw [getD_set_other _ _ _ _ _ (fun e => hk e.symm), ih]
      by_cases h2 : base + p ≤ k ∧ k < base + p + j
      · rw [if_pos h2, if_pos (by omega)]
      · rw [if_neg h2, if_neg (by omega)]
theorem laid_one (base : Nat) (r : ByteArray) (E : Int) (p : Nat) (X : List (List Int)) (k : Nat) (hl : base + p + nfr r ≤ X.length) : (laidF (base : Int) X (framesOf r E p)).getD k [] = if base + p ≤ k ∧ k < base + p + nfr r then (frameAt r E p (k - base - p)).sec else X.getD k [] := by
  have := laid_take base r E p X k (nfr r) (Nat.le_refl _) hl
  rw [List.take_of_length_le (by rw [length_framesOf]; exact Nat.le_refl _)] at this
  exact this
theorem laid_rec (base : Nat) (E : Int) (k : Nat) : ∀ (M : List ByteArray) (p : Nat) (X : List (List Int)), base + p + needN M ≤ X.length →
    (laidF (base : Int) X (recFrames M E p)).getD k [] = if base + p ≤ k ∧ k < base + p + needN M then ((newAt M E p (k - base)).getD Fr.none).sec else X.getD k []
  | [], p, X, _ => by
    rw [if_neg (by simp [needN])]
    rfl
  | r :: M, p, X, hl => by
    have en : needN (r :: M) = nfr r + needN M := by simp [needN]
    rw [en] at hl ⊢
    rw [recFrames, laidF_append, show (p : Int) + (nfr r : Int) = ((p + nfr r : Nat) : Int) by omega, laid_rec base E k M (p + nfr r) _ (by rw [laidF_len]; omega), laid_one base r E p X k (by omega)]
    by_cases h1 : base + p ≤ k ∧ k < base + p + nfr r
    · rw [if_neg (by omega), if_pos h1, if_pos (by omega), newAt, if_pos (by omega), show k - base - p = k - base - p from rfl]
      rfl
    · rw [if_neg h1]
      by_cases h2 : base + (p + nfr r) ≤ k ∧ k < base + (p + nfr r) + needN M
      · rw [if_pos h2, if_pos (by omega), newAt, if_neg (by omega)]
      · rw [if_neg h2, if_neg (by omega)]
theorem newAt_some : ∀ (M : List ByteArray) (E : Int) (p i : Nat), p ≤ i → i < p + needN M → ∃ (r : ByteArray) (q j : Nat), newAt M E p i = some (frameAt r E (q : Int) j) ∧ q + j = i
  | [], E, p, i, h1, h2 => by simp [needN] at h2; omega
  | r :: M, E, p, i, h1, h2 => by
    have en : needN (r :: M) = nfr r + needN M := by simp [needN]
    rw [newAt]
    by_cases h : i < p + nfr r
    · rw [if_pos h]
      exact ⟨r, p, i - p, rfl, by omega⟩
    · rw [if_neg h]
      exact newAt_some M E (p + nfr r) i (by omega) (by omega)
theorem holds_new {A : Nat → Option Fr} {E : Int} : ∀ (M : List ByteArray) (p : Nat), (∀ i, p ≤ i → i < p + needN M → A i = newAt M E p i) → Holds A (M.map (fun r => (r, E))) p
  | [], _, _ => trivial
  | r :: M, p, h => by
    have en : needN (r :: M) = nfr r + needN M := by simp [needN]
    refine ⟨fun i hi => ?_, holds_new M (p + nfr r) (fun i h1 h2 => ?_)⟩
    · have hi' : i < nfr r := hi
      rw [h (p + i) (by omega) (by omega), newAt, if_pos (by omega), show p + i - p = i by omega]
    · rw [h i (by omega) (by omega), newAt, if_neg (by omega)]
theorem holds_congr {A B : Nat → Option Fr} : ∀ (T : List (ByteArray × Int)) (p : Nat), (∀ i, p ≤ i → i < p + needN (T.map (·.1)) → A i = B i) → Holds A T p → Holds B T p
  | [], _, _, _ => trivial
  | x :: T, p, h, hA => by
    have en : needN ((x :: T).map (·.1)) = nfr x.1 + needN (T.map (·.1)) := by simp [needN]
    refine ⟨fun i hi => ?_, holds_congr T (p + nfr x.1) (fun i h1 h2 => h i (by omega) (by omega)) hA.2⟩
    rw [← h (p + i) (by omega) (by omega)]
    exact hA.1 i hi
theorem holds_append {A : Nat → Option Fr} : ∀ (T U : List (ByteArray × Int)) (p : Nat), Holds A T p → Holds A U (p + needN (T.map (·.1))) → Holds A (T ++ U) p
  | [], U, p, _, h => by simpa [needN] using h
  | x :: T, U, p, hA, h => by
    have en : needN ((x :: T).map (·.1)) = nfr x.1 + needN (T.map (·.1)) := by simp [needN]
    rw [en, ← Nat.add_assoc] at h
    exact ⟨hA.1, holds_append T U (p + nfr x.1) hA.2 h⟩
theorem map_fst (M : List ByteArray) (E : Int) : (M.map (fun r => (r, E))).map (·.1) = M := by
  induction M with
  | nil => rfl
  | cons r M ih => simp only [List.map_cons, ih]
theorem tags_same (M : List ByteArray) (E : Int) : tagsOk E (M.map (fun r => (r, E))) E := by
  induction M with
  | nil => exact Int.le_refl _
  | cons r M ih => exact ⟨Int.le_refl _, ih⟩
theorem lastTag_same (M : List ByteArray) (E : Int) : lastTag E (M.map (fun r => (r, E))) = E := by
  induction M with
  | nil => rfl
  | cons r M ih => exact ih

/-- What a disk shows in a session of the epoch E. -/
structure Sess (n S a b : Nat) (E : Int) (R : List ByteArray) (X : List (List Int)) : Prop where
  len : X.length = n
  n8 : 8 ≤ n ∧ n ≤ 1000
  hS : S = (n - 2) / 2
  ha : a = 0 ∨ a = 1
  hb : b = 0 ∨ b = 1
  e1 : 1 ≤ E ∧ E < 256
  okay : ∀ i, i < n → Okay (posOf S i) (X.getD i [])
  top : ∀ i, i < n → (X.getD i []).getD 3 0 ≤ E
  sup : frs X b = some (rootFr E a)
  other : (X.getD (1 - b) []).getD 3 0 < E
  held : Holds (areaOf (frs X) S a) (R.map (fun r => (r, E))) 0
  stale : ∀ i, needN R ≤ i → i < S → (X.getD (2 + a * S + i) []).getD 3 0 < E
  room : needN R ≤ S
/-- What a checkpoint needs of a disk's contents. -/
structure Base (n S a b : Nat) (E : Int) (X : List (List Int)) : Prop where
  len : X.length = n
  n8 : 8 ≤ n ∧ n ≤ 1000
  hS : S = (n - 2) / 2
  ha : a = 0 ∨ a = 1
  hb : b = 0 ∨ b = 1
  e1 : 1 ≤ E ∧ E < 256
  okay : ∀ i, i < n → Okay (posOf S i) (X.getD i [])
  top : ∀ i, i < n → (X.getD i []).getD 3 0 ≤ E
theorem Sess.base {n S a b : Nat} {E : Int} {R : List ByteArray} {X : List (List Int)} (h : Sess n S a b E R X) : Base n S a b E X := ⟨h.len, h.n8, h.hS, h.ha, h.hb, h.e1, h.okay, h.top⟩
theorem frs_epoch {n S : Nat} {X : List (List Int)} (h : ∀ i, i < n → Okay (posOf S i) (X.getD i [])) {i : Nat} (hi : i < n) {f : Fr} (hf : frs X i = some f) : f.epoch = (X.getD i []).getD 3 0 := parse_epoch3 (h i hi) (frOf_some hf)
theorem area_in {n S a i : Nat} (hS : S = (n - 2) / 2) (h8 : 8 ≤ n) (ha : a = 0 ∨ a = 1) (hi : i < S) : 2 + a * S + i < n := by
  rcases ha with rfl | rfl <;> omega
/-- A record is appended. -/
theorem Sess.append {n S a b : Nat} {E : Int} {R : List ByteArray} {X : List (List Int)} (h : Sess n S a b E R X) (r : ByteArray) (hfit : needN R + nfr r ≤ S) : Sess n S a b E (R ++ [r]) (laidF ((2 + a * S : Nat) : Int) X (framesOf r E (needN R))) := by
  have h8 := h.n8
  have hS := h.hS
  have hbase : 2 + a * S + needN R + nfr r ≤ X.length := by
    rw [h.len]
    rcases h.ha with e | e <;> rw [e] <;> omega
  have hg := fun k => laid_one (2 + a * S) r E (needN R) X k hbase
  have hgood : ∀ j, j < nfr r → (frameAt r E (needN R) j).Good := fun j hj => frameAt_good h.e1 (by omega)
  have hlow : ∀ k, k < 2 → (laidF ((2 + a * S : Nat) : Int) X (framesOf r E (needN R))).getD k [] = X.getD k [] := fun k hk => by rw [hg, if_neg (by omega)]
  have en : needN (R ++ [r]) = needN R + nfr r := needN_snoc R r
  refine ⟨by rw [laidF_len]; exact h.len, h8, hS, h.ha, h.hb, h.e1, fun i hi => ?_, fun i hi => ?_, ?_, ?_, ?_, fun i h1 h2 => ?_, by rw [en]; exact hfit⟩
  · rw [hg]
    split
    · rename_i hk
      have hj : i - (2 + a * S) - needN R < nfr r := by omega
      have h1 := okay_frame (hgood _ hj) h.e1.2
      have h2 : (frameAt r E (needN R) (i - (2 + a * S) - needN R)).pos = posOf S i := by
        have := posOf_area (S := S) (i := i - (2 + a * S)) h.ha (by omega)
        rw [show 2 + a * S + (i - (2 + a * S)) = i by omega] at this
        rw [this]
        unfold frameAt
        simp only
        omega
      rw [h2] at h1
      exact h1
    · exact h.okay i hi
  · rw [hg]
    split
    · have hj : i - (2 + a * S) - needN R < nfr r := by omega
      rw [(sec_epoch (hgood _ hj) h.e1.2).2.2.2.1]
      exact Int.le_refl _
    · exact h.top i hi
  · unfold frs
    rw [hlow b (by rcases h.hb with e | e <;> omega)]
    exact h.sup
  · rw [hlow (1 - b) (by omega)]
    exact h.other
  · rw [List.map_append]
    refine holds_append _ _ 0 (holds_congr _ 0 (fun i _ hi => ?_) h.held) ?_
    · rw [map_fst] at hi
      unfold areaOf
      split
      · unfold frs
        rw [hg, if_neg (by omega)]
      · rfl
    · rw [map_fst, Nat.zero_add]
      refine ⟨fun i hi => ?_, trivial⟩
      have hi' : i < nfr r := hi
      unfold areaOf
      rw [if_pos (by omega)]
      unfold frs
      rw [hg, if_pos (by omega), show 2 + a * S + (needN R + i) - (2 + a * S) - needN R = i by omega]
      exact frOf_sec (hgood i hi')
  · rw [en] at h1
    rw [hg, if_neg (by omega)]
    exact h.stale i (by omega) h2
/-- A Checkpoint, but for its superblock. -/
theorem Base.half {n S a b : Nat} {E : Int} {X : List (List Int)} (h : Base n S a b E X) (M : List ByteArray) (hfit : needN M ≤ S) (hE : E + 1 < 256) (i : Nat) (hi : i < n) :
    Okay (posOf S i) ((laidF ((2 + (1 - a) * S : Nat) : Int) X (recFrames M (E + 1) ((0 : Nat) : Int))).getD i []) ∧ ((laidF ((2 + (1 - a) * S : Nat) : Int) X (recFrames M (E + 1) ((0 : Nat) : Int))).getD i []).getD 3 0 ≤ E + 1 ∧
    (¬ (2 + (1 - a) * S ≤ i ∧ i < 2 + (1 - a) * S + needN M) → (laidF ((2 + (1 - a) * S : Nat) : Int) X (recFrames M (E + 1) ((0 : Nat) : Int))).getD i [] = X.getD i []) ∧
    (∀ j, i = 2 + (1 - a) * S + j → j < needN M → frs (laidF ((2 + (1 - a) * S : Nat) : Int) X (recFrames M (E + 1) ((0 : Nat) : Int))) i = newAt M (E + 1) 0 j) := by
  have h8 := h.n8
  have hS := h.hS
  have ha' : 1 - a = 0 ∨ 1 - a = 1 := by rcases h.ha with e | e <;> omega
  have hbase : 2 + (1 - a) * S + 0 + needN M ≤ X.length := by
    rw [h.len]
    rcases ha' with e | e <;> rw [e] <;> omega
  have hg := laid_rec (2 + (1 - a) * S) (E + 1) i M 0 X hbase
  by_cases hk : 2 + (1 - a) * S + 0 ≤ i ∧ i < 2 + (1 - a) * S + 0 + needN M
  · rw [if_pos hk] at hg
    obtain ⟨r, q, j, e1, e2⟩ := newAt_some M (E + 1) 0 (i - (2 + (1 - a) * S)) (by omega) (by omega)
    rw [e1, Option.getD_some] at hg
    have hqj : q + j ≤ i := by rw [e2]; exact Nat.sub_le _ _
    have hgood : (frameAt r (E + 1) q j).Good := frameAt_good ⟨by have := h.e1; omega, hE⟩ (by omega)
    have hpos : (frameAt r (E + 1) q j).pos = posOf S i := by
      have := posOf_area (S := S) (i := i - (2 + (1 - a) * S)) ha' (by omega)
      rw [show 2 + (1 - a) * S + (i - (2 + (1 - a) * S)) = i by omega] at this
      rw [this]
      unfold frameAt
      simp only
      omega
    have hok := okay_frame hgood hE
    rw [hpos] at hok
    refine ⟨by rw [hg]; exact hok, ?_, fun hn => absurd hk (by omega), fun j' e3 e4 => ?_⟩
    · rw [hg, (sec_epoch hgood hE).2.2.2.1]
      exact Int.le_refl _
    · unfold frs
      rw [hg, frOf_sec hgood, ← e1]
      congr 1
      omega
  · rw [if_neg hk] at hg
    refine ⟨by rw [hg]; exact h.okay i hi, ?_, fun _ => hg, fun j e3 e4 => absurd hk (by omega)⟩
    rw [hg]
    have := h.top i hi
    omega
theorem root_good (E : Int) (a : Nat) (hE : 1 ≤ E ∧ E < 256) : (rootFr E a).Good := ⟨⟨hE.1, by show E < _; omega⟩, ⟨by show (0 : Int) ≤ 0; omega, by show (0 : Int) < _; omega⟩, ⟨by show (1 : Int) ≤ 3; omega, by show (3 : Int) ≤ 4; omega⟩, by
  unfold rootFr; simp only; rw [size_strOf]; simp⟩
/-- A Checkpoint. -/
theorem Base.check {n S a b : Nat} {E : Int} {X : List (List Int)} (h : Base n S a b E X) (M : List ByteArray) (hfit : needN M ≤ S) (hE : E + 1 < 256) :
    Sess n S (1 - a) (1 - b) (E + 1) M ((laidF ((2 + (1 - a) * S : Nat) : Int) X (recFrames M (E + 1) ((0 : Nat) : Int))).set (1 - b) (rootFr (E + 1) ((1 - a : Nat) : Int)).sec) := by
  have h8 := h.n8
  have hS := h.hS
  have hh := h.half M hfit hE
  have ha' : 1 - a = 0 ∨ 1 - a = 1 := by rcases h.ha with e | e <;> omega
  have hb' : 1 - b = 0 ∨ 1 - b = 1 := by rcases h.hb with e | e <;> omega
  have hrg := root_good (E + 1) (1 - a) ⟨by have := h.e1; omega, hE⟩
  generalize hY : laidF ((2 + (1 - a) * S : Nat) : Int) X (recFrames M (E + 1) ((0 : Nat) : Int)) = Y at *
  have hYl : Y.length = n := by rw [← hY, laidF_len]; exact h.len
  have hset : ∀ i, i ≠ 1 - b → (Y.set (1 - b) (rootFr (E + 1) ((1 - a : Nat) : Int)).sec).getD i [] = Y.getD i [] := fun i hi => getD_set_other _ _ _ _ _ (fun e => hi e.symm)
  have hself : (Y.set (1 - b) (rootFr (E + 1) ((1 - a : Nat) : Int)).sec).getD (1 - b) [] = (rootFr (E + 1) ((1 - a : Nat) : Int)).sec := by
    rw [List.getD_eq_getElem?_getD, List.getElem?_set_self (by omega)]
    rfl
  have hro : (rootFr (E + 1) ((1 - a : Nat) : Int)).pos = posOf S (1 - b) := by rw [posOf_root hb']; rfl
  refine ⟨by rw [List.length_set]; exact hYl, h8, hS, ha', hb', ⟨by have := h.e1; omega, hE⟩, fun i hi => ?_, fun i hi => ?_, ?_, ?_, ?_, fun i h1 h2 => ?_, hfit⟩
  · by_cases e : i = 1 - b
    · rw [e, hself, ← hro]
      exact okay_frame hrg hE
    · rw [hset i e]
      exact (hh i hi).1
  · by_cases e : i = 1 - b
    · rw [e, hself, (sec_epoch hrg hE).2.2.2.1]
      exact Int.le_refl _
    · rw [hset i e]
      exact (hh i hi).2.1
  · unfold frs
    rw [hself, frOf_sec hrg]
  · rw [show 1 - (1 - b) = b by rcases h.hb with e | e <;> omega, hset b (by rcases h.hb with e | e <;> omega), (hh b (by rcases h.hb with e | e <;> omega)).2.2.1 (by rcases h.hb with e | e <;> omega)]
    have := h.top b (by rcases h.hb with e | e <;> omega)
    omega
  · refine holds_new M 0 (fun i _ hi => ?_)
    unfold areaOf
    rw [if_pos (by omega)]
    have := (hh (2 + (1 - a) * S + i) (area_in hS h8.1 ha' (by omega))).2.2.2 i rfl (by omega)
    rw [← this]
    unfold frs
    rw [hset _ (by omega)]
  · rw [hset _ (by omega), (hh _ (area_in hS h8.1 ha' h2)).2.2.1 (by omega)]
    have := h.top _ (area_in hS h8.1 ha' h2)
    omega
theorem Sess.check {n S a b : Nat} {E : Int} {R : List ByteArray} {X : List (List Int)} (h : Sess n S a b E R X) (M : List ByteArray) (hfit : needN M ≤ S) (hE : E + 1 < 256) :
    Sess n S (1 - a) (1 - b) (E + 1) M ((laidF ((2 + (1 - a) * S : Nat) : Int) X (recFrames M (E + 1) ((0 : Nat) : Int))).set (1 - b) (rootFr (E + 1) ((1 - a : Nat) : Int)).sec) := h.base.check M hfit hE
end Go.Proofs.Ytlhnhhjpjkgogaa.wl
namespace Go.Proofs.Ytlhnhhjpjkgogaa.wl
open Go.RowKit Go.Proofs.Ytlhnhhjpjkgogaa.agg Go.Proofs.Ytlhnhhjpjkgogaa.dk
set_option linter.unusedSimpArgs false
set_option linter.unusedVariables false

/-- A World's cells: disk, log, certain, more, new, flight. -/
def wcellsL (D L : Nat) (cv mv nv : Value) (fl : Bool) : Array Value := #[.pointer (some ⟨D, 0, none⟩), .pointer (some ⟨L, 0, none⟩), cv, mv, nv, .bool fl]
def BeginEnd (w : World) (n : Nat) (e : Ending) (w' : World) : Prop :=
  ∃ Q L D g pv, e = .returned (.pointer (some ⟨Q, 0, none⟩)) ∧ LogIn w' L D g pv (startSt n) ⟨1, 0, 0, 0, 0⟩ ∧ w'.heap[Q]? = some (.cells (wcellsL D L (.slice none 0 0) (.slice none 0 0) (.slice none 0 0) false) 66 (0, 0)) ∧
    (∀ b, lfoot L D g pv b → w.heap.size ≤ b) ∧ ¬ lfoot L D g pv Q ∧ w.heap.size ≤ Q ∧ Below w.heap.size w w'
set_option maxRecDepth 100000 in
set_option maxHeartbeats 2000000 in
theorem begin48_walk (w : World) (n : Nat) (h8 : 8 ≤ n) (h40 : n ≤ 40) : Calls Try.prog 30 #[.int .i64 n] w (BeginEnd w n) := by
  go_enter Try.func30, Try.ntmps30
  go_upto_region 7 with (first
    | (go_at_call 14; refine (new_any n (by omega) (by omega) _).mono ?_; rintro e w2 ⟨D, g, rfl, hd2, hb2, hD, hg⟩)
    | (go_at_call 15; refine (start_walk h8 hd2).mono ?_; rintro e w3 ⟨L, pv3, rfl, hl3, hk3, hf3, hL3⟩))
  have h0 : ∀ k, foot D g (.slice none 0 0) k → w.heap.size ≤ k := by
    rintro k (rfl | rfl | hk)
    · exact hD
    · exact hg
    · simp [Value.ownBlock] at hk
  have hlv3 : ∀ b, lfoot L D g pv3 b → w.heap.size ≤ b := by
    rintro b (rfl | hb)
    · exact Nat.le_trans hb2.size hL3
    · rcases hb with e | e | e
      · exact h0 b (.inl e)
      · exact h0 b (.inr (.inl e))
      · rcases hf3 b e with e' | e'
        · exact h0 b (.inr (.inr e'))
        · exact Nat.le_trans hb2.size e'
  have hb3 : Below w.heap.size w w3 := hb2.trans (hk3.below w.heap.size hb2.size h0)
  have hl3' := Lib.hid hl3
  have hlv3' := Lib.hid hlv3
  have hb3' := Lib.hid hb3
  clear hd2 hb2 hD hg hl3 hk3 hf3 hL3 hlv3 hb3 h0
  go_wp2_with fail
  go_ret
  have hbz : Below w3.heap.size w3 (w3.alloc (.cells (wcellsL D L (.slice none 0 0) (.slice none 0 0) (.slice none 0 0) false) 66)) := (Below.refl _ _).alloc (Nat.le_refl _) _
  exact ⟨w3.heap.size, L, D, g, pv3, rfl, hl3'.out.below hbz, heap_alloc_new _ _, hlv3'.out, fun e => by have := hl3'.out.lt _ e; omega, hb3'.out.size, hb3'.out.trans (hbz.mono hb3'.out.size)⟩
set_option maxRecDepth 100000 in
set_option maxHeartbeats 2000000 in
theorem begin48_few (w : World) (n : Int) (h8 : n < 8) : Calls Try.prog 30 #[.int .i64 n] w fun e w' => e = .returned (.pointer none) ∧ Below w.heap.size w w' := by
  by_cases h1 : n < 1
  · go_enter Try.func30, Try.ntmps30
    go_wp2_with (go_at_call 14; refine (new_no n (.inl h1) _).mono ?_; rintro e w2 ⟨rfl, rfl⟩)
    go_ret
    exact ⟨rfl, Below.refl _ _⟩
  · obtain ⟨m, rfl⟩ : ∃ m : Nat, n = m := ⟨n.toNat, by omega⟩
    have hm : (St.new m).dur.length < 8 := by simp [St.new]; omega
    have hm' := Lib.hid hm
    clear hm
    go_enter Try.func30, Try.ntmps30
    go_wp2_with (first
      | (go_at_call 14; refine (new_any m (by omega) (by omega) _).mono ?_; rintro e w2 ⟨D, g, rfl, hd2, hb2, hD, hg⟩)
      | (go_at_call 15; refine (create_few hd2 hm'.out).mono ?_; rintro e w3 ⟨rfl, hb3⟩))
    go_ret
    exact ⟨rfl, hb2.trans (hb3.mono hb2.size)⟩
end Go.Proofs.Ytlhnhhjpjkgogaa.wl
namespace Go.Proofs.Ytlhnhhjpjkgogaa.wl
open Go.RowKit Go.Proofs.Ytlhnhhjpjkgogaa.agg Go.Proofs.Ytlhnhhjpjkgogaa.dk
set_option linter.unusedSimpArgs false
set_option linter.unusedVariables false

theorem open_at {w : World} {D g : Nat} {pv : Value} {st : St} {C : List (List Int)} {n S a b : Nat} {eb B : Int} (h : DiskIn w D g pv st) (hd : st.dur = C) (hp : st.pend = []) (hf : st.failed = false) (hlen : C.length = n) (h8 : 8 ≤ n) (hS : S = (n - 2) / 2) (ha : a = 0 ∨ a = 1) (hb : b = 0 ∨ b = 1)
    (hsec : ∀ i, i < n → IsSec (C.getD i [])) (hsup : frs C b = some (rootFr eb a)) (ho : ∀ f, frs C (1 - b) = some f → f.epoch < eb) (hB : 0 ≤ B ∧ B < 4294967295) (htop : ∀ i, i < n → ∀ f, frs C i = some f → f.epoch ≤ B) :
    ∃ gr : Int, 0 ≤ gr ∧ gr ≤ B ∧ (∀ i, i < n → ∀ f, frs C i = some f → f.epoch ≤ gr) ∧
    Calls Try.prog 12 #[.pointer (some ⟨D, 0, none⟩)] w (OpenEnd w D g pv (reads st n) ⟨gr + 1, b, a, (runA (areaOf (frs C) S a) S 0 ⟨[], eb, ⟨#[]⟩, false, 0⟩).fin, 0⟩ (runA (areaOf (frs C) S a) S 0 ⟨[], eb, ⟨#[]⟩, false, 0⟩).recs) := by
  have hn : st.dur.length = n := by rw [hd]; exact hlen
  have hv : ∀ i : Nat, st.visible i = C.getD i [] := by
    intro i
    unfold St.visible
    rw [hp, hd]
    rfl
  have hv1 : ∀ i : Nat, frOf (st.visible i) = frs C i := fun i => by rw [hv]; rfl
  have hsc := scan_super st.visible b a eb ha hb (by rw [hv1]; exact hsup) (fun f hf' => ho f (by rw [← hv1]; exact hf')) n (by omega)
  have hle := scan_le st.visible B hB.1 n (fun j hj f hf' => htop j hj f (by rw [← hv1]; exact hf'))
  have hge : ∀ i, i < n → ∀ f, frs C i = some f → f.epoch ≤ (scan st.visible n).greatest := fun i hi f hf' => scan_ge st.visible n i hi f (by rw [hv1]; exact hf')
  have hfr := fun j => scan_frs st.visible n j
  have hsz : sizeOf' st = (S : Int) := by
    unfold sizeOf'
    rw [hn, Int.tdiv_eq_ediv_of_nonneg (by omega), hS]
    omega
  have hbl : ((getFr (scan st.visible n).m (scan st.visible n).block).getD Fr.none).epoch = eb := by
    rw [hsc.1, hfr b, if_pos (by omega), hv1, hsup]
    rfl
  have hrun : openRun (scan st.visible n).m (fun i => placeOf st (scan st.visible n).area i) (sizeOf' st).toNat 0 ⟨[], ((getFr (scan st.visible n).m (scan st.visible n).block).getD Fr.none).epoch, ⟨#[]⟩, false, 0⟩ = runA (areaOf (frs C) S a) S 0 ⟨[], eb, ⟨#[]⟩, false, 0⟩ := by
    rw [openRun_runA, hbl, hsz, Int.toNat_natCast]
    refine runA_congr S 0 _ (fun k _ hk => ?_)
    have hk' : k < S := by omega
    have hpl : placeOf st (scan st.visible n).area k = ((2 + a * S + k : Nat) : Int) := by
      unfold placeOf
      rw [hsc.2, hsz]
      simp
    have hin := area_in hS h8 ha hk'
    show getFr (scan st.visible n).m (placeOf st (scan st.visible n).area k) = _
    rw [hpl, hfr (2 + a * S + k), if_pos hin, hv1]
    unfold areaOf
    rw [if_pos hk']
  refine ⟨(scan st.visible n).greatest, hle.1, hle.2, hge, ?_⟩
  have := open_walk h (by omega) hf (fun i hi => by rw [hv]; exact hsec i (by omega)) (by rw [hp]; simp) (by have := hsc.1; rw [hn]; omega) (by rw [hn]; omega) (by have := hsc.2; rw [hn]; omega) (runA (areaOf (frs C) S a) S 0 ⟨[], eb, ⟨#[]⟩, false, 0⟩) (by rw [hn]; exact hrun)
  rw [hn, hsc.1, hsc.2] at this
  exact this
theorem recFrames_up (e : Int) : ∀ (l : List ByteArray) (p : Int), (recFrames l e p).Pairwise (fun f g => f.pos < g.pos)
  | [], _ => List.Pairwise.nil
  | r :: l, p => by
    rw [recFrames, List.pairwise_append]
    refine ⟨?_, recFrames_up e l _, fun f hf g hg => ?_⟩
    · unfold framesOf
      rw [List.pairwise_map]
      refine List.pairwise_lt_range.imp (fun {i j} hij => ?_)
      unfold frameAt
      simp only
      omega
    · have h1 := frames_rng r e p f hf
      have h2 := recFrames_rng e l _ g hg
      omega
theorem recFrames_new (E : Int) : ∀ (M : List ByteArray) (p : Nat) (f : Fr), f ∈ recFrames M E p → ∃ i : Nat, p ≤ i ∧ i < p + needN M ∧ newAt M E p i = some f ∧ f.pos = i
  | [], _, f, h => by simp [recFrames] at h
  | r :: M, p, f, h => by
    have en : needN (r :: M) = nfr r + needN M := by simp [needN]
    rw [recFrames] at h
    rcases List.mem_append.1 h with h | h
    · simp only [framesOf, List.mem_map, List.mem_range] at h
      obtain ⟨j, hj, rfl⟩ := h
      refine ⟨p + j, by omega, by omega, ?_, by unfold frameAt; simp only; omega⟩
      rw [newAt, if_pos (by omega), show p + j - p = j by omega]
    · rw [show (p : Int) + (nfr r : Int) = ((p + nfr r : Nat) : Int) by omega] at h
      obtain ⟨i, h1, h2, h3, h4⟩ := recFrames_new E M (p + nfr r) f h
      exact ⟨i, by omega, by omega, by rw [newAt, if_neg (by omega)]; exact h3, h4⟩
/-- A sector behind a crash while frames of records were pending in an area. -/
theorem crash_area {n S a' : Nat} {E : Int} {X : List (List Int)} {M : List ByteArray} {p : Nat} (sv : List Int) (hlen : X.length = n) (h8 : 8 ≤ n ∧ n ≤ 1000) (hS : S = (n - 2) / 2) (ha : a' = 0 ∨ a' = 1) (hE : 1 ≤ E ∧ E < 256) (hok : ∀ i, i < n → Okay (posOf S i) (X.getD i []))
    (hlow : ∀ i, p ≤ i → i < S → (X.getD (2 + a' * S + i) []).getD 3 0 < E) (hfit : p + needN M ≤ S) (L : List Fr) (hL : ∃ L', recFrames M E p = L ++ L') (k : Nat) (hk : k < n) :
    Okay (posOf S k) ((layCrash sv X 0 (L.map fun f => (((2 + a' * S : Nat) : Int) + f.pos, f.sec))).getD k []) ∧
    (frs (layCrash sv X 0 (L.map fun f => (((2 + a' * S : Nat) : Int) + f.pos, f.sec))) k = frs X k ∨ frs (layCrash sv X 0 (L.map fun f => (((2 + a' * S : Nat) : Int) + f.pos, f.sec))) k = none ∨
      ∃ i f, k = 2 + a' * S + i ∧ p ≤ i ∧ i < p + needN M ∧ newAt M E p i = some f ∧ frs (layCrash sv X 0 (L.map fun f => (((2 + a' * S : Nat) : Int) + f.pos, f.sec))) k = some f) ∧
    (¬ (2 + a' * S + p ≤ k ∧ k < 2 + a' * S + p + needN M) → (layCrash sv X 0 (L.map fun f => (((2 + a' * S : Nat) : Int) + f.pos, f.sec))).getD k [] = X.getD k []) := by
  obtain ⟨L', hL'⟩ := hL
  have hmem : ∀ f ∈ L, f ∈ recFrames M E p := fun f hf => by rw [hL']; exact List.mem_append_left _ hf
  have hrng : ∀ f ∈ L, ∃ i : Nat, p ≤ i ∧ i < p + needN M ∧ newAt M E p i = some f ∧ f.pos = i := fun f hf => recFrames_new E M p f (hmem f hf)
  have hup : L.Pairwise (fun f g => f.pos < g.pos) := by
    have := recFrames_up E M p
    rw [hL', List.pairwise_append] at this
    exact this.1
  have hcs := crash_sector sv k (L.map fun f => (((2 + a' * S : Nat) : Int) + f.pos, f.sec)) X 0 (by omega) (fun x hx => by
    obtain ⟨f, hf, rfl⟩ := List.mem_map.1 hx
    obtain ⟨i, _, _, _, h4⟩ := hrng f hf
    simp only
    omega) (by
    rw [List.pairwise_map]
    refine hup.imp (fun {f g} hfg => ?_)
    simp only
    omega)
  generalize layCrash sv X 0 (L.map fun f => (((2 + a' * S : Nat) : Int) + f.pos, f.sec)) = C at *
  rcases hcs with h | ⟨x, hx, hxk, t, ht, h⟩
  · have hfr : frs C k = frs X k := by unfold frs; rw [h]
    exact ⟨by rw [h]; exact hok k hk, .inl hfr, fun _ => h⟩
  · obtain ⟨f, hf, rfl⟩ := List.mem_map.1 hx
    obtain ⟨i, h1, h2, h3, h4⟩ := hrng f hf
    have hki : k = 2 + a' * S + i := by simp only at hxk; omega
    have hgood : f.Good := by
      obtain ⟨r, q, j, e1, e2⟩ := newAt_some M E p i h1 h2
      rw [h3] at e1
      rw [Option.some.inj e1]
      exact frameAt_good hE (by omega)
    have hep : f.epoch = E := newAt_epoch _ _ _ _ _ h3
    have hpos : f.pos = posOf S k := by rw [hki, posOf_area ha (by omega), h4]
    have hto := torn_okay (k := t) (hok k hk) hgood (by rw [hep]; exact hE.2) hpos (by rw [hep, hki]; exact hlow i h1 (by omega)) ht
    rw [h]
    refine ⟨hto.1, ?_, fun hn => absurd (by omega) hn⟩
    rcases hto.2.1 with e | e | e
    · exact .inl (by unfold frs; rw [h, e])
    · refine .inr (.inr ⟨i, f, hki, h1, h2, h3, ?_⟩)
      unfold frs
      rw [h, e]
      exact frOf_sec hgood
    · refine .inr (.inl ?_)
      unfold frs frOf
      rw [h, if_neg (by rw [e]; simp)]
end Go.Proofs.Ytlhnhhjpjkgogaa.wl
namespace Go.Proofs.Ytlhnhhjpjkgogaa.wl
open Go.RowKit Go.Proofs.Ytlhnhhjpjkgogaa.agg Go.Proofs.Ytlhnhhjpjkgogaa.dk
set_option linter.unusedSimpArgs false
set_option linter.unusedVariables false

theorem length_layCrash' (sv : List Int) : ∀ (l : List (Int × List Int)) (d : List (List Int)) (i : Nat), (layCrash sv d i l).length = d.length
  | [], _, _ => rfl
  | x :: l, d, i => by
    simp only [layCrash]
    rw [length_layCrash' sv l]
    split
    · exact length_lay _ _ _
    · rfl
theorem visible_dur {X : List (List Int)} {st : St} (h : Fine X st) (hp : st.pend = []) : st.dur = X := by
  apply List.ext_getElem h.len
  intro i h1 h2
  have hv := h.vis i h2
  unfold St.visible at hv
  rw [hp] at hv
  have e : st.dur.getD i [] = X.getD i [] := hv
  rw [List.getD_eq_getElem?_getD, List.getD_eq_getElem?_getD, List.getElem?_eq_getElem h1, List.getElem?_eq_getElem h2] at e
  exact e
/-- The writes of frames, by their places. -/
def putsOf (S a : Nat) (L : List Fr) : List (Int × List Int) := L.map fun f => (((2 + a * S : Nat) : Int) + f.pos, f.sec)
theorem synced_open {w : World} {D g : Nat} {pv : Value} {st : St} {n S a b : Nat} {E : Int} {R M : List ByteArray} {X : List (List Int)} (hs : Sess n S a b E R X) (sv : List Int) (hd : st.dur = X) (hp : st.pend = putsOf S a (recFrames M E (needN R))) (hfit : needN R + needN M ≤ S)
    (h : DiskIn w D g pv (st.crash sv)) : ∃ q, q ≤ M.length ∧ ∃ st' l, Calls Try.prog 12 #[.pointer (some ⟨D, 0, none⟩)] w (OpenEnd w D g pv st' l (R ++ M.take q)) := by
  have hca := fun k hk => crash_area (M := M) (p := needN R) sv hs.len hs.n8 hs.hS hs.ha hs.e1 hs.okay hs.stale hfit (recFrames M E (needN R)) ⟨[], by simp⟩ k hk
  have hlenC : (layCrash sv X 0 (putsOf S a (recFrames M E (needN R)))).length = n := by rw [length_layCrash']; exact hs.len
  have hdC : (st.crash sv).dur = layCrash sv X 0 (putsOf S a (recFrames M E (needN R))) := by
    show layCrash sv st.dur 0 st.pend = _
    rw [hd, hp]
  rw [← putsOf] at hca
  generalize layCrash sv X 0 (putsOf S a (recFrames M E (needN R))) = C at *
  have h8 := hs.n8
  have hS := hs.hS
  have hbl : b < 2 := by rcases hs.hb with e | e <;> omega
  have hCb : C.getD b [] = X.getD b [] := (hca b (by omega)).2.2 (by omega)
  have hCo : C.getD (1 - b) [] = X.getD (1 - b) [] := (hca (1 - b) (by omega)).2.2 (by omega)
  have hO : ∀ i, needN R ≤ i → ∀ f, areaOf (frs X) S a i = some f → f.epoch < E := by
    intro i hi f hf
    unfold areaOf at hf
    split at hf
    · rename_i hiS
      rw [frs_epoch hs.okay (area_in hS h8.1 hs.ha hiS) hf]
      exact hs.stale i hi hiS
    · simp at hf
  have hC : ∀ i, needN R ≤ i → areaOf (frs C) S a i = areaOf (frs X) S a i ∨ areaOf (frs C) S a i = none ∨ ∃ f, newAt M E (needN R) i = some f ∧ areaOf (frs C) S a i = some f := by
    intro i hi
    unfold areaOf
    by_cases hiS : i < S
    · rw [if_pos hiS, if_pos hiS]
      rcases (hca (2 + a * S + i) (area_in hS h8.1 hs.ha hiS)).2.1 with e | e | ⟨j, f, e1, _, _, e4, e5⟩
      · exact .inl e
      · exact .inr (.inl e)
      · have : j = i := by omega
        subst this
        exact .inr (.inr ⟨f, e4, e5⟩)
    · rw [if_neg hiS, if_neg hiS]
      exact .inl rfl
  have hheld : Holds (areaOf (frs C) S a) (R.map (fun r => (r, E))) 0 := by
    refine holds_congr _ 0 (fun i _ hi => ?_) hs.held
    rw [map_fst] at hi
    have hiS : i < S := by have := hs.room; omega
    unfold areaOf
    rw [if_pos hiS, if_pos hiS]
    unfold frs
    rw [(hca (2 + a * S + i) (area_in hS h8.1 hs.ha hiS)).2.2 (by omega)]
  obtain ⟨t, ht⟩ : ∃ t, S = needN R + t := ⟨S - needN R, by have := hs.room; omega⟩
  obtain ⟨fin', hra, _, _⟩ := read_all (R.map (fun r => (r, E))) 0 t [] E E 0 hheld (tags_same R E)
  rw [map_fst, lastTag_same, List.nil_append, Nat.zero_add] at hra
  obtain ⟨q, hq, e', _, _, _, _, _, _, hrec, _⟩ := torn_read (O := areaOf (frs X) S a) (C := areaOf (frs C) S a) (E := E) M (needN R) t R E fin' (Int.le_refl _) hC hO (Stops.first (fun f hf => hO _ (Nat.le_refl _) f hf)) (by omega)
  obtain ⟨gr, _, _, _, hcall⟩ := open_at (B := E) h hdC rfl rfl hlenC h8.1 hS hs.ha hs.hb (fun i hi => (hca i hi).1.sec) (by unfold frs; rw [hCb]; exact hs.sup) (fun f hf => by
      have hf' : frs X (1 - b) = some f := by unfold frs at hf ⊢; rw [← hCo]; exact hf
      rw [frs_epoch hs.okay (by omega) hf']
      exact hs.other) ⟨by have := hs.e1; omega, by have := hs.e1; omega⟩ (fun i hi f hf => by
      rcases (hca i hi).2.1 with e | e | ⟨j, f', _, _, _, e4, e5⟩
      · rw [hf] at e
        rw [frs_epoch hs.okay hi e.symm]
        exact hs.top i hi
      · rw [hf] at e; simp at e
      · rw [hf] at e5
        rw [Option.some.inj e5, newAt_epoch _ _ _ _ _ e4]
        exact Int.le_refl _)
  have hrun : (runA (areaOf (frs C) S a) S 0 ⟨[], E, ⟨#[]⟩, false, 0⟩).recs = R ++ M.take q := by
    rw [← ht] at hra
    rw [hra]
    exact hrec
  rw [hrun] at hcall
  exact ⟨q, hq, _, _, hcall⟩
end Go.Proofs.Ytlhnhhjpjkgogaa.wl
