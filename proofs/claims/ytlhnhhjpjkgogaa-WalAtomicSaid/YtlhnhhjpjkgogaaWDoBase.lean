/- A World of the log's laws in memory, while nothing fails. -/
import Derived.Test.YtlhnhhjpjkgogaaM3
import Derived.Test.YtlhnhhjpjkgogaaWAllowed
import Derived.Test.YtlhnhhjpjkgogaaWLay
namespace Go.Proofs.Ytlhnhhjpjkgogaa.wl
open Go.RowKit Go.Proofs.Ytlhnhhjpjkgogaa.agg Go.Proofs.Ytlhnhhjpjkgogaa.dk
set_option linter.unusedSimpArgs false
set_option linter.unusedVariables false

/-- The block of a slice. -/
def sBlock : Value → Option Nat
  | .slice (some ad) _ _ => some ad.block
  | _ => none
/-- The parts of a World. -/
structure SyPart (w : World) (Q L D g : Nat) (n S a b e t : Nat) (R1 R2 : List ByteArray) (P : Nat) (W : World) (pv : Value) (st : St) (X : List (List Int)) (cv mv nv : Value) (fl : Bool) : Prop where
  log : LogIn W L D g pv st ⟨e, b, a, t, 0⟩
  live : ∀ q, lfoot L D g pv q → w.heap.size ≤ q
  box : W.heap[Q]? = some (.cells (wcellsL D L cv mv nv fl) 66 (0, 0))
  boxQ : w.heap.size ≤ Q
  boxF : ¬ lfoot L D g pv Q
  fine : Fine X st
  sess : Sess n S a b (e : Int) (R1 ++ R2) X
  ht : t = needN (R1 ++ R2)
  pend : st.pend.length ≤ P
  cert : StrsIn W cv R1
  certB : 0 < R1.length → ∀ q, sBlock cv = some q → q ≠ Q ∧ ¬ lfoot L D g pv q ∧ mv.ownBlock ≠ some q ∧ q < W.heap.size
  more : W.ownsRow w.heap.size 9 1 mv R2.length (strsV R2)
  moreQ : mv.ownBlock ≠ some Q
  moreF : ∀ q, mv.ownBlock = some q → ¬ lfoot L D g pv q
  below : Below w.heap.size w W
def SyAt (w : World) (Q L D g : Nat) (n S a b e t : Nat) (R1 R2 : List ByteArray) (P : Nat) (W : World) : Prop := ∃ pv st X cv mv nv fl, SyPart w Q L D g n S a b e t R1 R2 P W pv st X cv mv nv fl
theorem SyPart.quiet {w : World} {Q L D g n S a b e t P : Nat} {R1 R2 : List ByteArray} {W W' : World} {pv : Value} {st : St} {X : List (List Int)} {cv mv nv : Value} {fl : Bool} (h : SyPart w Q L D g n S a b e t R1 R2 P W pv st X cv mv nv fl) (hb : Below W.heap.size W W') : SyPart w Q L D g n S a b e t R1 R2 P W' pv st X cv mv nv fl :=
  ⟨h.log.below hb, h.live, (hb.block _ (lt_of_block h.box)).trans h.box, h.boxQ, h.boxF, h.fine, h.sess, h.ht, h.pend, h.cert.below hb, fun h0 q hq => by
      obtain ⟨h1, h2, h3, h4⟩ := h.certB h0 q hq
      exact ⟨h1, h2, h3, Nat.lt_of_lt_of_le h4 hb.size⟩, ownsRow_same h.more (fun k hk => hb.block k (h.more.lt k hk).2), h.moreQ, h.moreF, h.below.trans (hb.mono h.below.size)⟩
theorem SyAt.quiet {w : World} {Q L D g n S a b e t P : Nat} {R1 R2 : List ByteArray} {W W' : World} (h : SyAt w Q L D g n S a b e t R1 R2 P W) (hb : Below W.heap.size W W') : SyAt w Q L D g n S a b e t R1 R2 P W' := by
  obtain ⟨pv, st, X, cv, mv, nv, fl, h⟩ := h
  exact ⟨pv, st, X, cv, mv, nv, fl, h.quiet hb⟩
theorem SyAt.more {w : World} {Q L D g n S a b e t P P' : Nat} {R1 R2 : List ByteArray} {W : World} (h : SyAt w Q L D g n S a b e t R1 R2 P W) (hP : P ≤ P') : SyAt w Q L D g n S a b e t R1 R2 P' W := by
  obtain ⟨pv, st, X, cv, mv, nv, fl, h⟩ := h
  exact ⟨pv, st, X, cv, mv, nv, fl, { h with pend := Nat.le_trans h.pend hP }⟩
theorem SyPart.cell {w : World} {Q L D g n S a b e t P : Nat} {R1 R2 : List ByteArray} {W : World} {pv : Value} {st : St} {X : List (List Int)} {cv mv nv : Value} {fl : Bool} (h : SyPart w Q L D g n S a b e t R1 R2 P W pv st X cv mv nv fl) :
    W.cell? ⟨Q, 0, none⟩ = some (.pointer (some ⟨D, 0, none⟩)) ∧ W.cell? ⟨Q, 1, none⟩ = some (.pointer (some ⟨L, 0, none⟩)) ∧ W.cell? ⟨Q, 2, none⟩ = some cv ∧ W.cell? ⟨Q, 3, none⟩ = some mv ∧ ∀ i, W.frozen? ⟨Q, i, none⟩ = false := by
  refine ⟨?_, ?_, ?_, ?_, fun i => ?_⟩ <;> simp [World.cell?, World.frozen?, h.box, wcellsL]
theorem strs_kept {W W' : World} {v : Value} {l : List ByteArray} (h : StrsIn W v l) (hk : 0 < l.length → ∀ q, sBlock v = some q → W'.heap[q]? = W.heap[q]?) : StrsIn W' v l := by
  obtain ⟨ao, cap, rfl, hc⟩ := h
  refine ⟨ao, cap, rfl, fun j hj => ?_⟩
  obtain ⟨b, o, e, hcj⟩ := hc j hj
  refine ⟨b, o, e, ?_⟩
  have := hk (by omega) b (by rw [e]; rfl)
  rw [World.cell?_of_block (w := W) (w' := W') (a := ⟨b, o + j, none⟩) this]
  exact hcj
/-- A call of the log. -/
theorem SyPart.turn {w : World} {Q L D g n S a b e t P : Nat} {R1 R2 : List ByteArray} {W W' : World} {pv : Value} {st : St} {X : List (List Int)} {cv mv nv : Value} {fl : Bool} (h : SyPart w Q L D g n S a b e t R1 R2 P W pv st X cv mv nv fl)
    {pv' : Value} {st' : St} {l' : Lg} (hl : LogIn W' L D g pv' st' l') (hk : Kept (lfoot L D g pv) W W') (hf : Fresh W pv pv') :
    (∀ q, lfoot L D g pv' q → w.heap.size ≤ q) ∧ W'.heap[Q]? = some (.cells (wcellsL D L cv mv nv fl) 66 (0, 0)) ∧ ¬ lfoot L D g pv' Q ∧ StrsIn W' cv R1 ∧ (0 < R1.length → ∀ q, sBlock cv = some q → q ≠ Q ∧ ¬ lfoot L D g pv' q ∧ mv.ownBlock ≠ some q ∧ q < W'.heap.size) ∧
    W'.ownsRow w.heap.size 9 1 mv R2.length (strsV R2) ∧ (∀ q, mv.ownBlock = some q → ¬ lfoot L D g pv' q) ∧ Below w.heap.size w W' := by
  have hnew : ∀ q, q < W.heap.size → ¬ lfoot L D g pv q → ¬ lfoot L D g pv' q := by
    rintro q hq hn (e1 | e1 | e1 | e1)
    · exact hn (.inl e1)
    · exact hn (.inr (.inl e1))
    · exact hn (.inr (.inr (.inl e1)))
    · rcases hf q e1 with e2 | e2
      · exact hn (.inr (.inr (.inr e2)))
      · omega
  have hQ := lt_of_block h.box
  refine ⟨?_, (hk.block _ hQ h.boxF).trans h.box, hnew Q hQ h.boxF, strs_kept h.cert (fun h0 q hq => ?_), fun h0 q hq => ?_, ownsRow_same h.more (fun k hk' => hk.block k (h.more.lt k hk').2 (h.moreF k hk')), fun q hq => hnew q (h.more.lt q hq).2 (h.moreF q hq), h.below.trans (hk.below w.heap.size h.below.size h.live)⟩
  · rintro q (e1 | e1 | e1 | e1)
    · exact h.live q (.inl e1)
    · exact h.live q (.inr (.inl e1))
    · exact h.live q (.inr (.inr (.inl e1)))
    · rcases hf q e1 with e2 | e2
      · exact h.live q (.inr (.inr (.inr e2)))
      · exact Nat.le_trans h.below.size e2
  · obtain ⟨h1, h2, h3, h4⟩ := h.certB h0 q hq
    exact hk.block q h4 h2
  · obtain ⟨h1, h2, h3, h4⟩ := h.certB h0 q hq
    exact ⟨h1, hnew q h4 h2, h3, Nat.lt_of_lt_of_le h4 hk.size⟩
/-- The records that fit, in order. -/
def acc (S : Nat) : Nat → List ByteArray → List ByteArray
  | _, [] => []
  | t, r :: l => if t + nfr r ≤ S then r :: acc S (t + nfr r) l else acc S t l
theorem acc_snoc (S : Nat) (r : ByteArray) : ∀ (l : List ByteArray) (t : Nat), acc S t (l ++ [r]) = acc S t l ++ (if t + needN (acc S t l) + nfr r ≤ S then [r] else [])
  | [], t => by simp [acc, needN]
  | x :: l, t => by
    rw [List.cons_append, acc, acc]
    by_cases h : t + nfr x ≤ S
    · rw [if_pos h, if_pos h, acc_snoc S r l (t + nfr x), List.cons_append]
      have : needN (x :: acc S (t + nfr x) l) = nfr x + needN (acc S (t + nfr x) l) := by simp [needN]
      rw [this, Nat.add_assoc t (nfr x)]
    · rw [if_neg h, if_neg h, acc_snoc S r l t]
theorem acc_all (S : Nat) : ∀ (l : List ByteArray) (t : Nat), t + needN l ≤ S → acc S t l = l
  | [], _, _ => rfl
  | r :: l, t, h => by
    have en : needN (r :: l) = nfr r + needN l := by simp [needN]
    rw [acc, if_pos (by omega), acc_all S l (t + nfr r) (by omega)]
theorem needN_app (a b : List ByteArray) : needN (a ++ b) = needN a + needN b := by simp [needN]
set_option maxHeartbeats 400000 in
theorem free_quiet {w : World} {L D g : Nat} {pv : Value} {st : St} {l : Lg} (h : LogIn w L D g pv st l) (hf : 0 ≤ l.fin ∧ l.fin ≤ 1000000) :
    Calls Try.prog 28 #[.pointer (some ⟨L, 0, none⟩)] w fun e w' => e = .returned (.int .i64 (sizeOf' st - l.fin)) ∧ ∃ m, w' = w.drewN m := by
  obtain ⟨s1, s2⟩ := size_rng h.disk
  obtain ⟨c0, c1, c2, c3, c4, c5⟩ := h.cell
  have hh := Lib.hid h
  obtain ⟨epoch, block, area, fin, failed⟩ := l
  simp only at hf c4 ⊢
  generalize hz : sizeOf' st = z at *
  have hz' := Lib.hid hz
  clear hz h c0 c1 c2 c3 c5
  go_enter Try.func28, Try.ntmps28
  go_wp2_with fail
  have hn : ∀ n, Calls Try.prog 44 #[.pointer (some ⟨L, 0, none⟩)] (w.drewN n) fun e w' => e = .returned (.int .i64 z) ∧ w.drewN n = w' := fun n => by
    rw [← hz'.out]
    exact size_any (hh.out.below (below_drewN (Below.refl _ _) n))
  have hn' := Lib.hid hn
  clear hn
  go_quiet ((go_at_call 44; exact (hn'.out _).mono (fun _ _ h => ⟨h.1, _, h.2.symm⟩)))
  go_wp2_with fail
  go_ret
  exact ⟨rfl, _, rfl⟩
/-- A record behind the others, in the World's list. -/
theorem SyPart.add {w : World} {Q L D g n S a b e t P : Nat} {R1 R2 : List ByteArray} {W : World} {pv : Value} {st : St} {X : List (List Int)} {cv mv nv : Value} {fl : Bool} (h : SyPart w Q L D g n S a b e t R1 R2 P W pv st X cv mv nv fl)
    {W1 W3 W4 : World} {pv' : Value} {st' : St} {X' : List (List Int)} {t' P' g' cap' : Nat} {r : ByteArray} (hl : LogIn W1 L D g pv' st' ⟨e, b, a, t', 0⟩) (hk : Kept (lfoot L D g pv) W W1) (hf : Fresh W pv pv') (hb : Below W1.heap.size W1 W3)
    (hown : W4.ownsRow w.heap.size 9 1 (.slice (some ⟨g', 0, none⟩) (R2.length + 1) cap') (R2.length + 1) (strsV R2 ++ [.string r])) (hgr : W3.grownBy W4 mv.ownBlock) (hnew : mv.ownBlock = some g' ∨ g' = W3.heap.size)
    (hX : Fine X' st') (hs : Sess n S a b (e : Int) (R1 ++ (R2 ++ [r])) X') (ht : t' = needN (R1 ++ (R2 ++ [r]))) (hP : st'.pend.length ≤ P') :
    SyAt w Q L D g n S a b e t' R1 (R2 ++ [r]) P' (W4.setCell ⟨Q, 3, none⟩ (.slice (some ⟨g', 0, none⟩) (R2.length + 1) cap')) := by
  obtain ⟨f1, f2, f3, f4, f5, f6, f7, f8⟩ := h.turn hl hk hf
  have hQ1 := lt_of_block f2
  have hs13 := hb.size
  have hs34 := hgr.size
  have hQ3 : Q < W3.heap.size := by omega
  have hl3 := hl.below hb
  have hm3 : W3.ownsRow w.heap.size 9 1 mv R2.length (strsV R2) := ownsRow_same f6 (fun k hk => hb.block k (f6.lt k hk).2)
  have hkF : Kept (fun q => q = Q ∨ mv.ownBlock = some q) W3 (W4.setCell ⟨Q, 3, none⟩ (.slice (some ⟨g', 0, none⟩) (R2.length + 1) cap')) :=
    (Kept.grown (F := fun q => q = Q ∨ mv.ownBlock = some q) hgr (fun k hk => .inr hk)).trans (Kept.setCell (F := fun q => q = Q ∨ mv.ownBlock = some q) W4 (a := ⟨Q, 3, none⟩) (.inl rfl) _)
  have hg'Q : g' ≠ Q := by
    rcases hnew with e1 | e1
    · intro e2
      exact h.moreQ (e2 ▸ e1)
    · omega
  have hg'F : ¬ lfoot L D g pv' g' := by
    rcases hnew with e1 | e1
    · exact f7 g' e1
    · intro e2
      have := hl3.lt _ e2
      omega
  have hbox4 : W4.heap[Q]? = some (.cells (wcellsL D L cv mv nv fl) 66 (0, 0)) := ((hgr.block Q hQ3 (fun e1 => h.moreQ e1.symm)).trans (hb.block Q hQ1)).trans f2
  refine ⟨pv', st', X', cv, .slice (some ⟨g', 0, none⟩) (R2.length + 1) cap', nv, fl, ?_⟩
  refine ⟨hl3.kept hkF (fun k hk1 hk2 => ?_), f1, ?_, h.boxQ, f3, hX, hs, ht, hP, strs_kept f4 (fun h0 q hq => ?_), fun h0 q hq => ?_, ?_, ?_, ?_, f8.trans ((hb.mono f8.size).trans (hkF.below w.heap.size (Nat.le_trans f8.size hs13) ?_))⟩
  · rcases hk2 with rfl | hk2
    · exact f3 hk1
    · exact f7 k hk2 hk1
  · rw [heap_setCell_same _ _ _ _ _ _ hbox4]
    exact rfl
  · obtain ⟨c1, c2, c3, c4⟩ := f5 h0 q hq
    exact (hkF.block q (by omega) (fun e1 => by rcases e1 with e1 | e1; exact c1 e1; exact c3 e1)).trans (hb.block q c4)
  · obtain ⟨c1, c2, c3, c4⟩ := f5 h0 q hq
    refine ⟨c1, c2, ?_, Nat.lt_of_lt_of_le c4 (Nat.le_trans hs13 hkF.size)⟩
    intro e1
    have e2 : g' = q := by simpa [Value.ownBlock] using e1
    rcases hnew with e3 | e3
    · exact c3 (e2 ▸ e3)
    · omega
  · rw [strsV_app, List.length_append]
    exact ownsRow_same hown (fun k hk => heap_setCell_other _ _ _ _ (fun e1 => by simp [Value.ownBlock] at hk; exact hg'Q (hk.trans e1)))
  · intro e1
    exact hg'Q (by simpa [Value.ownBlock] using e1)
  · intro q e1
    have e2 : g' = q := by simpa [Value.ownBlock] using e1
    exact e2 ▸ hg'F
  · rintro q (rfl | e1)
    · exact h.boxQ
    · exact (f6.lt q e1).1
theorem str_single (W : World) (r : ByteArray) : StrsUnder (W.alloc (.cells #[.string r] 9)).heap.size (W.alloc (.cells #[.string r] 9)) (.slice (some ⟨W.heap.size, 0, none⟩) 1 1) [r] := by
  refine ⟨some ⟨W.heap.size, 0, none⟩, 1, rfl, fun _ => ⟨W.heap.size, 0, rfl, by simp, fun i hi => ?_⟩⟩
  have : i = 0 := by simpa using hi
  subst this
  exact (cell_of_row _ _ _ _ _ _ (heap_alloc_new W (.cells #[.string r] 9))).trans rfl
/-- The World's box behind an append to its list. -/
theorem more_box {u w' : World} {Q D L : Nat} {cv mv nv : Value} {fl : Bool} {o : Obj} (hbox : u.heap[Q]? = some (.cells (wcellsL D L cv mv nv fl) 66 (0, 0))) (hm : mv.ownBlock ≠ some Q) (hgr : (u.alloc o).grownBy w' mv.ownBlock) :
    w'.cell? ⟨Q, 3, none⟩ = some mv ∧ w'.frozen? ⟨Q, 3, none⟩ = false := by
  have hQ := lt_of_block hbox
  have h1 : w'.heap[Q]? = some (.cells (wcellsL D L cv mv nv fl) 66 (0, 0)) := (hgr.block Q (by simp; omega) (fun e => hm e.symm)).trans ((Below.heap_alloc u o Q hQ).trans hbox)
  constructor
  · exact (cell_of_row _ _ _ _ _ _ h1).trans rfl
  · simp [World.frozen?, h1]
theorem own_strs {W : World} {base : Nat} {v : Value} {l : List ByteArray} (h : W.ownsRow base 9 1 v l.length (strsV l)) : StrsIn W v l := by
  rcases h.2 with ⟨e1, e2⟩ | ⟨gg, cap, cur, e1, _, e3, _, _, e6, e7⟩
  · rw [e1]
    exact ⟨none, 0, by rw [e2], fun j hj => by omega⟩
  · rw [e1]
    refine ⟨some ⟨gg, 0, none⟩, cap, rfl, fun j hj => ⟨gg, 0, rfl, ?_⟩⟩
    rw [cell_of_row _ _ _ _ _ _ e3, Nat.zero_add]
    have h1 : (strsV l)[j]? = some (.string l[j]) := by simp [strsV, hj]
    rw [← e7, List.getElem?_take_of_lt (by omega)] at h1
    simpa using h1
theorem rowB_in {B : Nat} {W : World} {ao : Option Addr} {n c : Nat} {l : List ByteArray} (h : RowB B W 9 1 (.slice ao n c) n (strsV l)) (hn : n = l.length) : StrsIn W (.slice ao n c) l ∧ (0 < l.length → ∀ q, sBlock (.slice ao n c) = some q → B ≤ q ∧ q < W.heap.size) := by
  by_cases h0 : 0 < n
  · obtain ⟨g, e1, _, h2⟩ := rowB_strs h hn n (Nat.le_refl _) h0
    rw [List.take_of_length_le (by omega)] at h2
    have ho := h.owns h0
    refine ⟨h2, fun _ q hq => ?_⟩
    rw [e1] at hq
    have e2 : g = q := by simpa [sBlock] using hq
    subst e2
    exact ho.lt g (by rw [e1]; rfl)
  · obtain rfl : l = [] := List.eq_nil_of_length_eq_zero (by omega)
    exact ⟨⟨ao, c, by rw [hn], fun j hj => by simp at hj⟩, fun h1 => by simp at h1⟩
/-- What is certain is set anew. -/
theorem settle {w wb W' : World} {Q L D g n S a b e t P : Nat} {R' : List ByteArray} {pv : Value} {st : St} {X : List (List Int)} {cv' nv : Value} {fl : Bool}
    (hl : LogIn wb L D g pv st ⟨e, b, a, t, 0⟩) (hlive : ∀ q, lfoot L D g pv q → w.heap.size ≤ q) (hQ : w.heap.size ≤ Q) (hF : ¬ lfoot L D g pv Q) (hX : Fine X st) (hs : Sess n S a b (e : Int) R' X) (ht : t = needN R') (hP : st.pend.length ≤ P)
    (hc : StrsIn wb cv' R') (hcb : 0 < R'.length → ∀ q, sBlock cv' = some q → q ≠ Q ∧ ¬ lfoot L D g pv q ∧ q < wb.heap.size) (hbel : Below w.heap.size w wb)
    (hk : Kept (fun q => q = Q) wb W') (hbox : W'.heap[Q]? = some (.cells (wcellsL D L cv' (.slice none 0 0) nv fl) 66 (0, 0))) :
    SyPart w Q L D g n S a b e t R' [] P W' pv st X cv' (.slice none 0 0) nv fl := by
  refine ⟨hl.kept hk (fun q h1 h2 => hF (h2 ▸ h1)), hlive, hbox, hQ, hF, hX, by rw [List.append_nil]; exact hs, by rw [List.append_nil]; exact ht, hP, strs_kept hc (fun h0 q hq => ?_), fun h0 q hq => ?_, ?_, by simp [Value.ownBlock], fun q hq => by simp [Value.ownBlock] at hq, hbel.trans (hk.below w.heap.size hbel.size (fun q hq => hq ▸ hQ))⟩
  · obtain ⟨c1, c2, c3⟩ := hcb h0 q hq
    exact hk.block q c3 c1
  · obtain ⟨c1, c2, c3⟩ := hcb h0 q hq
    exact ⟨c1, c2, by simp [Value.ownBlock], Nat.lt_of_lt_of_le c3 hk.size⟩
  · exact World.ownsRow_nil _ _ _ _
theorem setcells_box {wb : World} {Q D L : Nat} {cv mv nv cv' mv' : Value} {fl : Bool} (h : wb.heap[Q]? = some (.cells (wcellsL D L cv mv nv fl) 66 (0, 0))) :
    ((wb.setCell ⟨Q, 2, none⟩ cv').setCell ⟨Q, 3, none⟩ mv').heap[Q]? = some (.cells (wcellsL D L cv' mv' nv fl) 66 (0, 0)) ∧ ((wb.setCell ⟨Q, 3, none⟩ mv').setCell ⟨Q, 2, none⟩ cv').heap[Q]? = some (.cells (wcellsL D L cv' mv' nv fl) 66 (0, 0)) ∧
    Kept (fun q => q = Q) wb ((wb.setCell ⟨Q, 2, none⟩ cv').setCell ⟨Q, 3, none⟩ mv') ∧ Kept (fun q => q = Q) wb ((wb.setCell ⟨Q, 3, none⟩ mv').setCell ⟨Q, 2, none⟩ cv') := by
  refine ⟨?_, ?_, (Kept.setCell (F := fun q => q = Q) wb (a := ⟨Q, 2, none⟩) rfl _).trans (Kept.setCell (F := fun q => q = Q) _ (a := ⟨Q, 3, none⟩) rfl _), (Kept.setCell (F := fun q => q = Q) wb (a := ⟨Q, 3, none⟩) rfl _).trans (Kept.setCell (F := fun q => q = Q) _ (a := ⟨Q, 2, none⟩) rfl _)⟩
  · rw [heap_setCell_same _ _ _ _ _ _ (heap_setCell_same _ _ _ _ _ _ h)]
    exact rfl
  · rw [heap_setCell_same _ _ _ _ _ _ (heap_setCell_same _ _ _ _ _ _ h)]
    exact rfl
theorem world_cells {W : World} {Q D L : Nat} {cv mv nv : Value} {fl : Bool} (h : W.heap[Q]? = some (.cells (wcellsL D L cv mv nv fl) 66 (0, 0))) :
    W.cell? ⟨Q, 2, none⟩ = some cv ∧ W.cell? ⟨Q, 3, none⟩ = some mv ∧ W.frozen? ⟨Q, 2, none⟩ = false ∧ W.frozen? ⟨Q, 3, none⟩ = false := by
  refine ⟨(cell_of_row _ _ _ _ _ _ h).trans rfl, (cell_of_row _ _ _ _ _ _ h).trans rfl, ?_, ?_⟩ <;> simp [World.frozen?, h]
/-- The end of a call of Do while nothing fails. -/
def DoEnd (w : World) (Q L D g n S e N P : Nat) (e9 : Ending) (W' : World) : Prop :=
  e9 = .returned (.int .i64 1) ∧ ∃ a b e' t R1 R2, e' ≤ e + 1 ∧ R1.length + R2.length ≤ N ∧ SyAt w Q L D g n S a b e' t R1 R2 P W'
theorem kept_block {F : Nat → Prop} {W1 Wd u1 : World} (hk : Kept F Wd u1) (hb : Below W1.heap.size W1 Wd) {Z : Nat} {o : Obj} (h : W1.heap[Z]? = some o) (hZ : ¬ F Z) : u1.heap[Z]? = some o :=
  (hk.block Z (Nat.lt_of_lt_of_le (lt_of_block h) hb.size) hZ).trans ((hb.block Z (lt_of_block h)).trans h)
theorem under_in {B : Nat} {W : World} {v : Value} {l : List ByteArray} (h : StrsUnder B W v l) : StrsIn W v l ∧ (0 < l.length → ∀ q, sBlock v = some q → q < B) := by
  obtain ⟨ao, cap, rfl, hc⟩ := h
  refine ⟨⟨ao, cap, rfl, fun j hj => ?_⟩, fun h0 q hq => ?_⟩
  · obtain ⟨b, o, e, hB, hcj⟩ := hc (by omega)
    exact ⟨b, o, e, hcj j hj⟩
  · obtain ⟨b, o, rfl, hB, _⟩ := hc h0
    have : b = q := by simpa [sBlock] using hq
    exact this ▸ hB
end Go.Proofs.Ytlhnhhjpjkgogaa.wl
