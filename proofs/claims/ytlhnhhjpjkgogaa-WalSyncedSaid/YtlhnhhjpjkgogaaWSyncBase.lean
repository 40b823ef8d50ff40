/- The start of a World, and a log to which records are appended behind a synchronization. -/
import Derived.Test.YtlhnhhjpjkgogaaWDo
import Derived.Test.YtlhnhhjpjkgogaaM3
namespace Go.Proofs.Ytlhnhhjpjkgogaa.wl
open Go.RowKit Go.Proofs.Ytlhnhhjpjkgogaa.agg Go.Proofs.Ytlhnhhjpjkgogaa.dk
set_option linter.unusedSimpArgs false
set_option linter.unusedVariables false

theorem startX_at (n i : Nat) (hi : i < n) : (startX n).getD i [] = if i = 0 then (rootFr 1 (0 : Nat)).sec else zeros := by
  unfold startX
  by_cases h : i = 0
  · subst h
    rw [if_pos rfl, List.getD_eq_getElem?_getD, List.getElem?_set_self (by simpa using hi)]
    rfl
  · rw [if_neg h, getD_set_other _ _ _ _ _ (fun e => h e.symm), List.getD_eq_getElem?_getD, List.getElem?_replicate, if_pos hi]
    rfl
theorem zeros_3 : zeros.getD 3 0 = 0 := by decide +kernel
theorem sess_start (n : Nat) (h8 : 8 ≤ n) (h : n ≤ 1000) : Sess n ((n - 2) / 2) 0 0 1 [] (startX n) := by
  have hg := root_good 1 0 ⟨by omega, by omega⟩
  have hr3 : (rootFr 1 (0 : Nat)).sec.getD 3 0 = 1 := (sec_epoch hg (by show (1 : Int) < 256; omega)).2.2.2.1
  refine ⟨by simp [startX], ⟨h8, h⟩, rfl, .inl rfl, .inl rfl, ⟨by omega, by omega⟩, fun i hi => ?_, fun i hi => ?_, ?_, ?_, trivial, fun i _ hi => ?_, Nat.zero_le _⟩
  · rw [startX_at n i hi]
    split
    · rename_i h0
      rw [h0]
      have := okay_frame hg (by show (1 : Int) < 256; omega)
      rw [posOf_root (.inl rfl)]
      exact this
    · exact okay_zeros _
  · rw [startX_at n i hi]
    split
    · rw [hr3]; exact Int.le_refl _
    · rw [zeros_3]; omega
  · unfold frs
    rw [startX_at n 0 (by omega), if_pos rfl, frOf_sec hg]
  · rw [startX_at n (1 - 0) (by omega), if_neg (by omega), zeros_3]
    omega
  · rw [startX_at n _ (by omega), if_neg (by omega), zeros_3]
    omega
theorem sy_start {w w' : World} {n : Nat} {Q L D g : Nat} {pv : Value} (h8 : 8 ≤ n) (h : n ≤ 1000) (hl : LogIn w' L D g pv (startSt n) ⟨1, 0, 0, 0, 0⟩) (hbox : w'.heap[Q]? = some (.cells (wcellsL D L (.slice none 0 0) (.slice none 0 0) (.slice none 0 0) false) 66 (0, 0)))
    (hlive : ∀ b, lfoot L D g pv b → w.heap.size ≤ b) (hF : ¬ lfoot L D g pv Q) (hQ : w.heap.size ≤ Q) (hb : Below w.heap.size w w') : SyAt w Q L D g n ((n - 2) / 2) 0 0 1 0 [] [] 0 w' := by
  obtain ⟨_, h2, h3⟩ := start_fine n h8
  exact ⟨pv, startSt n, startX n, _, _, _, _, hl, hlive, hbox, hQ, hF, h2, sess_start n h8 h, rfl, by rw [h3]; simp, ⟨none, 0, rfl, fun j hj => by simp at hj⟩, fun h0 => by simp at h0, World.ownsRow_nil _ _ _ _, by simp [Value.ownBlock], fun q hq => by simp [Value.ownBlock] at hq, hb⟩
/-- What writes leave that all come off. -/
theorem writes_puts : ∀ (l : List (Int × List Int)) {X : List (List Int)} {st : St}, Fine X st → (∀ x ∈ l, 0 ≤ x.1 ∧ x.1 < X.length ∧ x.2.length = 64) → (writes st l).1.pend = st.pend ++ l
  | [], X, st, _, _ => by simp [writes]
  | x :: l, X, st, h, hl => by
    obtain ⟨h1, h2, h3⟩ := hl x (by simp)
    obtain ⟨i, hi⟩ : ∃ i : Nat, x.1 = (i : Int) := ⟨x.1.toNat, by omega⟩
    have hw := h.write i (by omega) x.2 h3
    have e : st.write i x.2 = ({ st with pend := st.pend ++ [((i : Int), x.2)], wr := wrap64 (st.wr + 1) }, 0) := by
      unfold St.write
      rw [if_neg (by rw [h.len]; omega), h.call, if_neg (by simp [h.ok])]
    rw [writes_ok (by rw [hi]; exact hw.1), hi, writes_puts l hw.2 (fun y hy => by rw [List.length_set]; exact hl y (by simp [hy])), e]
    simp only [List.append_assoc, List.singleton_append]
    rw [show ((i : Int), x.2) = x by rw [← hi]]
theorem append_puts {X : List (List Int)} {st : St} {a b e t s : Nat} (h : Fine X st) (h8 : 8 ≤ X.length) (hs : s = (X.length - 2) / 2) (ha : a = 0 ∨ a = 1) (r : ByteArray) (hr : r.size ≤ 65536) (hfit : t + nfr r ≤ s) :
    ∃ st', appendLg st ⟨e, b, a, t, 0⟩ r = (st', ⟨e, b, a, ((t + nfr r : Nat) : Int), 0⟩, 0) ∧ Fine (laidF ((2 + a * s : Nat) : Int) X (framesOf r e t)) st' ∧ st'.dur = st.dur ∧ st'.pend = st.pend ++ putsOf s a (framesOf r e t) := by
  obtain ⟨st', p1, p2, _⟩ := append_fine (e := e) (b := b) h h8 hs ha r hr hfit
  have hsz := size_fine h (by omega)
  rw [← hs] at hsz
  have e1 : appendLg st ⟨e, b, a, t, 0⟩ r = ((writes st (placed st a (framesOf r e t))).1,
      if (writes st (placed st a (framesOf r e t))).2 = 0 then ⟨e, b, a, ((t : Int) + nfr r), 0⟩ else ⟨e, b, a, t, (writes st (placed st a (framesOf r e t))).2⟩, (writes st (placed st a (framesOf r e t))).2) := by
    unfold appendLg
    rw [if_neg (by simp), if_neg (by rw [hsz]; simp only; omega)]
  rw [e1] at p1
  have e2 : st' = (writes st (placed st a (framesOf r e t))).1 := (congrArg Prod.fst p1).symm
  have e3 : placed st a (framesOf r e t) = putsOf s a (framesOf r e t) := by
    unfold placed putsOf placeOf
    rw [hsz]
    apply List.map_congr_left
    intro f _
    congr 1
  refine ⟨st', by rw [e1]; exact p1, p2, by rw [e2]; exact writes_dur _ _, ?_⟩
  rw [e2, e3]
  refine writes_puts _ h (fun x hx => ?_)
  unfold putsOf at hx
  obtain ⟨f, hf, rfl⟩ := List.mem_map.1 hx
  obtain ⟨h1, h2, h3⟩ := frames_rng r e t f hf
  refine ⟨by simp only; omega, ?_, f.length_sec h1⟩
  simp only
  rcases ha with rfl | rfl <;> omega
/-- The memory while records are appended behind a synchronization. -/
structure Late (w W0 : World) (G : Nat → Prop) (L D g n S a b e t : Nat) (X0 : List (List Int)) (A : List ByteArray) (mv : Value) (W : World) (pv : Value) (st : St) (X : List (List Int)) : Prop where
  log : LogIn W L D g pv st ⟨e, b, a, ((t + needN A : Nat) : Int), 0⟩
  live : ∀ q, lfoot L D g pv q → w.heap.size ≤ q
  fine : Fine X st
  xl : X.length = n
  dur : st.dur = X0
  pend : st.pend = putsOf S a (recFrames A e t)
  guard : ∀ q, G q → q < W0.heap.size ∧ w.heap.size ≤ q ∧ ¬ lfoot L D g pv q
  same : ∀ q, G q → W.heap[q]? = W0.heap[q]?
  more : W.ownsRow W0.heap.size 9 1 mv A.length (strsV A)
  moreF : ∀ q, mv.ownBlock = some q → ¬ lfoot L D g pv q
  below : Below w.heap.size w W
  grown : W0.heap.size ≤ W.heap.size
  room : t + needN A ≤ S
  old : w.heap.size ≤ W0.heap.size
def LateAt (w W0 : World) (G : Nat → Prop) (L D g n S a b e t : Nat) (X0 : List (List Int)) (A : List ByteArray) (mv : Value) (W : World) : Prop := ∃ pv st X, Late w W0 G L D g n S a b e t X0 A mv W pv st X
theorem Late.quiet {w W0 W W' : World} {G : Nat → Prop} {L D g n S a b e t : Nat} {X0 : List (List Int)} {A : List ByteArray} {mv : Value} {pv : Value} {st : St} {X : List (List Int)} (h : Late w W0 G L D g n S a b e t X0 A mv W pv st X) (hb : Below W.heap.size W W') : Late w W0 G L D g n S a b e t X0 A mv W' pv st X :=
  ⟨h.log.below hb, h.live, h.fine, h.xl, h.dur, h.pend, h.guard, fun q hq => (hb.block q (Nat.lt_of_lt_of_le (h.guard q hq).1 h.grown)).trans (h.same q hq), ownsRow_same h.more (fun k hk => hb.block k (h.more.lt k hk).2), h.moreF, h.below.trans (hb.mono h.below.size), Nat.le_trans h.grown hb.size, h.room, h.old⟩
theorem Late.turn {w W0 W W' : World} {G : Nat → Prop} {L D g n S a b e t : Nat} {X0 : List (List Int)} {A : List ByteArray} {mv : Value} {pv : Value} {st : St} {X : List (List Int)} (h : Late w W0 G L D g n S a b e t X0 A mv W pv st X)
    {pv' : Value} (hk : Kept (lfoot L D g pv) W W') (hf : Fresh W pv pv') :
    (∀ q, lfoot L D g pv' q → w.heap.size ≤ q) ∧ (∀ q, G q → q < W0.heap.size ∧ w.heap.size ≤ q ∧ ¬ lfoot L D g pv' q) ∧ (∀ q, G q → W'.heap[q]? = W0.heap[q]?) ∧ W'.ownsRow W0.heap.size 9 1 mv A.length (strsV A) ∧ (∀ q, mv.ownBlock = some q → ¬ lfoot L D g pv' q) ∧ Below w.heap.size w W' ∧ W0.heap.size ≤ W'.heap.size := by
  have hnew : ∀ q, q < W.heap.size → ¬ lfoot L D g pv q → ¬ lfoot L D g pv' q := by
    rintro q hq hn (e1 | e1 | e1 | e1)
    · exact hn (.inl e1)
    · exact hn (.inr (.inl e1))
    · exact hn (.inr (.inr (.inl e1)))
    · rcases hf q e1 with e2 | e2
      · exact hn (.inr (.inr (.inr e2)))
      · omega
  have hg := h.grown
  refine ⟨?_, fun q hq => ?_, fun q hq => ?_, ownsRow_same h.more (fun k hk' => hk.block k (h.more.lt k hk').2 (h.moreF k hk')), fun q hq => hnew q (h.more.lt q hq).2 (h.moreF q hq), h.below.trans (hk.below w.heap.size h.below.size h.live), Nat.le_trans hg hk.size⟩
  · rintro q (e1 | e1 | e1 | e1)
    · exact h.live q (.inl e1)
    · exact h.live q (.inr (.inl e1))
    · exact h.live q (.inr (.inr (.inl e1)))
    · rcases hf q e1 with e2 | e2
      · exact h.live q (.inr (.inr (.inr e2)))
      · exact Nat.le_trans h.below.size e2
  · obtain ⟨h1, h2, h3⟩ := h.guard q hq
    exact ⟨h1, h2, hnew q (by omega) h3⟩
  · obtain ⟨h1, h2, h3⟩ := h.guard q hq
    exact (hk.block q (by omega) h3).trans (h.same q hq)
/-- A record more. -/
theorem Late.add {w W0 W W1 W3 W4 : World} {G : Nat → Prop} {L D g n S a b e t : Nat} {X0 : List (List Int)} {A : List ByteArray} {mv : Value} {pv : Value} {st : St} {X : List (List Int)} (h : Late w W0 G L D g n S a b e t X0 A mv W pv st X)
    {pv' : Value} {st' : St} {X' : List (List Int)} {r : ByteArray} {g' cap' : Nat} (hl : LogIn W1 L D g pv' st' ⟨e, b, a, ((t + needN A + nfr r : Nat) : Int), 0⟩) (hk : Kept (lfoot L D g pv) W W1) (hf : Fresh W pv pv') (hb : Below W1.heap.size W1 W3)
    (hown : W4.ownsRow W0.heap.size 9 1 (.slice (some ⟨g', 0, none⟩) (A.length + 1) cap') (A.length + 1) (strsV A ++ [.string r])) (hgr : W3.grownBy W4 mv.ownBlock) (hnew : mv.ownBlock = some g' ∨ g' = W3.heap.size)
    (hX : Fine X' st') (hxl : X'.length = n) (hd : st'.dur = st.dur) (hp : st'.pend = st.pend ++ putsOf S a (framesOf r e ((t + needN A : Nat) : Int))) (hfit : t + needN A + nfr r ≤ S) :
    LateAt w W0 G L D g n S a b e t X0 (A ++ [r]) (.slice (some ⟨g', 0, none⟩) (A.length + 1) cap') W4 := by
  obtain ⟨f1, f2, f3, f4, f5, f6, f7⟩ := h.turn hk hf
  have hs13 := hb.size
  have hs34 := hgr.size
  have hl3 := hl.below hb
  have hkF : Kept (fun q => mv.ownBlock = some q) W3 W4 := Kept.grown (F := fun q => mv.ownBlock = some q) hgr (fun k hk => hk)
  have hmb : ∀ q, mv.ownBlock = some q → W0.heap.size ≤ q := fun q hq => (f4.lt q hq).1
  have hg'F : ¬ lfoot L D g pv' g' := by
    rcases hnew with e1 | e1
    · exact f5 g' e1
    · intro e2
      have := hl3.lt _ e2
      omega
  refine ⟨pv', st', X', ?_⟩
  refine ⟨?_, f1, hX, hxl, hd.trans h.dur, ?_, f2, fun q hq => ?_, ?_, fun q hq => ?_, f6.trans ((hb.mono f6.size).trans (hkF.below w.heap.size (Nat.le_trans f6.size hs13) (fun q hq => Nat.le_trans h.old (hmb q hq)))), Nat.le_trans f7 (Nat.le_trans hs13 hs34), ?_, h.old⟩
  · rw [needN_snoc, ← Nat.add_assoc]
    exact hl3.kept hkF (fun k h1 h2 => f5 k h2 h1)
  · rw [hp, h.pend, recFrames_snoc]
    unfold putsOf
    rw [List.map_append]
    congr 3
  · obtain ⟨h1, h2, h3⟩ := f2 q hq
    exact (hkF.block q (by omega) (fun e1 => by have := hmb q e1; omega)).trans ((hb.block q (by omega)).trans (f3 q hq))
  · rw [strsV_app, List.length_append]
    exact hown
  · have e2 : g' = q := by simpa [Value.ownBlock] using hq
    exact e2 ▸ hg'F
  · rw [needN_snoc]
    omega
theorem ag_actS : IsAgg Try.prog 49 4 := ⟨fun _ => by kernel_rfl, fun _ => by kernel_rfl⟩
theorem size_actS (x : ActW) : x.cells.size = 4 := rfl
theorem over_actS (x : ActW) : overrow #[Value.int .i64 0, .slice none 0 0, .slice none 0 0, .int .i64 0] 0 x.cells = x.cells := overrow_whole rfl
theorem one_actS {B : Nat} {w : World} {v : Value} {l : List ActW} (h : ActsW B w v l) {x : ActW} (hx : x ∈ l) : oneCells x.cells = true := by
  obtain ⟨_, _, e1, _⟩ := h.strs x hx
  obtain ⟨_, _, e2, _⟩ := h.ints x hx
  unfold ActW.cells
  rw [e1, e2]
  rfl
section
variable {a : Act} {w : World} {K : Act → World → Prop} {Q : Exit → Act → World → Prop} {dst : Option Tmp} {ty : TypeId} {pos : String} {aft : Array Edge} {gd : Option (Nat × Bool)}
theorem load_actS (x : Operand) (h : aggOk w (a.eval x) 4 = true) : Oper.wp Try.prog ⟨dst, .load 49 x, ty, pos, aft, gd⟩ a w K Q = K (a.put dst (aggAt w (a.eval x) 4)) w := wp_load_agg ag_actS x h
theorem store_actS (x y : Operand) (h : aggOk w (a.eval x) 4 = true) (hy : plain (a.eval y) 4 = true) : Oper.wp Try.prog ⟨dst, .store 49 x y, ty, pos, aft, gd⟩ a w K Q = K (a.put dst undef) (putRow w (a.eval x) (cellsOf (a.eval y))) := wp_store_agg ag_actS x y h hy
end
theorem cut_actS (x : ActW) : cut x.cells 0 4 = .agg x.cells := cut_whole rfl
theorem sBlock_own (v : Value) : sBlock v = v.ownBlock := by
  cases v with
  | slice a l c => cases a <;> rfl
  | _ => rfl
/-- A crash and Open leave the lists. -/
theorem Late.last {w W0 W W1 W2 : World} {G : Nat → Prop} {L D g n S a b e t : Nat} {X0 : List (List Int)} {A : List ByteArray} {mv : Value} {pv : Value} {st : St} {X : List (List Int)} (h : Late w W0 G L D g n S a b e t X0 A mv W pv st X)
    {pv' : Value} (hk : Kept (foot D g pv) W W1) (hf : Fresh W pv pv') (hk2 : Kept (foot D g pv') W1 W2) {v : Value} {R : List ByteArray} (hv : StrsIn W0 v R) (hg : 0 < R.length → ∀ q, sBlock v = some q → G q) :
    StrsIn W2 v R ∧ StrsIn W2 mv A ∧ Below w.heap.size w W2 ∧ (∀ q, foot D g pv' q → w.heap.size ≤ q) := by
  have hgr := h.grown
  have hblk : ∀ q, q < W.heap.size → ¬ lfoot L D g pv q → W2.heap[q]? = W.heap[q]? := by
    intro q hq hn
    have h1 : ¬ foot D g pv q := fun e1 => hn (.inr e1)
    have h2 : ¬ foot D g pv' q := by
      rintro (e1 | e1 | e1)
      · exact h1 (.inl e1)
      · exact h1 (.inr (.inl e1))
      · rcases hf q e1 with e2 | e2
        · exact h1 (.inr (.inr e2))
        · omega
    exact (hk2.block q (Nat.lt_of_lt_of_le hq hk.size) h2).trans (hk.block q hq h1)
  have hlv : ∀ q, foot D g pv' q → w.heap.size ≤ q := by
    rintro q (e1 | e1 | e1)
    · exact h.live q (.inr (.inl e1))
    · exact h.live q (.inr (.inr (.inl e1)))
    · rcases hf q e1 with e2 | e2
      · exact h.live q (.inr (.inr (.inr e2)))
      · exact Nat.le_trans h.below.size e2
  have hb1 := h.below.trans (hk.below w.heap.size h.below.size (fun q hq => h.live q (.inr hq)))
  refine ⟨strs_kept hv (fun h0 q hq => ?_), strs_kept (own_strs h.more) (fun _ q hq => ?_), hb1.trans (hk2.below w.heap.size hb1.size hlv), hlv⟩
  · have hG := hg h0 q hq
    obtain ⟨g1, g2, g3⟩ := h.guard q hG
    exact (hblk q (by omega) g3).trans (h.same q hG)
  · rw [sBlock_own] at hq
    exact hblk q (h.more.lt q hq).2 (h.moreF q hq)
theorem ints_at {B : Nat} {w W : World} {v : Value} {sv : List Int} (h : IntsUnder B w v sv) (hb : Below B w W) {F : Nat → Prop} (hF : ∀ q, F q → B ≤ q) : IntsAt W F v sv := by
  obtain ⟨ao, cap, rfl, hc⟩ := h.below hb
  refine ⟨ao, cap, rfl, fun h0 => ?_⟩
  obtain ⟨b, o, e, hB, hcj⟩ := hc h0
  exact ⟨b, o, e, fun e1 => by have := hF b e1; omega, hcj⟩
end Go.Proofs.Ytlhnhhjpjkgogaa.wl
