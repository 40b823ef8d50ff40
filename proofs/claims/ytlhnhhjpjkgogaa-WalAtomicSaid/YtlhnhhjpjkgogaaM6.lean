/- The start of a World, and a log to which records are appended behind a synchronization. What Open finds behind a crash while a Checkpoint was under way: the old records or the new ones; the next Checkpoint succeeds, and its records are found. No program is walked here but Open. A World of the log's laws in memory while a Checkpoint may be interrupted; three calls that only bear records. -/
import Derived.Test.YtlhnhhjpjkgogaaWDo
import Derived.Test.YtlhnhhjpjkgogaaM3
import Derived.Test.YtlhnhhjpjkgogaaWSame
namespace Go.Proofs.Ytlhnhhjpjkgogaa.wl
open Go.RowKit Go.Proofs.Ytlhnhhjpjkgogaa.agg Go.Proofs.Ytlhnhhjpjkgogaa.dk
set_option linter.unusedSimpArgs false
set_option linter.unusedVariables false

theorem startX_at (n i : Nat) (hi : i < n) : (startX n).getD i [] = if i = 0 then (rootFr 1 (0 : Nat)).sec else zeros := by
  unfold startX
  by_cases h : i = 0
  · subst h
    rw [if_pos rfl, List.getD_eq_getElem?_getD, List.getElem?_set_self (by simpa using hi)]
    rfl
  · rw [if_neg h, getD_set_other _ _ _ _ _ (fun e => h e.symm), List.getD_eq_getElem?_getD, List.getElem?_replicate, if_pos hi]
    rfl
theorem zeros_3 : zeros.getD 3 0 = 0 := by decide +kernel
theorem sess_start (n : Nat) (h8 : 8 ≤ n) (h : n ≤ 1000) : Sess n ((n - 2) / 2) 0 0 1 [] (startX n) := by
  have hg := root_good 1 0 ⟨by omega, by omega⟩
  have hr3 : (rootFr 1 (0 : Nat)).sec.getD 3 0 = 1 := (sec_epoch hg (by show (1 : Int) < 256; omega)).2.2.2.1
  refine ⟨by simp [startX], ⟨h8, h⟩, rfl, .inl rfl, .inl rfl, ⟨by omega, by omega⟩, fun i hi => ?_, fun i hi => ?_, ?_, ?_, trivial, fun i _ hi => ?_, Nat.zero_le _⟩
  · rw [startX_at n i hi]
    split
    · rename_i h0
      rw [h0]
      have := okay_frame hg (by show (1 : Int) < 256; omega)
      rw [posOf_root (.inl rfl)]
      exact this
    · exact okay_zeros _
  · rw [startX_at n i hi]
    split
    · rw [hr3]; exact Int.le_refl _
    · rw [zeros_3]; omega
  · unfold frs
    rw [startX_at n 0 (by omega), if_pos rfl, frOf_sec hg]
  · rw [startX_at n (1 - 0) (by omega), if_neg (by omega), zeros_3]
    omega
  · rw [startX_at n _ (by omega), if_neg (by omega), zeros_3]
    omega
theorem sy_start {w w' : World} {n : Nat} {Q L D g : Nat} {pv : Value} (h8 : 8 ≤ n) (h : n ≤ 1000) (hl : LogIn w' L D g pv (startSt n) ⟨1, 0, 0, 0, 0⟩) (hbox : w'.heap[Q]? = some (.cells (wcellsL D L (.slice none 0 0) (.slice none 0 0) (.slice none 0 0) false) 66 (0, 0)))
    (hlive : ∀ b, lfoot L D g pv b → w.heap.size ≤ b) (hF : ¬ lfoot L D g pv Q) (hQ : w.heap.size ≤ Q) (hb : Below w.heap.size w w') : SyAt w Q L D g n ((n - 2) / 2) 0 0 1 0 [] [] 0 w' := by
  obtain ⟨_, h2, h3⟩ := start_fine n h8
  exact ⟨pv, startSt n, startX n, _, _, _, _, hl, hlive, hbox, hQ, hF, h2, sess_start n h8 h, rfl, by rw [h3]; simp, ⟨none, 0, rfl, fun j hj => by simp at hj⟩, fun h0 => by simp at h0, World.ownsRow_nil _ _ _ _, by simp [Value.ownBlock], fun q hq => by simp [Value.ownBlock] at hq, hb⟩
/-- What writes leave that all come off. -/
theorem writes_puts : ∀ (l : List (Int × List Int)) {X : List (List Int)} {st : St}, Fine X st → (∀ x ∈ l, 0 ≤ x.1 ∧ x.1 < X.length ∧ x.2.length = 64) → (writes st l).1.pend = st.pend ++ l
  | [], X, st, _, _ => by simp [writes]
  | x :: l, X, st, h, hl => by
    obtain ⟨h1, h2, h3⟩ := hl x (by simp)
    obtain ⟨i, hi⟩ : ∃ i : Nat, x.1 = (i : Int) := ⟨x.1.toNat, by omega⟩
    have hw := h.write i (by omega) x.2 h3
    have e : st.write i x.2 = ({ st with pend := st.pend ++ [((i : Int), x.2)], wr := wrap64 (st.wr + 1) }, 0) := by
      unfold St.write
      rw [if_neg (by rw [h.len]; omega), h.call, if_neg (by simp [h.ok])]
    rw [writes_ok (by rw [hi]; exact hw.1), hi, writes_puts l hw.2 (fun y hy => by rw [List.length_set]; exact hl y (by simp [hy])), e]
    simp only [List.append_assoc, List.singleton_append]
    rw [show ((i : Int), x.2) = x by rw [← hi]]
theorem append_puts {X : List (List Int)} {st : St} {a b e t s : Nat} (h : Fine X st) (h8 : 8 ≤ X.length) (hs : s = (X.length - 2) / 2) (ha : a = 0 ∨ a = 1) (r : ByteArray) (hr : r.size ≤ 65536) (hfit : t + nfr r ≤ s) :
    ∃ st', appendLg st ⟨e, b, a, t, 0⟩ r = (st', ⟨e, b, a, ((t + nfr r : Nat) : Int), 0⟩, 0) ∧ Fine (laidF ((2 + a * s : Nat) : Int) X (framesOf r e t)) st' ∧ st'.dur = st.dur ∧ st'.pend = st.pend ++ putsOf s a (framesOf r e t) := by
  obtain ⟨st', p1, p2, _⟩ := append_fine (e := e) (b := b) h h8 hs ha r hr hfit
  have hsz := size_fine h (by omega)
  rw [← hs] at hsz
  have e1 : appendLg st ⟨e, b, a, t, 0⟩ r = ((writes st (placed st a (framesOf r e t))).1,
      if (writes st (placed st a (framesOf r e t))).2 = 0 then ⟨e, b, a, ((t : Int) + nfr r), 0⟩ else ⟨e, b, a, t, (writes st (placed st a (framesOf r e t))).2⟩, (writes st (placed st a (framesOf r e t))).2) := by
    unfold appendLg
    rw [if_neg (by simp), if_neg (by rw [hsz]; simp only; omega)]
  rw [e1] at p1
  have e2 : st' = (writes st (placed st a (framesOf r e t))).1 := (congrArg Prod.fst p1).symm
  have e3 : placed st a (framesOf r e t) = putsOf s a (framesOf r e t) := by
    unfold placed putsOf placeOf
    rw [hsz]
    apply List.map_congr_left
    intro f _
    congr 1
  refine ⟨st', by rw [e1]; exact p1, p2, by rw [e2]; exact writes_dur _ _, ?_⟩
  rw [e2, e3]
  refine writes_puts _ h (fun x hx => ?_)
  unfold putsOf at hx
  obtain ⟨f, hf, rfl⟩ := List.mem_map.1 hx
  obtain ⟨h1, h2, h3⟩ := frames_rng r e t f hf
  refine ⟨by simp only; omega, ?_, f.length_sec h1⟩
  simp only
  rcases ha with rfl | rfl <;> omega
/-- The memory while records are appended behind a synchronization. -/
structure Late (w W0 : World) (G : Nat → Prop) (L D g n S a b e t : Nat) (X0 : List (List Int)) (A : List ByteArray) (mv : Value) (W : World) (pv : Value) (st : St) (X : List (List Int)) : Prop where
  log : LogIn W L D g pv st ⟨e, b, a, ((t + needN A : Nat) : Int), 0⟩
  live : ∀ q, lfoot L D g pv q → w.heap.size ≤ q
  fine : Fine X st
  xl : X.length = n
  dur : st.dur = X0
  pend : st.pend = putsOf S a (recFrames A e t)
  guard : ∀ q, G q → q < W0.heap.size ∧ w.heap.size ≤ q ∧ ¬ lfoot L D g pv q
  same : ∀ q, G q → W.heap[q]? = W0.heap[q]?
  more : W.ownsRow W0.heap.size 9 1 mv A.length (strsV A)
  moreF : ∀ q, mv.ownBlock = some q → ¬ lfoot L D g pv q
  below : Below w.heap.size w W
  grown : W0.heap.size ≤ W.heap.size
  room : t + needN A ≤ S
  old : w.heap.size ≤ W0.heap.size
def LateAt (w W0 : World) (G : Nat → Prop) (L D g n S a b e t : Nat) (X0 : List (List Int)) (A : List ByteArray) (mv : Value) (W : World) : Prop := ∃ pv st X, Late w W0 G L D g n S a b e t X0 A mv W pv st X
theorem Late.quiet {w W0 W W' : World} {G : Nat → Prop} {L D g n S a b e t : Nat} {X0 : List (List Int)} {A : List ByteArray} {mv : Value} {pv : Value} {st : St} {X : List (List Int)} (h : Late w W0 G L D g n S a b e t X0 A mv W pv st X) (hb : Below W.heap.size W W') : Late w W0 G L D g n S a b e t X0 A mv W' pv st X :=
  ⟨h.log.below hb, h.live, h.fine, h.xl, h.dur, h.pend, h.guard, fun q hq => (hb.block q (Nat.lt_of_lt_of_le (h.guard q hq).1 h.grown)).trans (h.same q hq), ownsRow_same h.more (fun k hk => hb.block k (h.more.lt k hk).2), h.moreF, h.below.trans (hb.mono h.below.size), Nat.le_trans h.grown hb.size, h.room, h.old⟩
theorem Late.turn {w W0 W W' : World} {G : Nat → Prop} {L D g n S a b e t : Nat} {X0 : List (List Int)} {A : List ByteArray} {mv : Value} {pv : Value} {st : St} {X : List (List Int)} (h : Late w W0 G L D g n S a b e t X0 A mv W pv st X)
    {pv' : Value} (hk : Kept (lfoot L D g pv) W W') (hf : Fresh W pv pv') :
    (∀ q, lfoot L D g pv' q → w.heap.size ≤ q) ∧ (∀ q, G q → q < W0.heap.size ∧ w.heap.size ≤ q ∧ ¬ lfoot L D g pv' q) ∧ (∀ q, G q → W'.heap[q]? = W0.heap[q]?) ∧ W'.ownsRow W0.heap.size 9 1 mv A.length (strsV A) ∧ (∀ q, mv.ownBlock = some q → ¬ lfoot L D g pv' q) ∧ Below w.heap.size w W' ∧ W0.heap.size ≤ W'.heap.size := by
  have hnew : ∀ q, q < W.heap.size → ¬ lfoot L D g pv q → ¬ lfoot L D g pv' q := by
    rintro q hq hn (e1 | e1 | e1 | e1)
    · exact hn (.inl e1)
    · exact hn (.inr (.inl e1))
    · exact hn (.inr (.inr (.inl e1)))
    · rcases hf q e1 with e2 | e2
      · exact hn (.inr (.inr (.inr e2)))
      · omega
  have hg := h.grown
  refine ⟨?_, fun q hq => ?_, fun q hq => ?_, ownsRow_same h.more (fun k hk' => hk.block k (h.more.lt k hk').2 (h.moreF k hk')), fun q hq => hnew q (h.more.lt q hq).2 (h.moreF q hq), h.below.trans (hk.below w.heap.size h.below.size h.live), Nat.le_trans hg hk.size⟩
  · rintro q (e1 | e1 | e1 | e1)
    · exact h.live q (.inl e1)
    · exact h.live q (.inr (.inl e1))
    · exact h.live q (.inr (.inr (.inl e1)))
    · rcases hf q e1 with e2 | e2
      · exact h.live q (.inr (.inr (.inr e2)))
      · exact Nat.le_trans h.below.size e2
  · obtain ⟨h1, h2, h3⟩ := h.guard q hq
    exact ⟨h1, h2, hnew q (by omega) h3⟩
  · obtain ⟨h1, h2, h3⟩ := h.guard q hq
    exact (hk.block q (by omega) h3).trans (h.same q hq)
/-- A record more. -/
theorem Late.add {w W0 W W1 W3 W4 : World} {G : Nat → Prop} {L D g n S a b e t : Nat} {X0 : List (List Int)} {A : List ByteArray} {mv : Value} {pv : Value} {st : St} {X : List (List Int)} (h : Late w W0 G L D g n S a b e t X0 A mv W pv st X)
    {pv' : Value} {st' : St} {X' : List (List Int)} {r : ByteArray} {g' cap' : Nat} (hl : LogIn W1 L D g pv' st' ⟨e, b, a, ((t + needN A + nfr r : Nat) : Int), 0⟩) (hk : Kept (lfoot L D g pv) W W1) (hf : Fresh W pv pv') (hb : Below W1.heap.size W1 W3)
    (hown : W4.ownsRow W0.heap.size 9 1 (.slice (some ⟨g', 0, none⟩) (A.length + 1) cap') (A.length + 1) (strsV A ++ [.string r])) (hgr : W3.grownBy W4 mv.ownBlock) (hnew : mv.ownBlock = some g' ∨ g' = W3.heap.size)
    (hX : Fine X' st') (hxl : X'.length = n) (hd : st'.dur = st.dur) (hp : st'.pend = st.pend ++ putsOf S a (framesOf r e ((t + needN A : Nat) : Int))) (hfit : t + needN A + nfr r ≤ S) :
    LateAt w W0 G L D g n S a b e t X0 (A ++ [r]) (.slice (some ⟨g', 0, none⟩) (A.length + 1) cap') W4 := by
  obtain ⟨f1, f2, f3, f4, f5, f6, f7⟩ := h.turn hk hf
  have hs13 := hb.size
  have hs34 := hgr.size
  have hl3 := hl.below hb
  have hkF : Kept (fun q => mv.ownBlock = some q) W3 W4 := Kept.grown (F := fun q => mv.ownBlock = some q) hgr (fun k hk => hk)
  have hmb : ∀ q, mv.ownBlock = some q → W0.heap.size ≤ q := fun q hq => (f4.lt q hq).1
  have hg'F : ¬ lfoot L D g pv' g' := by
    rcases hnew with e1 | e1
    · exact f5 g' e1
    · intro e2
      have := hl3.lt _ e2
      omega
  refine ⟨pv', st', X', ?_⟩
  refine ⟨?_, f1, hX, hxl, hd.trans h.dur, ?_, f2, fun q hq => ?_, ?_, fun q hq => ?_, f6.trans ((hb.mono f6.size).trans (hkF.below w.heap.size (Nat.le_trans f6.size hs13) (fun q hq => Nat.le_trans h.old (hmb q hq)))), Nat.le_trans f7 (Nat.le_trans hs13 hs34), ?_, h.old⟩
  · rw [needN_snoc, ← Nat.add_assoc]
    exact hl3.kept hkF (fun k h1 h2 => f5 k h2 h1)
  · rw [hp, h.pend, recFrames_snoc]
    unfold putsOf
    rw [List.map_append]
    congr 3
  · obtain ⟨h1, h2, h3⟩ := f2 q hq
    exact (hkF.block q (by omega) (fun e1 => by have := hmb q e1; omega)).trans ((hb.block q (by omega)).trans (f3 q hq))
  · rw [strsV_app, List.length_append]
    exact hown
  · have e2 : g' = q := by simpa [Value.ownBlock] using hq
    exact e2 ▸ hg'F
  · rw [needN_snoc]
    omega
theorem ag_actS : IsAgg Try.prog 49 4 := ⟨fun _ => by kernel_rfl, fun _ => by kernel_rfl⟩
theorem size_actS (x : ActW) : x.cells.size = 4 := rfl
theorem over_actS (x : ActW) : overrow #[Value.int .i64 0, .slice none 0 0, .slice none 0 0, .int .i64 0] 0 x.cells = x.cells := overrow_whole rfl
theorem one_actS {B : Nat} {w : World} {v : Value} {l : List ActW} (h : ActsW B w v l) {x : ActW} (hx : x ∈ l) : oneCells x.cells = true := by
  obtain ⟨_, _, e1, _⟩ := h.strs x hx
  obtain ⟨_, _, e2, _⟩ := h.ints x hx
  unfold ActW.cells
  rw [e1, e2]
  rfl
section
variable {a : Act} {w : World} {K : Act → World → Prop} {Q : Exit → Act → World → Prop} {dst : Option Tmp} {ty : TypeId} {pos : String} {aft : Array Edge} {gd : Option (Nat × Bool)}
theorem load_actS (x : Operand) (h : aggOk w (a.eval x) 4 = true) : Oper.wp Try.prog ⟨dst, .load 49 x, ty, pos, aft, gd⟩ a w K Q = K (a.put dst (aggAt w (a.eval x) 4)) w := wp_load_agg ag_actS x h
theorem store_actS (x y : Operand) (h : aggOk w (a.eval x) 4 = true) (hy : plain (a.eval y) 4 = true) : Oper.wp Try.prog ⟨dst, .store 49 x y, ty, pos, aft, gd⟩ a w K Q = K (a.put dst undef) (putRow w (a.eval x) (cellsOf (a.eval y))) := wp_store_agg ag_actS x y h hy
end
theorem cut_actS (x : ActW) : cut x.cells 0 4 = .agg x.cells := cut_whole rfl
theorem sBlock_own (v : Value) : sBlock v = v.ownBlock := by
  cases v with
  | slice a l c => cases a <;> rfl
  | _ => rfl
/-- A crash and Open leave the lists. -/
theorem Late.last {w W0 W W1 W2 : World} {G : Nat → Prop} {L D g n S a b e t : Nat} {X0 : List (List Int)} {A : List ByteArray} {mv : Value} {pv : Value} {st : St} {X : List (List Int)} (h : Late w W0 G L D g n S a b e t X0 A mv W pv st X)
    {pv' : Value} (hk : Kept (foot D g pv) W W1) (hf : Fresh W pv pv') (hk2 : Kept (foot D g pv') W1 W2) {v : Value} {R : List ByteArray} (hv : StrsIn W0 v R) (hg : 0 < R.length → ∀ q, sBlock v = some q → G q) :
    StrsIn W2 v R ∧ StrsIn W2 mv A ∧ Below w.heap.size w W2 ∧ (∀ q, foot D g pv' q → w.heap.size ≤ q) := by
  have hgr := h.grown
  have hblk : ∀ q, q < W.heap.size → ¬ lfoot L D g pv q → W2.heap[q]? = W.heap[q]? := by
    intro q hq hn
    have h1 : ¬ foot D g pv q := fun e1 => hn (.inr e1)
    have h2 : ¬ foot D g pv' q := by
      rintro (e1 | e1 | e1)
      · exact h1 (.inl e1)
      · exact h1 (.inr (.inl e1))
      · rcases hf q e1 with e2 | e2
        · exact h1 (.inr (.inr e2))
        · omega
    exact (hk2.block q (Nat.lt_of_lt_of_le hq hk.size) h2).trans (hk.block q hq h1)
  have hlv : ∀ q, foot D g pv' q → w.heap.size ≤ q := by
    rintro q (e1 | e1 | e1)
    · exact h.live q (.inr (.inl e1))
    · exact h.live q (.inr (.inr (.inl e1)))
    · rcases hf q e1 with e2 | e2
      · exact h.live q (.inr (.inr (.inr e2)))
      · exact Nat.le_trans h.below.size e2
  have hb1 := h.below.trans (hk.below w.heap.size h.below.size (fun q hq => h.live q (.inr hq)))
  refine ⟨strs_kept hv (fun h0 q hq => ?_), strs_kept (own_strs h.more) (fun _ q hq => ?_), hb1.trans (hk2.below w.heap.size hb1.size hlv), hlv⟩
  · have hG := hg h0 q hq
    obtain ⟨g1, g2, g3⟩ := h.guard q hG
    exact (hblk q (by omega) g3).trans (h.same q hG)
  · rw [sBlock_own] at hq
    exact hblk q (h.more.lt q hq).2 (h.moreF q hq)
theorem ints_at {B : Nat} {w W : World} {v : Value} {sv : List Int} (h : IntsUnder B w v sv) (hb : Below B w W) {F : Nat → Prop} (hF : ∀ q, F q → B ≤ q) : IntsAt W F v sv := by
  obtain ⟨ao, cap, rfl, hc⟩ := h.below hb
  refine ⟨ao, cap, rfl, fun h0 => ?_⟩
  obtain ⟨b, o, e, hB, hcj⟩ := hc h0
  exact ⟨b, o, e, fun e1 => by have := hF b e1; omega, hcj⟩
end Go.Proofs.Ytlhnhhjpjkgogaa.wl
namespace Go.Proofs.Ytlhnhhjpjkgogaa.wl
open Go.RowKit Go.Proofs.Ytlhnhhjpjkgogaa.agg Go.Proofs.Ytlhnhhjpjkgogaa.dk
set_option linter.unusedSimpArgs false
set_option linter.unusedVariables false

/-- What a disk shows from which Open takes records. -/
structure Shows (n S a b : Nat) (E B : Int) (R : List ByteArray) (C : List (List Int)) : Prop where
  len : C.length = n
  n8 : 8 ≤ n ∧ n ≤ 1000
  hS : S = (n - 2) / 2
  ha : a = 0 ∨ a = 1
  hb : b = 0 ∨ b = 1
  e1 : 1 ≤ E ∧ B < 255
  okay : ∀ i, i < n → Okay (posOf S i) (C.getD i [])
  top : ∀ i, i < n → (C.getD i []).getD 3 0 ≤ B
  sup : frs C b = some (rootFr E a)
  other : ∀ f, frs C (1 - b) = some f → f.epoch < E
  held : Holds (areaOf (frs C) S a) (R.map (fun r => (r, E))) 0
  stale : ∀ i, needN R ≤ i → ∀ f, areaOf (frs C) S a i = some f → f.epoch < E
  room : needN R ≤ S
theorem Sess.shows {n S a b : Nat} {E : Int} {R : List ByteArray} {X : List (List Int)} (h : Sess n S a b E R X) (hE : E < 255) : Shows n S a b E E R X := by
  have h8 := h.n8
  have hS := h.hS
  refine ⟨h.len, h.n8, h.hS, h.ha, h.hb, ⟨h.e1.1, hE⟩, h.okay, h.top, h.sup, fun f hf => ?_, h.held, fun i hi f hf => ?_, h.room⟩
  · rw [frs_epoch h.okay (by rcases h.hb with e | e <;> omega) hf]
    exact h.other
  · unfold areaOf at hf
    split at hf
    · rename_i hiS
      rw [frs_epoch h.okay (area_in hS h8.1 h.ha hiS) hf]
      exact h.stale i hi hiS
    · simp at hf
theorem Shows.open_ {w : World} {D g : Nat} {pv : Value} {st : St} {n S a b : Nat} {E B : Int} {R : List ByteArray} {C : List (List Int)} (hs : Shows n S a b E B R C) (h : DiskIn w D g pv st) (hd : st.dur = C) (hp : st.pend = []) (hf : st.failed = false) :
    ∃ gr fin : Int, E ≤ gr ∧ gr ≤ B ∧ Calls Try.prog 12 #[.pointer (some ⟨D, 0, none⟩)] w (OpenEnd w D g pv (reads st n) ⟨gr + 1, b, a, fin, 0⟩ R) := by
  have h8 := hs.n8
  have hS := hs.hS
  have hbl : b < 2 := by rcases hs.hb with e | e <;> omega
  obtain ⟨t, ht⟩ : ∃ t, S = needN R + t := ⟨S - needN R, by have := hs.room; omega⟩
  obtain ⟨fin', hra, _, _⟩ := read_all (R.map (fun r => (r, E))) 0 t [] E E 0 hs.held (tags_same R E)
  rw [map_fst, lastTag_same, List.nil_append, Nat.zero_add] at hra
  have hst : Stops (areaOf (frs C) S a) E (needN R) t := Stops.first (fun f hf => hs.stale _ (Nat.le_refl _) f hf)
  obtain ⟨gr, _, g2, g3, hcall⟩ := open_at (B := B) h hd hp hf hs.len h8.1 hS hs.ha hs.hb (fun i hi => (hs.okay i hi).sec) hs.sup hs.other ⟨by have h1 := hs.top b (by omega); have h2 := hs.e1; have h3 := frs_epoch hs.okay (by omega) hs.sup; have h4 : (rootFr E (a : Int)).epoch = E := rfl; omega, by have := hs.e1; omega⟩ (fun i hi f hf => by
    rw [frs_epoch hs.okay hi hf]
    exact hs.top i hi)
  have hge : E ≤ gr := g3 b (by omega) _ hs.sup
  have hrun : (runA (areaOf (frs C) S a) S 0 ⟨[], E, ⟨#[]⟩, false, 0⟩).recs = R := by
    rw [← ht] at hra
    rw [hra]
    exact (hst.run R fin').1
  rw [hrun] at hcall
  exact ⟨gr, _, hge, g2, hcall⟩
theorem Shows.base {n S a b : Nat} {E B : Int} {R : List ByteArray} {C : List (List Int)} (hs : Shows n S a b E B R C) {gr : Int} (h1 : E ≤ gr) (h2 : gr ≤ B) (h3 : B ≤ gr + 1) : Base n S a b (gr + 1) C :=
  ⟨hs.len, hs.n8, hs.hS, hs.ha, hs.hb, ⟨by have := hs.e1; omega, by have := hs.e1; omega⟩, hs.okay, fun i hi => Int.le_trans (hs.top i hi) h3⟩
/-- The disk behind a crash works. -/
theorem okay_fine {n S : Nat} {C : List (List Int)} {st : St} (hlen : C.length = n) (hok : ∀ i, i < n → Okay (posOf S i) (C.getD i [])) (hd : st.dur = C) (hp : st.pend = []) (hf : st.failed = false) (hl : st.left = -1) : Fine C st := by
  refine ⟨hf, hl, by rw [hd], fun s hs => ?_, by rw [hp]; simp, by rw [hp]; simp, fun i hi => ?_⟩
  · rw [hd] at hs
    obtain ⟨i, hi, rfl⟩ := List.mem_iff_getElem.1 hs
    have := (hok i (by omega)).sec.len
    rw [List.getD_eq_getElem?_getD, List.getElem?_eq_getElem hi] at this
    exact this
  · unfold St.visible
    rw [hp, hd]
    rfl
/-- Checkpoint on a disk that works, whatever end the log bears. -/
theorem check_fine' {X : List (List Int)} {st : St} {a b e s : Nat} {fin : Int} (h : Fine X st) (h8 : 8 ≤ X.length) (hs : s = (X.length - 2) / 2) (ha : a = 0 ∨ a = 1) (hb : b = 0 ∨ b = 1) (he : e < 4294967295) (recs : List ByteArray) (hfit : needN recs ≤ s) :
    ∃ st', checkLg st ⟨e, b, a, fin, 0⟩ recs = (st', ⟨((e + 1 : Nat) : Int), ((1 - b : Nat) : Int), ((1 - a : Nat) : Int), ((needN recs : Nat) : Int), 0⟩, 0) ∧ Fine (checkX X s a b e recs) st' ∧ st'.pend = [] := by
  have hsz := size_fine h (by omega)
  rw [← hs] at hsz
  have ea : (1 : Int) - (a : Int) = ((1 - a : Nat) : Int) := by omega
  have eb : (1 : Int) - (b : Int) = ((1 - b : Nat) : Int) := by omega
  have ee : (e : Int) + 1 = ((e + 1 : Nat) : Int) := by omega
  have hbase : ((2 + (1 - a) * s : Nat) : Int) = 2 + ((1 - a : Nat) : Int) * sizeOf' st := by rw [hsz]; simp
  have hw := Fine.writes hbase (recFrames recs ((e + 1 : Nat) : Int) 0) h rfl (fun f hf => by
    obtain ⟨h1, h2, h3⟩ := recFrames_rng _ recs 0 f hf
    refine ⟨h1, by omega, ?_⟩
    rcases ha with rfl | rfl <;> omega)
  have hfl := hw.2.flush
  have hr := hfl.2.1.root (1 - b) (by rw [laidF_len]; omega) ((e + 1 : Nat) : Int) ((1 - a : Nat) : Int)
  refine ⟨_, ?_, hr.2.1, hr.2.2⟩
  unfold checkLg
  rw [if_neg (by simp), if_neg (by rw [hsz]; simp only; omega)]
  simp only
  rw [ea, ee]
  unfold recWrites checkEnd
  rw [if_neg (by rw [hw.1]; simp), if_neg (by rw [hfl.1]; simp)]
  simp only
  rw [ea, eb, ee, if_neg (by rw [hr.1]; simp)]
/-- One write of a disk that may fail. -/
theorem write_may (st : St) (x : Int × List Int) (h0 : 0 ≤ x.1) (hn : x.1 < st.dur.length) : ((st.write x.1 x.2).2 = 0 ∧ (st.write x.1 x.2).1.pend = st.pend ++ [x]) ∨ ((st.write x.1 x.2).2 = 12 ∧ (st.write x.1 x.2).1.pend = st.pend) := by
  unfold St.write
  rw [if_neg (by omega)]
  split
  · exact .inr ⟨rfl, st.call_pend⟩
  · exact .inl ⟨rfl, rfl⟩
/-- Writes of a disk that may fail: a front of them comes off. -/
theorem writes_may : ∀ (l : List (Int × List Int)) (st : St), (∀ x ∈ l, 0 ≤ x.1 ∧ x.1 < st.dur.length) → ∃ l1 l2, l = l1 ++ l2 ∧ (writes st l).1.pend = st.pend ++ l1 ∧ (((writes st l).2 = 0 ∧ l2 = []) ∨ (writes st l).2 = 12)
  | [], st, _ => ⟨[], [], rfl, by simp [writes], .inl ⟨rfl, rfl⟩⟩
  | x :: l, st, h => by
    have hx := h x (by simp)
    rcases write_may st x hx.1 hx.2 with ⟨e1, e2⟩ | ⟨e1, e2⟩
    · rw [writes_ok e1]
      obtain ⟨l1, l2, g1, g2, g3⟩ := writes_may l (st.write x.1 x.2).1 (fun y hy => by rw [write_dur]; exact h y (by simp [hy]))
      exact ⟨x :: l1, l2, by rw [g1]; rfl, by rw [g2, e2]; simp, g3⟩
    · rw [writes_no (by rw [e1]; simp)]
      exact ⟨[], x :: l, rfl, by rw [e2]; simp, .inr e1⟩
theorem flush_may (st : St) : (st.flush.2 = 0 ∧ st.flush.1.dur = layAll st.dur st.pend ∧ st.flush.1.pend = []) ∨ (st.flush.2 = 12 ∧ st.flush.1.dur = st.dur ∧ st.flush.1.pend = st.pend) := by
  unfold St.flush
  split
  · exact .inr ⟨rfl, st.call_dur, st.call_pend⟩
  · exact .inl ⟨rfl, rfl, rfl⟩
/-- The contents behind the records' frames. -/
theorem lay_frames {X : List (List Int)} {st : St} {a s : Nat} (h : Fine X st) (hp : st.pend = []) (hs : s = (X.length - 2) / 2) (h8 : 8 ≤ X.length) (ha : a = 0 ∨ a = 1) (E : Int) (M : List ByteArray) (hfit : needN M ≤ s) :
    layAll X (putsOf s a (recFrames M E 0)) = laidF ((2 + a * s : Nat) : Int) X (recFrames M E 0) ∧ placed st a (recFrames M E 0) = putsOf s a (recFrames M E 0) ∧ ∀ x ∈ putsOf s a (recFrames M E 0), 0 ≤ x.1 ∧ x.1 < X.length ∧ x.2.length = 64 := by
  have hsz := size_fine h (by omega)
  rw [← hs] at hsz
  have hbase : ((2 + a * s : Nat) : Int) = 2 + (a : Int) * sizeOf' st := by rw [hsz]; simp
  have e3 : placed st a (recFrames M E 0) = putsOf s a (recFrames M E 0) := by
    unfold placed putsOf placeOf
    rw [hsz]
    apply List.map_congr_left
    intro f _
    congr 1
  have hin : ∀ x ∈ putsOf s a (recFrames M E 0), 0 ≤ x.1 ∧ x.1 < X.length ∧ x.2.length = 64 := fun x hx => by
    unfold putsOf at hx
    obtain ⟨f, hf, rfl⟩ := List.mem_map.1 hx
    obtain ⟨h1, h2, h3⟩ := recFrames_rng E M 0 f hf
    refine ⟨by simp only; omega, ?_, f.length_sec h1⟩
    simp only
    rcases ha with rfl | rfl <;> omega
  have hw := Fine.writes hbase (recFrames M E 0) h rfl (fun f hf => by
    obtain ⟨h1, h2, h3⟩ := recFrames_rng E M 0 f hf
    refine ⟨h1, by omega, ?_⟩
    rcases ha with rfl | rfl <;> omega)
  have hpe := writes_puts (putsOf s a (recFrames M E 0)) h hin
  rw [e3] at hw
  have hfl := hw.2.flush
  have hvd := visible_dur hfl.2.1 hfl.2.2
  refine ⟨?_, e3, hin⟩
  rcases flush_may (writes st (putsOf s a (recFrames M E 0))).1 with ⟨_, e2, _⟩ | ⟨e1, _⟩
  · rw [writes_dur, hpe, hp, List.nil_append, visible_dur h hp] at e2
    rw [← e2]
    exact hvd
  · rw [hfl.1] at e1
    simp at e1
theorem lay_one {Y : List (List Int)} (hl : ∀ i, i < Y.length → (Y.getD i []).length = 64) (k : Nat) (hk : k < Y.length) (d : List Int) (hd : d.length = 64) : layAll Y [((k : Int), d)] = Y.set k d := by
  have hf : Fine Y ⟨Y, [], -1, false, 0, 0, 0, 0, []⟩ := ⟨rfl, rfl, rfl, fun s hs => by
    obtain ⟨i, hi, rfl⟩ := List.mem_iff_getElem.1 hs
    have := hl i hi
    rw [List.getD_eq_getElem?_getD, List.getElem?_eq_getElem hi] at this
    exact this, by simp, by simp, fun i _ => rfl⟩
  have hw := hf.write k hk d hd
  have hfl := hw.2.flush
  have hvd := visible_dur hfl.2.1 hfl.2.2
  rcases write_may ⟨Y, [], -1, false, 0, 0, 0, 0, []⟩ ((k : Int), d) (by simp) (by simpa using hk) with ⟨_, e2⟩ | ⟨e1, _⟩
  · rcases flush_may (St.write ⟨Y, [], -1, false, 0, 0, 0, 0, []⟩ k d).1 with ⟨_, g2, _⟩ | ⟨g1, _⟩
    · rw [write_dur, e2] at g2
      rw [← hvd, g2]
      rfl
    · rw [hfl.1] at g1
      simp at g1
  · rw [hw.1] at e1
    simp at e1
/-- The epochs that sectors bear behind a crash. -/
theorem crash_byte {n S a' : Nat} {E : Int} {X : List (List Int)} {M : List ByteArray} (sv : List Int) (hlen : X.length = n) (h8 : 8 ≤ n ∧ n ≤ 1000) (hS : S = (n - 2) / 2) (ha : a' = 0 ∨ a' = 1) (hE : 1 ≤ E ∧ E < 256) (hok : ∀ i, i < n → Okay (posOf S i) (X.getD i []))
    (hlow : ∀ i, i < n → (X.getD i []).getD 3 0 < E) (hfit : needN M ≤ S) (L : List Fr) (hL : ∃ L', recFrames M E ((0 : Nat) : Int) = L ++ L') (k : Nat) (hk : k < n) :
    ((layCrash sv X 0 (putsOf S a' L)).getD k []).getD 3 0 ≤ E := by
  obtain ⟨L', hL'⟩ := hL
  have hmem : ∀ f ∈ L, f ∈ recFrames M E ((0 : Nat) : Int) := fun f hf => by rw [hL']; exact List.mem_append_left _ hf
  have hrng : ∀ f ∈ L, ∃ i : Nat, 0 ≤ i ∧ i < 0 + needN M ∧ newAt M E 0 i = some f ∧ f.pos = i := fun f hf => recFrames_new E M 0 f (hmem f hf)
  have hup : L.Pairwise (fun f g => f.pos < g.pos) := by
    have := recFrames_up E M ((0 : Nat) : Int)
    rw [hL', List.pairwise_append] at this
    exact this.1
  have hcs := crash_sector sv k (putsOf S a' L) X 0 (by omega) (fun x hx => by
    obtain ⟨f, hf, rfl⟩ := List.mem_map.1 hx
    obtain ⟨i, _, _, _, h4⟩ := hrng f hf
    simp only
    omega) (by
    unfold putsOf
    rw [List.pairwise_map]
    refine hup.imp (fun {f g} hfg => ?_)
    simp only
    omega)
  rcases hcs with h | ⟨x, hx, hxk, t, ht, h⟩
  · rw [h]
    have := hlow k hk
    omega
  · obtain ⟨f, hf, rfl⟩ := List.mem_map.1 hx
    obtain ⟨i, h1, h2, h3, h4⟩ := hrng f hf
    have hki : k = 2 + a' * S + i := by simp only at hxk; omega
    have hgood : f.Good := by
      obtain ⟨r, q, j, e1, e2⟩ := newAt_some M E 0 i h1 h2
      rw [h3] at e1
      rw [Option.some.inj e1]
      exact frameAt_good hE (by omega)
    have hep : f.epoch = E := newAt_epoch _ _ _ _ _ h3
    have hpos : f.pos = posOf S k := by rw [hki, posOf_area ha (by omega), h4]
    have hto := torn_okay (k := t) (hok k hk) hgood (by rw [hep]; exact hE.2) hpos (by rw [hep]; exact hlow k hk) ht
    rw [h]
    have h5 := hto.2.2
    rw [hep] at h5
    exact h5
/-- A crash while the records' frames were pending, none of them certain: the old records. -/
theorem crash_old {n S a b : Nat} {E : Int} {R M : List ByteArray} {X : List (List Int)} (hs : Sess n S a b E R X) (sv : List Int) (hfit : needN M ≤ S) (hE : E + 1 < 255) (L : List Fr) (hL : ∃ L', recFrames M (E + 1) ((0 : Nat) : Int) = L ++ L') :
    Shows n S a b E (E + 1) R (layCrash sv X 0 (putsOf S (1 - a) L)) := by
  have h8 := hs.n8
  have hS := hs.hS
  have ha' : 1 - a = 0 ∨ 1 - a = 1 := by rcases hs.ha with e | e <;> omega
  have hlow : ∀ i, i < n → (X.getD i []).getD 3 0 < E + 1 := fun i hi => by have := hs.top i hi; omega
  have hE' : 1 ≤ E + 1 ∧ E + 1 < 256 := by have := hs.e1; omega
  have hca := fun k hk => crash_area (M := M) (p := 0) sv hs.len hs.n8 hs.hS ha' hE' hs.okay (fun i _ hi => hlow _ (area_in hS h8.1 ha' hi)) (by omega) L hL k hk
  have hcb := fun k hk => crash_byte (M := M) sv hs.len hs.n8 hs.hS ha' hE' hs.okay hlow hfit L hL k hk
  have hlenC : (layCrash sv X 0 (putsOf S (1 - a) L)).length = n := by rw [length_layCrash']; exact hs.len
  rw [← putsOf] at hca
  generalize layCrash sv X 0 (putsOf S (1 - a) L) = C at *
  have hbl : b < 2 := by rcases hs.hb with e | e <;> omega
  have hself : ∀ i, i < n → (i < 2 ∨ ∃ j, j < S ∧ i = 2 + a * S + j) → C.getD i [] = X.getD i [] := fun i hi hij => (hca i hi).2.2 (by
    rcases hij with h | ⟨j, hj, rfl⟩
    · omega
    · rcases hs.ha with e | e <;> rw [e] <;> simp <;> omega)
  have hfr : ∀ i, i < n → (i < 2 ∨ ∃ j, j < S ∧ i = 2 + a * S + j) → frs C i = frs X i := fun i hi hij => by unfold frs; rw [hself i hi hij]
  have har : ∀ i, areaOf (frs C) S a i = areaOf (frs X) S a i := fun i => by
    unfold areaOf
    split
    · rename_i hi
      exact hfr _ (area_in hS h8.1 hs.ha hi) (.inr ⟨i, hi, rfl⟩)
    · rfl
  have hsh := hs.shows (by omega)
  refine ⟨hlenC, h8, hS, hs.ha, hs.hb, ⟨hs.e1.1, hE⟩, fun i hi => (hca i hi).1, hcb, ?_, fun f hf => ?_, ?_, fun i hi f hf => ?_, hs.room⟩
  · rw [hfr b (by omega) (.inl hbl)]
    exact hs.sup
  · rw [hfr (1 - b) (by omega) (.inl (by omega))] at hf
    exact hsh.other f hf
  · exact holds_congr _ 0 (fun i _ _ => (har i).symm) hs.held
  · rw [har] at hf
    exact hsh.stale i hi f hf
/-- A crash while the superblock was pending: the old records or the new ones. -/
theorem crash_root {n S a b : Nat} {E : Int} {R M : List ByteArray} {X : List (List Int)} (hs : Sess n S a b E R X) (hfit : needN M ≤ S) (hE : E + 1 < 255) {Y : List (List Int)} (hY : Y = laidF ((2 + (1 - a) * S : Nat) : Int) X (recFrames M (E + 1) ((0 : Nat) : Int)))
    {C : List (List Int)} (hlen : C.length = n) (hC : ∀ i, i < n → i ≠ 1 - b → C.getD i [] = Y.getD i []) (hC2 : ∃ k, k ≤ 64 ∧ C.getD (1 - b) [] = torn (X.getD (1 - b) []) (rootFr (E + 1) ((1 - a : Nat) : Int)).sec k) :
    Shows n S a b E (E + 1) R C ∨ Shows n S (1 - a) (1 - b) (E + 1) (E + 1) M C := by
  have h8 := hs.n8
  have hS := hs.hS
  have ha' : 1 - a = 0 ∨ 1 - a = 1 := by rcases hs.ha with e | e <;> omega
  have hb' : 1 - b = 0 ∨ 1 - b = 1 := by rcases hs.hb with e | e <;> omega
  have hE' : 1 ≤ E + 1 ∧ E + 1 < 256 := by have := hs.e1; omega
  have hbl : b < 2 := by rcases hs.hb with e | e <;> omega
  have hbb : 1 - b ≠ b := by rcases hs.hb with e | e <;> omega
  have hh := hs.base.half M hfit (by omega)
  rw [← hY] at hh
  obtain ⟨k, hk, hCk⟩ := hC2
  have hrg := root_good (E + 1) (1 - a) hE'
  have hto := torn_okay (k := k) (hs.okay (1 - b) (by omega)) hrg (by show E + 1 < 256; omega) (by rw [posOf_root hb']; rfl) (by show _ < E + 1; have := hs.other; omega) hk
  rw [← hCk] at hto
  have hep : (rootFr (E + 1) ((1 - a : Nat) : Int)).epoch = E + 1 := rfl
  rw [hep] at hto
  have hokC : ∀ i, i < n → Okay (posOf S i) (C.getD i []) := fun i hi => by
    by_cases e : i = 1 - b
    · rw [e]; exact hto.1
    · rw [hC i hi e]; exact (hh i hi).1
  have htopC : ∀ i, i < n → (C.getD i []).getD 3 0 ≤ E + 1 := fun i hi => by
    by_cases e : i = 1 - b
    · rw [e]; exact hto.2.2
    · rw [hC i hi e]; exact (hh i hi).2.1
  have hself : ∀ i, i < n → i ≠ 1 - b → (i < 2 ∨ ∃ j, j < S ∧ i = 2 + a * S + j) → frs C i = frs X i := fun i hi hne hij => by
    unfold frs
    rw [hC i hi hne, (hh i hi).2.2.1 (by
      rcases hij with h | ⟨j, hj, rfl⟩
      · omega
      · rcases hs.ha with e | e <;> rw [e] <;> simp <;> omega)]
  have hold : (∀ f, frs C (1 - b) = some f → f.epoch < E) → Shows n S a b E (E + 1) R C := fun ho => by
    have har : ∀ i, areaOf (frs C) S a i = areaOf (frs X) S a i := fun i => by
      unfold areaOf
      split
      · rename_i hi
        exact hself _ (area_in hS h8.1 hs.ha hi) (by omega) (.inr ⟨i, hi, rfl⟩)
      · rfl
    have hsh := hs.shows (by omega)
    refine ⟨hlen, h8, hS, hs.ha, hs.hb, ⟨hs.e1.1, hE⟩, hokC, htopC, ?_, ho, ?_, fun i hi f hf => ?_, hs.room⟩
    · rw [hself b (by omega) (fun e => hbb e.symm) (.inl hbl)]
      exact hs.sup
    · exact holds_congr _ 0 (fun i _ _ => (har i).symm) hs.held
    · rw [har] at hf
      exact hsh.stale i hi f hf
  rcases hto.2.1 with e | e | e
  · refine .inl (hold fun f hf => ?_)
    have hf' : frs X (1 - b) = some f := by unfold frs at hf ⊢; rw [← e]; exact hf
    exact (hs.shows (by omega)).other f hf'
  · right
    have hCself : ∀ i, i < n → i ≠ 1 - b → frs C i = frs Y i := fun i hi hne => by unfold frs; rw [hC i hi hne]
    refine ⟨hlen, h8, hS, ha', hb', ⟨hE'.1, hE⟩, hokC, htopC, ?_, fun f hf => ?_, ?_, fun i hi f hf => ?_, hfit⟩
    · unfold frs
      rw [e, frOf_sec hrg]
    · rw [show 1 - (1 - b) = b by rcases hs.hb with e | e <;> omega, hself b (by omega) (fun e => hbb e.symm) (.inl hbl), hs.sup] at hf
      rw [← Option.some.inj hf]
      show E < E + 1
      omega
    · refine holds_new M 0 (fun i _ hi => ?_)
      unfold areaOf
      rw [if_pos (by omega), hCself _ (area_in hS h8.1 ha' (by omega)) (by omega)]
      exact (hh (2 + (1 - a) * S + i) (area_in hS h8.1 ha' (by omega))).2.2.2 i rfl (by omega)
    · unfold areaOf at hf
      split at hf
      · rename_i hiS
        have hin := area_in hS h8.1 ha' hiS
        rw [frs_epoch hokC hin hf, hC _ hin (by omega), (hh _ hin).2.2.1 (by omega)]
        have := hs.top _ hin
        omega
      · simp at hf
  · refine .inl (hold fun f hf => ?_)
    unfold frs frOf at hf
    rw [if_neg (by rw [e]; simp)] at hf
    simp at hf
/-- Whatever becomes of a Checkpoint on a disk that may fail, and of a crash behind it. -/
theorem atomic_plain {n S a b t : Nat} {E : Int} {R M : List ByteArray} {X : List (List Int)} {st : St} (hs : Sess n S a b E R X) (hX : Fine X st) (hp : st.pend = []) (hfit : needN M ≤ S) (hE : E + 1 < 255) (st0 : St) (hd0 : st0.dur = X) (hp0 : st0.pend = []) (z : St × Lg × Int) (hz : checkLg st0 ⟨E, b, a, t, 0⟩ M = z) :
    (z.2.2 = 0 ∨ (z.2.2 = 12 ∧ z.2.1.failed = 12)) ∧ z.1.pend.length ≤ n ∧ ∀ sv, ∃ a' b' E' R', E ≤ E' ∧ Shows n S a' b' E' (E + 1) R' (z.1.crash sv).dur ∧ (R' = M ∨ (z.2.2 = 12 ∧ R' = R)) := by
  have h8 := hs.n8
  have hS := hs.hS
  have hl := hs.len
  have ha' : 1 - a = 0 ∨ 1 - a = 1 := by rcases hs.ha with e | e <;> omega
  have hb' : 1 - b = 0 ∨ 1 - b = 1 := by rcases hs.hb with e | e <;> omega
  have hE' : 1 ≤ E + 1 ∧ E + 1 < 256 := by have := hs.e1; omega
  have hbl : b < 2 := by rcases hs.hb with e | e <;> omega
  have hsz0 : sizeOf' st0 = (S : Int) := by
    have := size_fine hX (by omega)
    rw [sizeOf_dur (show st0.dur = st.dur by rw [hd0, visible_dur hX hp]), this, hl, hS]
  obtain ⟨q1, q2, q3⟩ := lay_frames (a := 1 - a) hX hp (by rw [hl]; exact hS) (by omega) ha' (E + 1) M hfit
  have hpl : placed st0 ((1 : Int) - a) (recFrames M (E + 1) 0) = putsOf S (1 - a) (recFrames M (E + 1) 0) := by
    rw [show (1 : Int) - (a : Int) = ((1 - a : Nat) : Int) by rcases hs.ha with e | e <;> rw [e] <;> rfl, placed_dur (show st0.dur = st.dur by rw [hd0, visible_dur hX hp])]
    exact q2
  have hplen : (putsOf S (1 - a) (recFrames M (E + 1) 0)).length ≤ n := by unfold putsOf; rw [List.length_map, length_recFrames]; omega
  have eb : (1 : Int) - (b : Int) = ((1 - b : Nat) : Int) := by rcases hs.hb with e | e <;> rw [e] <;> rfl
  have ea : (1 : Int) - (a : Int) = ((1 - a : Nat) : Int) := by rcases hs.ha with e | e <;> rw [e] <;> rfl
  have hrl : (rootFr (E + 1) ((1 - a : Nat) : Int)).sec.length = 64 := (root_good (E + 1) (1 - a) hE').isSec.len
  obtain ⟨Y, hY⟩ : ∃ Y, Y = laidF ((2 + (1 - a) * S : Nat) : Int) X (recFrames M (E + 1) ((0 : Nat) : Int)) := ⟨_, rfl⟩
  have hYl : Y.length = n := by rw [hY, laidF_len]; exact hl
  have hh := hs.base.half M hfit (by omega)
  rw [← hY] at hh
  have hYr : Y.getD (1 - b) [] = X.getD (1 - b) [] := (hh (1 - b) (by omega)).2.2.1 (by omega)
  have hq1 : layAll X (putsOf S (1 - a) (recFrames M (E + 1) 0)) = Y := by rw [q1, hY]; rfl
  have torn0 : X.getD (1 - b) [] = torn (X.getD (1 - b) []) (rootFr (E + 1) ((1 - a : Nat) : Int)).sec 0 := by simp [torn]
  obtain ⟨l1, l2, w1, w2, w3⟩ := writes_may (putsOf S (1 - a) (recFrames M (E + 1) 0)) st0 (fun x hx => by rw [hd0]; exact ⟨(q3 x hx).1, (q3 x hx).2.1⟩)
  have wd := writes_dur (putsOf S (1 - a) (recFrames M (E + 1) 0)) st0
  have hzz : checkEnd ⟨E, b, a, t, 0⟩ (needN M) (writes st0 (putsOf S (1 - a) (recFrames M (E + 1) 0))) = z := by
    rw [← hz]
    unfold checkLg
    rw [if_neg (by simp), if_neg (by rw [hsz0]; have := hs.e1; simp only; omega)]
    unfold recWrites
    simp only
    rw [hpl]
  clear hz hpl
  generalize writes st0 (putsOf S (1 - a) (recFrames M (E + 1) 0)) = y at *
  rw [hd0] at wd
  rw [hp0, List.nil_append] at w2
  unfold checkEnd at hzz
  simp only at hzz
  rcases w3 with ⟨w3, w4⟩ | w3
  · rw [if_neg (by rw [w3]; simp)] at hzz
    rw [w4, List.append_nil] at w1
    rw [← w1] at w2
    rcases flush_may y.1 with ⟨f1, f2, f3⟩ | ⟨f1, f2, f3⟩
    · rw [if_neg (by rw [f1]; simp)] at hzz
      rw [wd, w2, hq1] at f2
      have hrt : ((rootSt y.1.flush.1 (1 - (b : Int)) (E + 1) (1 - (a : Int))).2 = 0 ∨ (rootSt y.1.flush.1 (1 - (b : Int)) (E + 1) (1 - (a : Int))).2 = 12) ∧ (rootSt y.1.flush.1 (1 - (b : Int)) (E + 1) (1 - (a : Int))).1.pend.length ≤ 1 ∧ ∀ sv,
          ((rootSt y.1.flush.1 (1 - (b : Int)) (E + 1) (1 - (a : Int))).1.crash sv).dur.length = n ∧ (∀ i, i < n → i ≠ 1 - b → ((rootSt y.1.flush.1 (1 - (b : Int)) (E + 1) (1 - (a : Int))).1.crash sv).dur.getD i [] = Y.getD i []) ∧
          (∃ k, k ≤ 64 ∧ ((rootSt y.1.flush.1 (1 - (b : Int)) (E + 1) (1 - (a : Int))).1.crash sv).dur.getD (1 - b) [] = torn (X.getD (1 - b) []) (rootFr (E + 1) ((1 - a : Nat) : Int)).sec k ∧ ((rootSt y.1.flush.1 (1 - (b : Int)) (E + 1) (1 - (a : Int))).2 = 0 → k = 64)) := by
        rw [ea, eb]
        unfold rootSt
        rcases write_may y.1.flush.1 (((1 - b : Nat) : Int), (rootFr (E + 1) ((1 - a : Nat) : Int)).sec) (by simp) (by rw [f2, hYl]; simp only; omega) with ⟨g1, g2⟩ | ⟨g1, g2⟩
        · have g3 := write_dur y.1.flush.1 ((1 - b : Nat) : Int) (rootFr (E + 1) ((1 - a : Nat) : Int)).sec
          rw [f2] at g3
          rw [f3, List.nil_append] at g2
          simp only at g1 g2
          rw [if_pos g1]
          generalize (y.1.flush.1.write ((1 - b : Nat) : Int) (rootFr (E + 1) ((1 - a : Nat) : Int)).sec).1 = u at *
          rcases flush_may u with ⟨k1, k2, k3⟩ | ⟨k1, k2, k3⟩
          · rw [g3, g2, lay_one (fun i hi => by have := ((hh i (by omega)).1).sec.len; exact this) (1 - b) (by omega) _ hrl] at k2
            refine ⟨.inl k1, by rw [k3]; simp, fun sv => ?_⟩
            have hcd : (u.flush.1.crash sv).dur = Y.set (1 - b) (rootFr (E + 1) ((1 - a : Nat) : Int)).sec := by
              show layCrash sv u.flush.1.dur 0 u.flush.1.pend = _
              rw [k2, k3]
              rfl
            rw [hcd]
            refine ⟨by rw [List.length_set]; exact hYl, fun i hi hne => getD_set_other _ _ _ _ _ (fun e => hne e.symm), 64, Nat.le_refl _, ?_, fun _ => rfl⟩
            rw [List.getD_eq_getElem?_getD, List.getElem?_set_self (by omega)]
            have hx64 := (hs.okay (1 - b) (by omega)).sec.len
            unfold torn
            rw [List.take_of_length_le (by omega), List.drop_of_length_le (by omega), List.append_nil]
            rfl
          · rw [g2] at k3
            rw [g3] at k2
            refine ⟨.inr k1, by rw [k3]; simp, fun sv => ?_⟩
            have hcd : (u.flush.1.crash sv).dur = layCrash sv Y 0 [(((1 - b : Nat) : Int), (rootFr (E + 1) ((1 - a : Nat) : Int)).sec)] := by
              show layCrash sv u.flush.1.dur 0 u.flush.1.pend = _
              rw [k2, k3]
            rw [hcd]
            have hcs := fun i (hi : i < n) => crash_sector sv i [(((1 - b : Nat) : Int), (rootFr (E + 1) ((1 - a : Nat) : Int)).sec)] Y 0 (by omega) (fun x hx => by rw [List.mem_singleton.1 hx]; simp) (List.pairwise_singleton _ _)
            refine ⟨by rw [length_layCrash']; exact hYl, fun i hi hne => ?_, ?_⟩
            · rcases hcs i hi with h | ⟨x, hx, hxk, _⟩
              · exact h
              · rw [List.mem_singleton.1 hx] at hxk
                exact absurd (by simp only at hxk; omega) hne
            · rcases hcs (1 - b) (by omega) with h | ⟨x, hx, hxk, k, hk, h⟩
              · exact ⟨0, by omega, by rw [h, hYr]; exact torn0, fun e => by rw [k1] at e; simp at e⟩
              · rw [List.mem_singleton.1 hx] at h
                exact ⟨k, hk, by rw [h, hYr], fun e => by rw [k1] at e; simp at e⟩
        · have g3 := write_dur y.1.flush.1 ((1 - b : Nat) : Int) (rootFr (E + 1) ((1 - a : Nat) : Int)).sec
          rw [f2] at g3
          rw [f3] at g2
          simp only at g1 g2
          rw [if_neg (by rw [g1]; simp)]
          generalize (y.1.flush.1.write ((1 - b : Nat) : Int) (rootFr (E + 1) ((1 - a : Nat) : Int)).sec) = u at *
          refine ⟨.inr g1, by rw [g2]; simp, fun sv => ?_⟩
          have hcd : (u.1.crash sv).dur = Y := by
            show layCrash sv u.1.dur 0 u.1.pend = _
            rw [g3, g2]
            rfl
          rw [hcd]
          exact ⟨hYl, fun _ _ _ => rfl, 0, by omega, by rw [hYr]; exact torn0, fun e => by rw [g1] at e; simp at e⟩
      obtain ⟨r1, r2, r3⟩ := hrt
      by_cases r0 : (rootSt y.1.flush.1 (1 - (b : Int)) (E + 1) (1 - (a : Int))).2 = 0
      · rw [if_neg (by rw [r0]; simp)] at hzz
        rw [← hzz]
        refine ⟨.inl rfl, by simp only; omega, fun sv => ?_⟩
        obtain ⟨c1, c2, k, hk, c3, c4⟩ := r3 sv
        have hk64 := c4 r0
        have hsec : ((rootSt y.1.flush.1 (1 - (b : Int)) (E + 1) (1 - (a : Int))).1.crash sv).dur.getD (1 - b) [] = (rootFr (E + 1) ((1 - a : Nat) : Int)).sec := by
          rw [c3, hk64]
          have hx64 := (hs.okay (1 - b) (by omega)).sec.len
          unfold torn
          rw [List.take_of_length_le (by omega), List.drop_of_length_le (by omega), List.append_nil]
        rcases crash_root hs hfit hE hY c1 c2 ⟨k, hk, c3⟩ with h | h
        · exfalso
          have h1 := h.other (rootFr (E + 1) ((1 - a : Nat) : Int)) (by unfold frs; rw [hsec, frOf_sec (root_good (E + 1) (1 - a) hE')])
          have h2 : (rootFr (E + 1) ((1 - a : Nat) : Int)).epoch = E + 1 := rfl
          omega
        · exact ⟨1 - a, 1 - b, E + 1, M, by omega, h, .inl rfl⟩
      · have r12 : (rootSt y.1.flush.1 (1 - (b : Int)) (E + 1) (1 - (a : Int))).2 = 12 := by rcases r1 with h | h; exact absurd h r0; exact h
        rw [if_pos r0] at hzz
        rw [← hzz]
        refine ⟨.inr ⟨r12, r12⟩, by simp only; omega, fun sv => ?_⟩
        obtain ⟨c1, c2, k, hk, c3, _⟩ := r3 sv
        rcases crash_root hs hfit hE hY c1 c2 ⟨k, hk, c3⟩ with h | h
        · exact ⟨a, b, E, R, Int.le_refl _, h, .inr ⟨r12, rfl⟩⟩
        · exact ⟨1 - a, 1 - b, E + 1, M, by omega, h, .inl rfl⟩
    · rw [if_pos (by rw [f1]; simp), f1] at hzz
      rw [← hzz]
      rw [wd] at f2
      rw [w2] at f3
      refine ⟨.inr ⟨rfl, rfl⟩, by simp only; rw [f3]; exact hplen, fun sv => ⟨a, b, E, R, Int.le_refl _, ?_, .inr ⟨rfl, rfl⟩⟩⟩
      have hcd : (y.1.flush.1.crash sv).dur = layCrash sv X 0 (putsOf S (1 - a) (recFrames M (E + 1) ((0 : Nat) : Int))) := by
        show layCrash sv y.1.flush.1.dur 0 y.1.flush.1.pend = _
        rw [f2, f3]
        rfl
      simp only
      rw [hcd]
      exact crash_old hs sv hfit hE _ ⟨[], by simp⟩
  · rw [if_pos (by rw [w3]; simp), w3] at hzz
    rw [← hzz]
    have hl1 : ∃ L L', recFrames M (E + 1) ((0 : Nat) : Int) = L ++ L' ∧ l1 = putsOf S (1 - a) L := by
      refine ⟨(recFrames M (E + 1) ((0 : Nat) : Int)).take l1.length, (recFrames M (E + 1) ((0 : Nat) : Int)).drop l1.length, (List.take_append_drop _ _).symm, ?_⟩
      unfold putsOf at w1 ⊢
      rw [List.map_take]
      have e : ((0 : Nat) : Int) = 0 := rfl
      rw [e, w1, List.take_left' rfl]
    obtain ⟨L, L', hL, hl1⟩ := hl1
    have hll : l1.length ≤ n := by
      have : (l1 ++ l2).length ≤ n := by rw [← w1]; exact hplen
      rw [List.length_append] at this
      omega
    refine ⟨.inr ⟨rfl, rfl⟩, by simp only; rw [w2]; exact hll, fun sv => ⟨a, b, E, R, Int.le_refl _, ?_, .inr ⟨rfl, rfl⟩⟩⟩
    have hcd : (y.1.crash sv).dur = layCrash sv X 0 (putsOf S (1 - a) L) := by
      show layCrash sv y.1.dur 0 y.1.pend = _
      rw [wd, w2, hl1]
    simp only
    rw [hcd]
    exact crash_old hs sv hfit hE L ⟨L', hL⟩
/-- The next Checkpoint, and Open behind it. -/
theorem next_plain {n S a b : Nat} {E B gr fin : Int} {R N : List ByteArray} {C : List (List Int)} {st : St} (hs : Shows n S a b E B R C) (hd : st.dur = C) (hp : st.pend = []) (hf : st.failed = false) (hl : st.left = -1) (h1 : E ≤ gr) (h2 : gr ≤ B) (h3 : B ≤ gr + 1) (hB : B < 250) (hfit : needN N ≤ S) :
    ∃ st' l', checkLg st ⟨gr + 1, b, a, fin, 0⟩ N = (st', l', 0) ∧ st'.pend = [] ∧ st'.failed = false ∧ st'.left = -1 ∧ Shows n S (1 - a) (1 - b) (gr + 2) (gr + 2) N st'.dur := by
  have hba := hs.base h1 h2 h3
  have hfi : Fine C st := okay_fine hs.len hs.okay hd hp hf hl
  have he1 := hs.e1
  obtain ⟨e, he⟩ : ∃ e : Nat, gr + 1 = (e : Int) := ⟨(gr + 1).toNat, by omega⟩
  obtain ⟨st', g1, g2, g3⟩ := check_fine' (fin := fin) hfi (by rw [hs.len]; exact hs.n8.1) (by rw [hs.len]; exact hs.hS) hs.ha hs.hb (show e < 4294967295 by omega) N hfit
  rw [← he] at g1
  refine ⟨st', _, g1, g3, g2.ok, g2.left, ?_⟩
  rw [visible_dur g2 g3]
  have hc := (hba.check N hfit (by omega)).shows (by omega)
  have e2 : ((e + 1 : Nat) : Int) = gr + 1 + 1 := by omega
  unfold checkX
  rw [e2, show gr + 2 = gr + 1 + 1 by omega]
  exact hc
theorem failAfter_same (st : St) (k : Int) : (st.failAfter k).dur = st.dur ∧ (st.failAfter k).pend = st.pend := by
  unfold St.failAfter
  split <;> exact ⟨rfl, rfl⟩
/-- What a log bears behind a Checkpoint. -/
theorem check_rng {st : St} {l : Lg} {M : List ByteArray} {z : St × Lg × Int} (hz : checkLg st l M = z) (ha : l.area = 0 ∨ l.area = 1) (hb : l.block = 0 ∨ l.block = 1) (hf : 0 ≤ l.fin ∧ l.fin ≤ 900000) (he : 0 ≤ l.epoch ∧ l.epoch ≤ 1000000) (hM : needN M ≤ 900000) :
    (z.2.1.area = 0 ∨ z.2.1.area = 1) ∧ (z.2.1.block = 0 ∨ z.2.1.block = 1) ∧ (0 ≤ z.2.1.fin ∧ z.2.1.fin ≤ 900000) ∧ 0 ≤ z.2.1.epoch ∧ z.2.1.epoch ≤ 1000001 := by
  rw [← hz]
  unfold checkLg checkEnd
  split
  · exact ⟨ha, hb, hf, he.1, by simp only; omega⟩
  · split
    · exact ⟨ha, hb, hf, he.1, by simp only; omega⟩
    · split
      · exact ⟨ha, hb, hf, by simp only; omega, by simp only; omega⟩
      · split
        · exact ⟨ha, hb, hf, by simp only; omega, by simp only; omega⟩
        · split
          · exact ⟨ha, by simp only; omega, hf, by simp only; omega, by simp only; omega⟩
          · exact ⟨by simp only; omega, by simp only; omega, ⟨by simp only; omega, by simp only; omega⟩, by simp only; omega, by simp only; omega⟩
theorem append_failed (st : St) (l : Lg) (r : ByteArray) (h : l.failed = 12) : appendLg st l r = (st, l, 9) := by
  unfold appendLg
  rw [if_pos (by rw [h]; simp)]
theorem sync_failed (st : St) (l : Lg) (h : l.failed = 12) : syncLg st l = (st, l, 9) := by
  unfold syncLg
  rw [if_pos (by rw [h]; simp)]
theorem check_failed (st : St) (l : Lg) (M : List ByteArray) (h : l.failed = 12) : checkLg st l M = (st, l, 9) := by
  unfold checkLg
  rw [if_pos (by rw [h]; simp)]
end Go.Proofs.Ytlhnhhjpjkgogaa.wl
namespace Go.Proofs.Ytlhnhhjpjkgogaa.wl
open Go.RowKit Go.Proofs.Ytlhnhhjpjkgogaa.agg Go.Proofs.Ytlhnhhjpjkgogaa.dk
set_option linter.unusedSimpArgs false
set_option linter.unusedVariables false

/-- The log L on the disk D; the World Q, that names D and a log L0. -/
structure AtomAt (w : World) (Q L0 L D g : Nat) (pv : Value) (st : St) (l : Lg) (W : World) : Prop where
  log : LogIn W L D g pv st l
  live : ∀ q, lfoot L D g pv q → w.heap.size ≤ q
  box : ∃ cv mv nv fl, W.heap[Q]? = some (.cells (wcellsL D L0 cv mv nv fl) 66 (0, 0))
  boxQ : w.heap.size ≤ Q
  boxF : ¬ lfoot L D g pv Q
  below : Below w.heap.size w W
theorem AtomAt.quiet {w W W' : World} {Q L0 L D g : Nat} {pv : Value} {st : St} {l : Lg} (h : AtomAt w Q L0 L D g pv st l W) (hb : Below W.heap.size W W') : AtomAt w Q L0 L D g pv st l W' := by
  obtain ⟨cv, mv, nv, fl, hbx⟩ := h.box
  exact ⟨h.log.below hb, h.live, ⟨cv, mv, nv, fl, (hb.block _ (lt_of_block hbx)).trans hbx⟩, h.boxQ, h.boxF, h.below.trans (hb.mono h.below.size)⟩
theorem AtomAt.turn {w W W' : World} {Q L0 L D g : Nat} {pv pv' : Value} {st st' : St} {l l' : Lg} (h : AtomAt w Q L0 L D g pv st l W) (hl : LogIn W' L D g pv' st' l') (hk : Kept (lfoot L D g pv) W W') (hf : Fresh W pv pv') : AtomAt w Q L0 L D g pv' st' l' W' := by
  obtain ⟨cv, mv, nv, fl, hbx⟩ := h.box
  have hQ := lt_of_block hbx
  refine ⟨hl, ?_, ⟨cv, mv, nv, fl, (hk.block _ hQ h.boxF).trans hbx⟩, h.boxQ, ?_, h.below.trans (hk.below w.heap.size h.below.size h.live)⟩
  · rintro q (e1 | e1 | e1 | e1)
    · exact h.live q (.inl e1)
    · exact h.live q (.inr (.inl e1))
    · exact h.live q (.inr (.inr (.inl e1)))
    · rcases hf q e1 with e2 | e2
      · exact h.live q (.inr (.inr (.inr e2)))
      · exact Nat.le_trans h.below.size e2
  · rintro (e1 | e1 | e1 | e1)
    · exact h.boxF (.inl e1)
    · exact h.boxF (.inr (.inl e1))
    · exact h.boxF (.inr (.inr (.inl e1)))
    · rcases hf Q e1 with e2 | e2
      · exact h.boxF (.inr (.inr (.inr e2)))
      · omega
/-- A call of the disk's own. -/
theorem AtomAt.disk {w W W' : World} {Q L0 L D g : Nat} {pv pv' : Value} {st st' : St} {l : Lg} (h : AtomAt w Q L0 L D g pv st l W) (hd : DiskIn W' D g pv' st') (hk : Kept (foot D g pv) W W') (hf : Fresh W pv pv') : AtomAt w Q L0 L D g pv' st' l W' :=
  h.turn (h.log.turn hd hk hf) (lkept hk) hf
/-- Another log is opened. -/
theorem AtomAt.opened {w W W' : World} {Q L0 L L' D g : Nat} {pv : Value} {st st' : St} {l l' : Lg} (h : AtomAt w Q L0 L D g pv st l W) (hl : LogIn W' L' D g pv st' l') (hk : Kept (foot D g pv) W W') (hL : W.heap.size ≤ L') : AtomAt w Q L0 L' D g pv st' l' W' := by
  obtain ⟨cv, mv, nv, fl, hbx⟩ := h.box
  have hQ := lt_of_block hbx
  have hs := h.below.size
  refine ⟨hl, ?_, ⟨cv, mv, nv, fl, (hk.block _ hQ (fun e => h.boxF (.inr e))).trans hbx⟩, h.boxQ, ?_, h.below.trans (hk.below w.heap.size hs (fun q e => h.live q (.inr e)))⟩
  · rintro q (e1 | e1)
    · omega
    · exact h.live q (.inr e1)
  · rintro (e1 | e1)
    · omega
    · exact h.boxF (.inr e1)
theorem AtomAt.cell {w W : World} {Q L0 L D g : Nat} {pv : Value} {st : St} {l : Lg} (h : AtomAt w Q L0 L D g pv st l W) : W.cell? ⟨Q, 0, none⟩ = some (.pointer (some ⟨D, 0, none⟩)) ∧ W.cell? ⟨Q, 1, none⟩ = some (.pointer (some ⟨L0, 0, none⟩)) := by
  obtain ⟨cv, mv, nv, fl, hbx⟩ := h.box
  exact ⟨(cell_of_row _ _ _ _ _ _ hbx).trans rfl, (cell_of_row _ _ _ _ _ _ hbx).trans rfl⟩
theorem SyPart.atom {w : World} {Q L D g n S a b e t P : Nat} {R1 R2 : List ByteArray} {W : World} {pv : Value} {st : St} {X : List (List Int)} {cv mv nv : Value} {fl : Bool} (h : SyPart w Q L D g n S a b e t R1 R2 P W pv st X cv mv nv fl) : AtomAt w Q L L D g pv st ⟨e, b, a, t, 0⟩ W :=
  ⟨h.log, h.live, ⟨cv, mv, nv, fl, h.box⟩, h.boxQ, h.boxF, h.below⟩

/-- The call that only bears records. -/
def bare3 (v : Value) (l : List ByteArray) : ActW := ⟨0, v, l, .slice none 0 0, [], 0⟩
def cells3 (v1 v2 v3 : Value) : Array Value := #[.int .i64 0, v1, .slice none 0 0, .int .i64 0, .int .i64 0, v2, .slice none 0 0, .int .i64 0, .int .i64 0, v3, .slice none 0 0, .int .i64 0]
theorem bare3_in {B : Nat} {w W : World} {v1 v2 v3 : Value} {l1 l2 l3 : List ByteArray} (h1 : StrsUnder B w v1 l1) (h2 : StrsUnder B w v2 l2) (h3 : StrsUnder B w v3 l3) (hB : B ≤ W.heap.size) (hb : Below B w W) :
    ActsW (W.alloc (.cells (cells3 v1 v2 v3) 49)).heap.size (W.alloc (.cells (cells3 v1 v2 v3) 49)) (.slice (some ⟨W.heap.size, 0, none⟩) 3 3) [bare3 v1 l1, bare3 v2 l2, bare3 v3 l3] := by
  have hb2 : Below B w (W.alloc (.cells (cells3 v1 v2 v3) 49)) := hb.trans (((Below.refl _ W).alloc (Nat.le_refl _) _).mono hB)
  have hz : B ≤ (W.alloc (.cells (cells3 v1 v2 v3) 49)).heap.size := by simp; omega
  refine ⟨⟨some ⟨W.heap.size, 0, none⟩, 3, rfl, fun _ => ⟨W.heap.size, 0, rfl, by simp, fun i hi j u hu => ?_⟩⟩, fun x hx => ?_, fun x hx => ?_⟩
  · have hc := fun k u hk => cells_new W (cells3 v1 v2 v3) 49 k u hk
    have hlen : j < 4 := by
      have h4 : ∀ y : ActW, y.cells.toList.length = 4 := fun _ => rfl
      have := (List.getElem?_eq_some_iff.1 hu).1
      rw [h4] at this
      exact this
    have e : (cells3 v1 v2 v3).toList[i * 4 + j]? = some u := by
      have hi3 : i < 3 := hi
      rw [← hu]
      rcases (show i = 0 ∨ i = 1 ∨ i = 2 by omega) with rfl | rfl | rfl <;> rcases (show j = 0 ∨ j = 1 ∨ j = 2 ∨ j = 3 by omega) with rfl | rfl | rfl | rfl <;> rfl
    have := hc _ _ e
    rw [Addr.add_lit] at this
    rw [Nat.zero_add] at this ⊢
    exact this
  · simp only [List.mem_cons, List.not_mem_nil, or_false] at hx
    rcases hx with rfl | rfl | rfl
    · exact (h1.below hb2).mono hz
    · exact (h2.below hb2).mono hz
    · exact (h3.below hb2).mono hz
  · simp only [List.mem_cons, List.not_mem_nil, or_false] at hx
    rcases hx with rfl | rfl | rfl <;> exact ⟨none, 0, rfl, fun h0 => by simp [bare3] at h0⟩
theorem few_bare3 {B : Nat} {w W : World} {v1 v2 v3 : Value} {l1 l2 l3 : List ByteArray} (h1 : StrsUnder B w v1 l1) (h2 : StrsUnder B w v2 l2) (h3 : StrsUnder B w v3 l3) (hB : B ≤ W.heap.size) (hb : Below B w W) :
    Calls Try.prog 13 #[.slice (some ⟨W.heap.size, 0, none⟩) 3 3, .int .i64 3] (W.alloc (.cells #[.int .i64 0, v1, .slice none 0 0, .int .i64 0, .int .i64 0, v2, .slice none 0 0, .int .i64 0, .int .i64 0, v3, .slice none 0 0, .int .i64 0] 49)) fun e w' => e = .returned (.bool (fewOk (bare3 v1 l1) && fewOk (bare3 v2 l2) && fewOk (bare3 v3 l3))) ∧ (W.alloc (.cells #[.int .i64 0, v1, .slice none 0 0, .int .i64 0, .int .i64 0, v2, .slice none 0 0, .int .i64 0, .int .i64 0, v3, .slice none 0 0, .int .i64 0] 49)) = w' := by
  have h := few48_any _ _ _ _ (bare3_in h1 h2 h3 hB hb) 3 (by simp)
  have e : fewW [bare3 v1 l1, bare3 v2 l2, bare3 v3 l3] 3 = (fewOk (bare3 v1 l1) && fewOk (bare3 v2 l2) && fewOk (bare3 v3 l3)) := by simp [fewW, Bool.and_assoc]
  rw [e] at h
  exact h
theorem bare3_true {v : Value} {l : List ByteArray} (h : fewOk (bare3 v l) = true) : l.length ≤ 6 ∧ ∀ r ∈ l, r.size ≤ 300 := by
  unfold fewOk at h
  simp only [Bool.and_eq_true, List.all_eq_true, decide_eq_true_eq] at h
  exact ⟨h.1.1, h.2⟩
end Go.Proofs.Ytlhnhhjpjkgogaa.wl
