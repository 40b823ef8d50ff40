/- The walks of the reference's Size and First and of confluentlaw48.lay. -/
import Derived.Test.YtlhnhhjpjkgogaaWCheck
import Derived.Test.YtlhnhhjpjkgogaaDNew
namespace Go.Proofs.Ytlhnhhjpjkgogaa.wl
open Go.RowKit Go.Proofs.Ytlhnhhjpjkgogaa.agg Go.Proofs.Ytlhnhhjpjkgogaa.dk
set_option linter.unusedSimpArgs false
set_option linter.unusedVariables false

set_option maxHeartbeats 400000 in
theorem rsize_any (w : World) (n : Nat) (h2 : 2 ≤ n) (h3 : n ≤ 1000000) :
    Calls Try.prog 16 #[.int .i64 n] w fun e w' => e = .returned (.int .i64 (((n - 2) / 2 : Nat) : Int)) ∧ w = w' := by
  have e1 : ((n : Int) - 2).tdiv 2 = (((n - 2) / 2 : Nat) : Int) := by
    rw [Int.tdiv_eq_ediv_of_nonneg (by omega)]
    omega
  have e2 : ((n - 2) / 2 : Nat) ≤ 1000000 := by omega
  have e1' := Lib.hid e1
  generalize hs : ((n - 2) / 2 : Nat) = s at *
  clear hs e1'
  go_enter Try.func16, Try.ntmps16
  go_wp2
  go_ret
  exact ⟨rfl, rfl⟩
set_option maxHeartbeats 400000 in
theorem rfirst_any (w : World) (n a s b : Nat) (ha : a = 0 ∨ a = 1) (h2 : 2 ≤ n) (h3 : n ≤ 1000000) (hs : s = (n - 2) / 2) (hb : b = 2 + a * s) :
    Calls Try.prog 51 #[.int .i64 n, .int .i64 a] w fun e w' => e = .returned (.int .i64 b) ∧ w = w' := by
  have hcall := rsize_any w n h2 h3
  rw [← hs] at hcall
  have hcall' := Lib.hid hcall
  have hs2 : s ≤ 1000000 := by omega
  clear hcall hs
  rcases ha with rfl | rfl
  · have hb' : (b : Int) = 2 := by omega
    have hb2 := Lib.hid hb'
    clear hb hb'
    go_enter Try.func51, Try.ntmps51
    go_wp2_with (go_at_call 16; refine hcall'.out.mono ?_; rintro e _ ⟨rfl, rfl⟩)
    go_ret
    exact ⟨by rw [hb2.out]; simp, rfl⟩
  · have hb' : (b : Int) = 2 + s := by omega
    have hb2 := Lib.hid hb'
    clear hb hb'
    go_enter Try.func51, Try.ntmps51
    go_wp2_with (go_at_call 16; refine hcall'.out.mono ?_; rintro e _ ⟨rfl, rfl⟩)
    go_ret
    exact ⟨by rw [hb2.out]; simp, rfl⟩
theorem over_one (l : List (List Int)) (h : ∀ s ∈ l, s.length = 64) (k : Nat) (hk : k < l.length) (xs : List Int) (hx : xs.length = 64) :
    overrow (flatD l).toArray (k * 64) (sec xs) = (flatD (l.set k xs)).toArray := by
  have h1 := flatD_overrow l h k hk xs hx 64 (Nat.le_refl _) []
  have h2 : overlay (l.getD k []) xs 64 = xs := by
    have hl : (l.getD k []).length = 64 := h _ (by rw [List.getD_eq_getElem?_getD, List.getElem?_eq_getElem hk]; exact List.getElem_mem _)
    unfold overlay
    rw [List.take_of_length_le (by omega), List.drop_of_length_le (by omega), List.append_nil]
  rw [h2, List.append_nil, List.append_nil, List.take_of_length_le (by omega)] at h1
  exact h1
/-- Frames laid onto contents. -/
def laidF (base : Int) : List (List Int) → List Fr → List (List Int)
  | X, [] => X
  | X, f :: fs => laidF base (X.set (base + f.pos).toNat f.sec) fs
theorem laidF_append (base : Int) (a b : List Fr) : ∀ X, laidF base X (a ++ b) = laidF base (laidF base X a) b := by
  induction a with
  | nil => intro X; rfl
  | cons f a ih => intro X; exact ih _
theorem laidF_len (base : Int) (fs : List Fr) : ∀ X, (laidF base X fs).length = X.length := by
  induction fs with
  | nil => intro X; rfl
  | cons f a ih => intro X; rw [laidF, ih, List.length_set]
theorem laidF_lens (base : Int) (fs : List Fr) (hf : ∀ f ∈ fs, f.data.size ≤ 50) : ∀ X, (∀ s ∈ X, s.length = 64) → ∀ s ∈ laidF base X fs, s.length = 64 := by
  induction fs with
  | nil => intro X h; exact h
  | cons f a ih =>
    intro X h
    refine ih (fun g hg => hf g (by simp [hg])) _ (fun s hs => ?_)
    rcases List.mem_or_eq_of_mem_set hs with h1 | h1
    · exact h s h1
    · rw [h1]; exact f.length_sec (hf f (by simp))
theorem framesOf_small (r : ByteArray) (e p : Int) : ∀ f ∈ framesOf r e p, f.data.size ≤ 50 := by
  intro f hf
  simp only [framesOf, List.mem_map] at hf
  obtain ⟨i, _, rfl⟩ := hf
  exact size_chunk r i
theorem recFrames_small (e : Int) : ∀ (l : List ByteArray) (p : Int), ∀ f ∈ recFrames l e p, f.data.size ≤ 50
  | [], _, f, hf => by simp [recFrames] at hf
  | r :: l, p, f, hf => by
    rw [recFrames] at hf
    rcases List.mem_append.1 hf with h | h
    · exact framesOf_small r e p f h
    · exact recFrames_small e l _ f h
/-- A slice of strings that lies apart from a block. -/
def StrsApart (V : Nat) (w : World) (v : Value) (l : List ByteArray) : Prop :=
  ∃ ao cap, v = .slice ao l.length cap ∧ (0 < l.length → ∃ b o, ao = some ⟨b, o, none⟩ ∧ b ≠ V ∧ b < w.heap.size ∧ ∀ i, (hi : i < l.length) → w.cell? ⟨b, o + i, none⟩ = some (.string l[i]))
theorem StrsUnder.apart {B V : Nat} {w : World} {v : Value} {l : List ByteArray} (h : StrsUnder B w v l) (hV : B ≤ V) (hw : B ≤ w.heap.size) : StrsApart V w v l := by
  obtain ⟨ao, cap, rfl, h1⟩ := h
  refine ⟨ao, cap, rfl, fun h0 => ?_⟩
  obtain ⟨b, o, rfl, hB, hc⟩ := h1 h0
  exact ⟨b, o, rfl, by omega, by omega, hc⟩
theorem apart_get {V : Nat} {w wr : World} {ao : Option Addr} {n cap : Nat} {l : List ByteArray} (h : StrsApart V w (.slice ao n cap) l) (hk : Kept (fun k => k = V) w wr) (k : Nat) (hkl : k < l.length) : n = l.length ∧ ∃ b o, ao = some ⟨b, o, none⟩ ∧ wr.cell? ⟨b, o + k, none⟩ = some (.string l[k]) := by
  obtain ⟨ao', cap', e, h1⟩ := h
  injection e with e1 e2 e3
  obtain ⟨b, o, h2, hne, hlt, h3⟩ := h1 (by omega)
  refine ⟨e2, b, o, by rw [e1, h2], ?_⟩
  rw [World.cell?_of_block (w := w) (hk.block b hlt hne)]
  exact h3 k hkl
/-- The memory while contents are laid. -/
structure LayIn (w : World) (V : Nat) (X : List (List Int)) (W : World) : Prop where
  row : W.heap[V]? = some (.cells (flatD X).toArray 26 (0, 0))
  kept : Kept (fun k => k = V) w W
theorem LayIn.below {w : World} {V : Nat} {X : List (List Int)} {W W' : World} (h : LayIn w V X W) (hb : Below W.heap.size W W') : LayIn w V X W' :=
  ⟨(hb.block _ (lt_of_block h.row)).trans h.row, h.kept.trans (Kept.of_below hb)⟩
theorem LayIn.set {w : World} {V : Nat} {X Y : List (List Int)} {W : World} (h : LayIn w V X W) : LayIn w V Y (W.setRow V (flatD Y).toArray) :=
  ⟨setRow_heap _ _ _ _ _ _ h.row, h.kept.trans (Kept.setRow (F := fun k => k = V) W rfl _)⟩
theorem info_rfL (f : Fr) : (Try.prog.info? 23).map (·.size) = some f.cells.toList.length := by
  rw [show f.cells.toList.length = 4 from rfl]
  kernel_rfl
/-- A row of frames. -/
def FrRow (fs : List Fr) (q : Nat) (W : World) : Prop := ∃ cur, W.heap[q]? = some (.cells cur 23 (0, 0)) ∧ cur.toList.take (fs.length * 4) = flatF fs
theorem FrRow.cells {fs : List Fr} {q k : Nat} {wr : World} (h : FrRow fs q wr) (hk : k < fs.length) :
    ∀ j u, (fs[k]).cells.toList[j]? = some u → wr.cell? ⟨q, k * 4 + j, none⟩ = some u := by
  intro j u hu
  obtain ⟨cur, hc, ht⟩ := h
  have h1 := flatF_get fs k hk j u hu
  rw [← ht] at h1
  have h2 : k * 4 + j < fs.length * 4 := by
    have := (List.getElem?_eq_some_iff.1 h1).1
    simp at this
    omega
  rw [List.getElem?_take_of_lt h2] at h1
  rw [cell_of_row _ _ _ _ _ _ hc]
  simpa using h1
theorem FrRow.kept {fs : List Fr} {q : Nat} {W W' : World} (h : FrRow fs q W) {F : Nat → Prop} (hk : Kept F W W') (hq : ¬ F q) : FrRow fs q W' := by
  obtain ⟨cur, hc, ht⟩ := h
  exact ⟨cur, (hk.block q (lt_of_block hc) hq).trans hc, ht⟩
attribute [local go_sem ↓] load_rf store_rf
attribute [local go_sem] size_fr one_fr cut_fr2 over_fr2
set_option maxRecDepth 100000 in
set_option maxHeartbeats 4000000 in
theorem lay_walk (w : World) (V n cap : Nat) (X : List (List Int)) (hV : w.heap[V]? = some (.cells (flatD X).toArray 26 (0, 0))) (hXn : X.length = n) (hX : ∀ s ∈ X, s.length = 64) (a s base p : Nat) (epoch : Int) (ha : a = 0 ∨ a = 1)
    (h8 : 8 ≤ n ∧ n ≤ 1000) (hs : s = (n - 2) / 2) (hb : base = 2 + a * s) (he : 0 ≤ epoch ∧ epoch < 4611686018427387904) (v : Value) (recs : List ByteArray) (hv : StrsApart V w v recs) (hr : ∀ r ∈ recs, r.size ≤ 65536) (hn : recs.length ≤ 100) (hfit : p + needN recs ≤ s) :
    Calls Try.prog 20 #[.slice (some ⟨V, 0, none⟩) n cap, .int .i64 a, .int .i64 epoch, .int .i64 p, v] w fun e w' => e = .returned (.int .i64 ((p + needN recs : Nat) : Int)) ∧ LayIn w V (laidF base X (recFrames recs epoch p)) w' := by
  have hv' := Lib.hid hv
  obtain ⟨ao, cap', rfl, _⟩ := hv
  have hVl := lt_of_block hV
  have h0 : LayIn w V X w := ⟨hV, Kept.refl _ _⟩
  have h0' := Lib.hid h0
  have hsub : ∀ k, needN (recs.take k) ≤ needN recs := by
    intro k
    have e : needN recs = needN (recs.take k) + needN (recs.drop k) := by
      unfold needN
      rw [← List.sum_append, ← List.map_append, List.take_append_drop]
    omega
  have hsub' := Lib.hid hsub
  have hfirst := fun W => rfirst_any W n a s base ha (by omega) (by omega) hs hb
  have hfirst' := Lib.hid hfirst
  have hs2 : s ≤ 500 := by omega
  have hfn : base + s ≤ n := by rcases ha with rfl | rfl <;> omega
  have hX' := Lib.hid hX
  have hXn' := Lib.hid hXn
  clear h0 hV hsub hfirst hs hb ha hX hXn
  go_enter Try.func20, Try.ntmps20
  go_wp2_with fail
  go_loopw [3, 17] (fun q i wr => ∃ k m : Nat, k ≤ recs.length ∧ i = .int .i64 k ∧ m = p + needN (recs.take k) ∧ q = .int .i64 m ∧ LayIn w V (laidF base X (recFrames (recs.take k) epoch p)) wr) (fun _ i _ => recs.length - (intOf i).toNat)
  case atStart => exact ⟨0, p, Nat.zero_le _, rfl, by simp [needN], rfl, h0'.out⟩
  case round =>
    obtain ⟨k, m, hk, rfl, hm, rfl, hL⟩ := hrel
    have hm2 : m ≤ 500 := by have := hsub'.out k; omega
    have hL' := Lib.hid hL
    have hm' := Lib.hid hm
    clear hL hm
    by_cases hlt : k < recs.length
    · have hlt' : k < recs.length := hlt
      obtain ⟨_, b, o, rfl, hc⟩ := apart_get hv'.out hL'.out.kept k hlt'
      have hrs := hr recs[k] (List.getElem_mem hlt')
      have htk' := Lib.hid (take_more recs k hlt')
      have hsnoc' := Lib.hid (needN_snoc (recs.take k) recs[k])
      have hrf' := Lib.hid (recFrames_snoc (recs.take k) recs[k] epoch p)
      have hsk : Hid (needN (recs.take (k + 1)) ≤ needN recs) := hsub'.out (k + 1)
      rw [← htk'.out] at hsnoc' hrf'
      generalize recs[k] = r at *
      have hn4 : nfr r ≤ 1311 := by unfold nfr; omega
      go_wp2_with (go_at_call 49; refine (rframes_walk _ r epoch m hrs (by omega)).mono ?_; rintro e1 w1 ⟨q, cap1, rfl, hown, hb1⟩)
      obtain ⟨fs, hfs⟩ : ∃ fs, fs = framesOf r epoch m := ⟨_, rfl⟩
      have hlen : fs.length = nfr r := by rw [hfs, length_framesOf]
      have hq0 : wr.heap.size ≤ q := (hown.lt q rfl).1
      have hqV : q ≠ V := by have := hL'.out.kept.size; omega
      have hrow : FrRow fs q w1 := by
        rcases hown.2 with ⟨e, _⟩ | ⟨g1, cap1, cur, e, _, hc, _, _, _, ht⟩
        · cases e
        · cases e
          exact ⟨cur, hc, by rw [hfs, ← ht, length_framesOf]⟩
      have hrng : ∀ j, (hj : j < fs.length) → (fs[j]).pos = ((m + j : Nat) : Int) ∧ (fs[j]).epoch = epoch ∧ (fs[j]).data.size ≤ 50 := by
        intro j hj
        have e : fs[j] = frameAt r epoch m j := by
          subst hfs
          simp [framesOf]
        rw [e]
        have hc := size_chunk r j
        simp only [frameAt]
        exact ⟨by omega, trivial, hc⟩
      have hlY : (laidF base X (recFrames (recs.take k) epoch p)).length = n := by rw [laidF_len]; exact hXn'.out
      have hlYs : ∀ s ∈ laidF base X (recFrames (recs.take k) epoch p), s.length = 64 := laidF_lens _ _ (recFrames_small _ _ _) _ hX'.out
      have hL1 := Lib.hid (hL'.out.below hb1)
      have hrow' := Lib.hid hrow
      have hfs' := Lib.hid hfs
      have hrng' := Lib.hid hrng
      have hlY' := Lib.hid hlY
      have hlYs' := Lib.hid hlYs
      have hmk : m + nfr r ≤ s := by
        have h1 := hsk.out
        rw [hsnoc'.out] at h1
        have h2 := hm'.out
        omega
      have hfsm' := Lib.hid (framesOf_small r epoch m)
      rw [← hfs'.out] at hfsm'
      clear hfs hown hb1 hL' hrow hrng hlY hlYs hc
      generalize hY : laidF base X (recFrames (recs.take k) epoch p) = Y at *
      have hY' := Lib.hid hY
      clear hY
      go_loopw [3, 26] (fun x i W => ∃ j m2 : Nat, j ≤ nfr r ∧ i = .int .i64 j ∧ m2 = m + j ∧ x = .int .i64 m2 ∧ LayIn w V (laidF base Y (fs.take j)) W ∧ FrRow fs q W) (fun _ i _ => nfr r - (intOf i).toNat)
      case atStart => exact ⟨0, m, Nat.zero_le _, rfl, rfl, rfl, hL1.out, hrow'.out⟩
      case round =>
        obtain ⟨j, m2, hj, rfl, hm2, rfl, hLj, hRj⟩ := hrel
        have hm2' := Lib.hid hm2
        have hLj' := Lib.hid hLj
        have hRj' := Lib.hid hRj
        have hmj : m2 ≤ 500 := by omega
        clear hLj hRj hm2
        by_cases hjl : j < nfr r
        · have hjf : j < fs.length := by omega
          have hcl := hRj'.out.cells hjf
          obtain ⟨f1, f2, f3⟩ := hrng'.out j hjf
          have htj' := Lib.hid (List.take_succ_eq_append_getElem hjf)
          have hjs' := Lib.hid hjf
          generalize fs[j] = f at *
          clear hjf
          go_wp2_with (with_reducible refine wpList_load_cells ag_rf rfl (.tmp 28) rfl q (j * 4) rfl f.cells (size_fr f) hcl ?_)
          have hWb : Below wr.heap.size wr (wr.alloc (.cells f.cells 23)) := (Below.refl _ _).alloc (Nat.le_refl _) _
          have hbx : (wr.alloc (.cells f.cells 23)).heap[wr.heap.size]? = some (.cells f.cells 23 (0, 0)) := heap_alloc_new wr _
          have hL2 := Lib.hid (hLj'.out.below hWb)
          have hR2 := Lib.hid (hRj'.out.kept (Kept.of_below (F := fun _ => False) hWb) id)
          have hXV : wr.heap.size ≠ V := by have := hLj'.out.kept.size; omega
          have hi : ∃ i : Nat, i = base + m2 := ⟨_, rfl⟩
          clear hWb
          generalize wr.alloc _ = W1 at *
          generalize wr.heap.size = Z at *
          obtain ⟨i, hi⟩ := hi
          have hi1 : i < n := by have := hm2'.out; omega
          have hi2 : i ≤ 1000 := by omega
          have hi3 : (base : Int) + (m2 : Int) = (i : Int) := by omega
          have hi' := Lib.hid hi
          have hiw : IntKind.i64.wrap (i : Int) = i := by simp [IntKind.wrap, IntKind.bits, IntKind.signed]; omega
          have huf := Try.underlying23
          have hlT' : Hid ((laidF base Y (fs.take j)).length = n) := by rw [laidF_len]; exact hlY'.out
          have hlTs' := Lib.hid (laidF_lens base (fs.take j) (fun g hg => hfsm'.out g (List.mem_of_mem_take hg)) Y hlYs'.out)
          have hnx : Hid (laidF base Y (fs.take (j + 1)) = (laidF base Y (fs.take j)).set i f.sec) := by
            rw [htj'.out, laidF_append]
            show (laidF base Y (fs.take j)).set (((base : Nat) : Int) + f.pos).toNat f.sec = _
            have : ((base : Nat) : Int) + f.pos = (i : Int) := by rw [f1]; have := hm2'.out; omega
            rw [this]
            exact rfl
          clear hi htj' hcl hLj'
          generalize laidF base Y (fs.take j) = T at *
          have hdr := (hL2.out.below (Below.refl _ _).drew)
          have hbd : W1.drew.heap[Z]? = some (.cells f.cells 23 (0, 0)) := hbx
          refine wp_region_held_drew (S := fun u => u.heap[Z]? = some (.cells f.cells 23 (0, 0))) (by kernel_rfl) hbd (fun hHeld => ?_)
          refine wpAnyH_take (i := 0) (v := .slice (some ⟨V, 0, none⟩) n cap) rfl (by kernel_rfl) (by kernel_rfl) (by kernel_rfl) (fun _ _ _ h => h) (Or.inl ⟨by rfl, by intro u hu; (try dsimp only at hu); go_simp⟩) hHeld ?_
          try simp only [Act.put, List.getElem_toArray, List.getElem_cons_zero, List.getElem_cons_succ, List.setIfInBounds_toArray, List.set_cons_zero, List.set_cons_succ]
          refine wpAnyH_take (i := 1) (v := .slice (some ⟨V, 0, none⟩) n cap) rfl (by kernel_rfl) (by kernel_rfl) (by kernel_rfl) (fun _ _ _ h => h) (Or.inl ⟨by rfl, by intro u hu; (try dsimp only at hu); go_simp⟩) hHeld ?_
          try simp only [Act.put, List.getElem_toArray, List.getElem_cons_zero, List.getElem_cons_succ, List.setIfInBounds_toArray, List.set_cons_zero, List.set_cons_succ]
          refine wpAnyH_take (i := 2) (v := .int .i64 n) rfl (by kernel_rfl) (by kernel_rfl) (by kernel_rfl) (fun _ _ _ h => h) (Or.inl ⟨by rfl, by intro u hu; (try dsimp only at hu); go_simp⟩) hHeld ?_
          try simp only [Act.put, List.getElem_toArray, List.getElem_cons_zero, List.getElem_cons_succ, List.setIfInBounds_toArray, List.set_cons_zero, List.set_cons_succ]
          refine wpAnyH_take (i := 3) (v := .int .i64 a) rfl (by kernel_rfl) (by kernel_rfl) (by kernel_rfl) (fun _ _ _ h => h) (Or.inl ⟨by rfl, by intro u hu; (try dsimp only at hu); go_simp⟩) hHeld ?_
          try simp only [Act.put, List.getElem_toArray, List.getElem_cons_zero, List.getElem_cons_succ, List.setIfInBounds_toArray, List.set_cons_zero, List.set_cons_succ]
          refine wpAnyH_take (i := 5) (v := .int .i64 m2) rfl (by kernel_rfl) (by kernel_rfl) (by kernel_rfl) (fun _ _ _ h => h) (Or.inl ⟨by rfl, by intro u hu; (try dsimp only at hu); go_simp⟩) hHeld ?_
          try simp only [Act.put, List.getElem_toArray, List.getElem_cons_zero, List.getElem_cons_succ, List.setIfInBounds_toArray, List.set_cons_zero, List.set_cons_succ]
          refine wpAnyH_take (i := 7) (v := .agg f.cells.toList.toArray) rfl (by kernel_rfl) (by kernel_rfl) (by kernel_rfl) (fun _ _ _ h => h) (yieldsIf_load_mid (by rfl) _ _ rfl _ _ rfl f.cells.toList _ (fun _ h => rangeAt_whole h) huf rfl (info_rfL f)) hHeld ?_
          try simp only [Act.put, List.getElem_toArray, List.getElem_cons_zero, List.getElem_cons_succ, List.setIfInBounds_toArray, List.set_cons_zero, List.set_cons_succ]
          refine wpAnyH_ready (rs := [4]) (by kernel_rfl) (by simp) ?_
          refine AllReadyH.cons rfl (fun K hK => ?_) AllReadyH.nil
          rw [if_pos (by rfl)]
          go_simp
          go_at_call 51
          refine (hfirst'.out _).mono ?_
          rintro e2 _ ⟨rfl, rfl⟩
          refine hK.out _ _ hHeld (fun hHeld => ?_)
          clear hK K
          try simp only [Act.put, List.getElem_toArray, List.getElem_cons_zero, List.getElem_cons_succ, List.setIfInBounds_toArray, List.set_cons_zero, List.set_cons_succ]
          refine wpAnyH_take (i := 6) (v := .int .i64 i) rfl (by kernel_rfl) (by kernel_rfl) (by kernel_rfl) (fun _ _ _ h => h) (Or.inl ⟨by rfl, by intro u hu; (try dsimp only at hu); go_simp⟩) hHeld ?_
          try simp only [Act.put, List.getElem_toArray, List.getElem_cons_zero, List.getElem_cons_succ, List.setIfInBounds_toArray, List.set_cons_zero, List.set_cons_succ]
          refine wpAnyH_ready (rs := [8]) (by kernel_rfl) (by simp) ?_
          refine AllReadyH.cons rfl (fun K hK => ?_) AllReadyH.nil
          rw [if_pos (by rfl)]
          go_simp
          go_at_call 9
          refine (rwrite_walk _ f f3 (by rw [f2]; exact he) (by rw [f1]; omega)).mono ?_
          rintro e2 u2 ⟨rfl, hb2⟩
          have hL3 := hdr.below hb2
          have hx3 : u2.heap[Z]? = some (.cells f.cells 23 (0, 0)) := (hb2.block _ (lt_of_block hbd)).trans hbd
          have hR3 := Lib.hid (hR2.out.kept ((Kept.drew (F := fun _ => False) W1).trans (Kept.of_below hb2)) id)
          refine hK.out _ _ hx3 (fun hHeld => ?_)
          clear hK K
          try simp only [Act.put, List.getElem_toArray, List.getElem_cons_zero, List.getElem_cons_succ, List.setIfInBounds_toArray, List.set_cons_zero, List.set_cons_succ]
          refine wpAnyH_take (i := 9) (v := .pointer (some ⟨V, i * 64, none⟩)) rfl (by kernel_rfl) (by kernel_rfl) (by kernel_rfl) (fun _ _ _ h => h) (Or.inl ⟨by rfl, by intro u hu; (try dsimp only at hu); go_simp⟩) hHeld ?_
          try simp only [Act.put, List.getElem_toArray, List.getElem_cons_zero, List.getElem_cons_succ, List.setIfInBounds_toArray, List.set_cons_zero, List.set_cons_succ]
          have hr := rowOf_of hL3.row
          have hsz : (flatD T).toArray.size = n * 64 := by rw [List.size_toArray, size_flatD _ hlTs'.out, hlT'.out]
          refine wpAnyH_ready (rs := [10]) (by kernel_rfl) (by simp) ?_
          refine AllReadyH.cons rfl (fun K hK => ?_) AllReadyH.nil
          rw [if_pos (by rfl)]
          refine Eq.mpr (store_sec (.tmp 39) (.tmp 38) ?h1 ?h2) ?_
          case h1 =>
            show decide (i * 64 + 64 ≤ (rowOf u2 V).size ∧ 0 < 64) = true
            refine @decide_eq_true _ _ ⟨?_, by decide⟩
            rw [hr, hsz]
            omega
          case h2 =>
            show plain (.agg (sec f.sec)) 64 = true
            simp [plain, size_sec, f.length_sec f3, all_sec]
          have hst : putRow u2 (.pointer (some ⟨V, i * 64, none⟩)) (sec f.sec) = u2.setRow V (flatD (T.set i f.sec)).toArray := by
            rw [putRow_mk, hr, over_one T hlTs'.out i (by rw [hlT'.out]; exact hi1) _ (f.length_sec f3)]
          have hL4 := hL3.set (Y := T.set i f.sec)
          have hR4 := Lib.hid (hR3.out.kept (Kept.setRow (F := fun k => k = V) u2 rfl (flatD (T.set i f.sec)).toArray) hqV)
          refine hK.out _ (putRow u2 (.pointer (some ⟨V, i * 64, none⟩)) (sec f.sec)) (by rw [hst]; exact (setRow_other _ _ _ _ hXV).trans hx3) ?_
          rw [hst]
          intro hHeld
          clear hK K hst hr
          try simp only [Act.put, List.getElem_toArray, List.getElem_cons_zero, List.getElem_cons_succ, List.setIfInBounds_toArray, List.set_cons_zero, List.set_cons_succ]
          refine wpAnyH_done (by kernel_rfl) ?_ _
          have hL5 := Lib.hid hL4
          clear hL4 hL3 hHeld hdr hb2 hx3 hbd hbx
          generalize u2.setRow V _ = U at *
          go_wp2_with fail
          go_roundw
          case rel => exact ⟨j + 1, m2 + 1, by omega, by go_num, by have := hm2'.out; omega, by go_num, by rw [hnx.out]; exact hL5.out, hR4.out⟩
          case measure => simp [intOf]; omega
        · obtain rfl : j = nfr r := by omega
          have hall' := Lib.hid (List.take_of_length_le (l := fs) (i := nfr r) (by omega))
          have hm3 : m2 = m + nfr r := hm2'.out
          go_wp2_with fail
          go_roundw
          case rel =>
            refine ⟨k + 1, m2, by omega, by go_num, by rw [hsnoc'.out, hm3]; have := hm'.out; omega, rfl, ?_⟩
            have := hLj'.out
            rw [hall'.out, ← hY'.out, hfs'.out, ← laidF_append] at this
            rw [hrf'.out]
            have hpm : (m : Int) = (p : Int) + needN (recs.take k) := by have := hm'.out; omega
            rw [← hpm]
            exact this
          case measure => simp [intOf]; omega
    · obtain rfl : k = recs.length := by omega
      rw [List.take_of_length_le (l := recs) (Nat.le_refl recs.length)] at hL' hm'
      go_wp2_with fail
      go_ret
      exact ⟨by rw [← hm'.out]; rfl, hL'.out⟩
end Go.Proofs.Ytlhnhhjpjkgogaa.wl
