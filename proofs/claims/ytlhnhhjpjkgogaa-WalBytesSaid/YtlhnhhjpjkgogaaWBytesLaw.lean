/- The walk of WalBytes. -/
import Derived.Test.YtlhnhhjpjkgogaaWStart
import Derived.Test.YtlhnhhjpjkgogaaWEqual
import Derived.Test.YtlhnhhjpjkgogaaWBytesPlain
import Derived.Deep.CutBlock
import Derived.Test.YtlhnhhjpjkgogaaWAwake
namespace Go.Proofs.Ytlhnhhjpjkgogaa.wl
open Go.RowKit Go.Proofs.Ytlhnhhjpjkgogaa.agg Go.Proofs.Ytlhnhhjpjkgogaa.dk
set_option linter.unusedSimpArgs false
set_option linter.unusedVariables false

theorem make_n (n : Nat) (h2 : n ≤ 2048) (u : World) : (Instr.makeSlice 31 (.int .i64 (n : Int)) (.int .i64 (n : Int))).run Try.prog u =
      .ok (.slice (some ⟨u.heap.size, 0, none⟩) n n) (u.alloc (.cells (flatD (List.replicate n zeros)).toArray 26)) := by
  obtain ⟨i0, hi, hz0, hz1, hz2⟩ := info_parts Go.Proofs.Ytlhnhhjpjkgogaa.dk.info_sec
  have h := run_make (P := Try.prog) u 31 26 i0 (.agg (sec zeros)) Try.underlying31 hi hz0 .i64 .i64 (n : Int) (n : Int) (by omega) (Int.le_refl _) (by rw [hz2]; omega) (by omega)
  rw [← madeCells_sec]
  simpa [hz1, Value.cells] using h
theorem ag_act : IsAgg Try.prog 49 4 := ⟨fun _ => by kernel_rfl, fun _ => by kernel_rfl⟩
theorem size_act (x : ActW) : x.cells.size = 4 := rfl
section
variable {a : Act} {w : World} {K : Act → World → Prop} {Q : Exit → Act → World → Prop} {dst : Option Tmp} {ty : TypeId} {pos : String} {aft : Array Edge} {gd : Option (Nat × Bool)}
theorem load_act (x : Operand) (h : aggOk w (a.eval x) 4 = true) : Oper.wp Try.prog ⟨dst, .load 49 x, ty, pos, aft, gd⟩ a w K Q = K (a.put dst (aggAt w (a.eval x) 4)) w := wp_load_agg ag_act x h
theorem store_act (x y : Operand) (h : aggOk w (a.eval x) 4 = true) (hy : plain (a.eval y) 4 = true) : Oper.wp Try.prog ⟨dst, .store 49 x y, ty, pos, aft, gd⟩ a w K Q = K (a.put dst undef) (putRow w (a.eval x) (cellsOf (a.eval y))) := wp_store_agg ag_act x y h hy
end
theorem over_act (x : ActW) : overrow #[Value.int .i64 0, .slice none 0 0, .slice none 0 0, .int .i64 0] 0 x.cells = x.cells := overrow_whole rfl
theorem str_one (W : World) (r : ByteArray) : StrsUnder (W.alloc (.cells #[.string r] 9)).heap.size (W.alloc (.cells #[.string r] 9)) (.slice (some ⟨W.heap.size, 0, none⟩) 1 1) [r] := by
  refine ⟨some ⟨W.heap.size, 0, none⟩, 1, rfl, fun _ => ⟨W.heap.size, 0, rfl, by simp, fun i hi => ?_⟩⟩
  have : i = 0 := by simpa using hi
  subst this
  exact (cell_of_row _ _ _ _ _ _ (heap_alloc_new W (.cells #[.string r] 9))).trans rfl
theorem one_act {B : Nat} {w : World} {v : Value} {l : List ActW} (h : ActsW B w v l) {x : ActW} (hx : x ∈ l) : oneCells x.cells = true := by
  obtain ⟨_, _, e1, _⟩ := h.strs x hx
  obtain ⟨_, _, e2, _⟩ := h.ints x hx
  unfold ActW.cells
  rw [e1, e2]
  rfl
theorem rootFr0 : (rootFr 1 0).cells = #[.int .i64 1, .int .i64 0, .int .i64 3, .string ⟨#[0]⟩] := rfl
theorem size_root (e a : Int) : (rootFr e a).data.size = 1 := by unfold rootFr; simp only; rw [size_strOf]; rfl
/-- The memory of WalBytes between two calls. -/
structure BytesAt (w : World) (L D g V n s : Nat) (area slot : Nat) (epoch at_ k P : Nat) (W : World) : Prop where
  log : ∃ pv st, LogIn W L D g pv st ⟨epoch, slot, area, at_, 0⟩ ∧ (∀ b, lfoot L D g pv b → w.heap.size ≤ b) ∧ ¬ lfoot L D g pv V ∧ st.pend.length ≤ P ∧
    ∃ X, Fine X st ∧ X.length = n ∧ W.heap[V]? = some (.cells (flatD X).toArray 26 (0, 0))
  below : Below w.heap.size w W
  hV : w.heap.size ≤ V
  area : area = 0 ∨ area = 1
  slot : slot = 0 ∨ slot = 1
  fits : at_ ≤ s
  ep : epoch ≤ 1 + k
theorem BytesAt.quiet {w : World} {L D g V n s a b e t k P : Nat} {W W' : World} (h : BytesAt w L D g V n s a b e t k P W) (hb : Below W.heap.size W W') : BytesAt w L D g V n s a b e t k P W' := by
  obtain ⟨⟨pv, st, h1, h2, h3, h4, X, h5, h6, h7⟩, r1, r2, r3, r4, r5, r6⟩ := h
  exact ⟨⟨pv, st, h1.below hb, h2, h3, h4, X, h5, h6, (hb.block _ (lt_of_block h7)).trans h7⟩, r1.trans (hb.mono r1.size), r2, r3, r4, r5, r6⟩
theorem BytesAt.more {w : World} {L D g V n s a b e t k P k' P' : Nat} {W : World} (h : BytesAt w L D g V n s a b e t k P W) (hk : k ≤ k') (hP : P ≤ P') : BytesAt w L D g V n s a b e t k' P' W := by
  obtain ⟨⟨pv, st, h1, h2, h3, h4, X, h5, h6, h7⟩, r1, r2, r3, r4, r5, r6⟩ := h
  exact ⟨⟨pv, st, h1, h2, h3, Nat.le_trans h4 hP, X, h5, h6, h7⟩, r1, r2, r3, r4, r5, by omega⟩
/-- A call of the log. -/
theorem BytesAt.turn {w : World} {L D g V n s a b e t k P : Nat} {W W' : World} {pv pv' : Value} {st' : St} {X' : List (List Int)} {a' b' e' t' k' P' : Nat} (h2 : ∀ q, lfoot L D g pv q → w.heap.size ≤ q) (h3 : ¬ lfoot L D g pv V) (hB : BytesAt w L D g V n s a b e t k P W)
    (hV : V < W.heap.size) (hl : LogIn W' L D g pv' st' ⟨e', b', a', t', 0⟩) (hk : Kept (lfoot L D g pv) W W') (hf : Fresh W pv pv') (hp : st'.pend.length ≤ P') (hX : Fine X' st') (hn : X'.length = n) (hrow : W'.heap[V]? = some (.cells (flatD X').toArray 26 (0, 0)))
    (ha : a' = 0 ∨ a' = 1) (hb : b' = 0 ∨ b' = 1) (ht : t' ≤ s) (he : e' ≤ 1 + k') : BytesAt w L D g V n s a' b' e' t' k' P' W' := by
  refine ⟨⟨pv', st', hl, ?_, ?_, hp, X', hX, hn, hrow⟩, hB.below.trans (hk.below w.heap.size hB.below.size h2), hB.hV, ha, hb, ht, he⟩
  · rintro q (e1 | e1 | e1 | e1)
    · exact h2 q (.inl e1)
    · exact h2 q (.inr (.inl e1))
    · exact h2 q (.inr (.inr (.inl e1)))
    · rcases hf q e1 with e2 | e2
      · exact h2 q (.inr (.inr (.inr e2)))
      · exact Nat.le_trans hB.below.size e2
  · rintro (e1 | e1 | e1 | e1)
    · exact h3 (.inl e1)
    · exact h3 (.inr (.inl e1))
    · exact h3 (.inr (.inr (.inl e1)))
    · rcases hf V e1 with e2 | e2
      · exact h3 (.inr (.inr (.inr e2)))
      · omega
theorem BytesAt.lay {w : World} {L D g V n s a b e t k P : Nat} {W W' : World} {pv pv' : Value} {st' : St} {X' : List (List Int)} {a' b' e' t' k' P' : Nat} (h2 : ∀ q, lfoot L D g pv q → w.heap.size ≤ q) (hB : BytesAt w L D g V n s a b e t k P W)
    (hl : LogIn W' L D g pv' st' ⟨e', b', a', t', 0⟩) (hf : ∀ q, pv'.ownBlock = some q → pv.ownBlock = some q ∨ w.heap.size ≤ q) (hVf : ¬ lfoot L D g pv' V) (hk : Kept (fun q => lfoot L D g pv q ∨ q = V) W W') (hp : st'.pend.length ≤ P') (hX : Fine X' st') (hn : X'.length = n) (hrow : W'.heap[V]? = some (.cells (flatD X').toArray 26 (0, 0)))
    (ha : a' = 0 ∨ a' = 1) (hb : b' = 0 ∨ b' = 1) (ht : t' ≤ s) (he : e' ≤ 1 + k') : BytesAt w L D g V n s a' b' e' t' k' P' W' := by
  refine ⟨⟨pv', st', hl, ?_, hVf, hp, X', hX, hn, hrow⟩, hB.below.trans (hk.below w.heap.size hB.below.size ?_), hB.hV, ha, hb, ht, he⟩
  · rintro q (e1 | e1 | e1 | e1)
    · exact h2 q (.inl e1)
    · exact h2 q (.inr (.inl e1))
    · exact h2 q (.inr (.inr (.inl e1)))
    · rcases hf q e1 with e2 | e2
      · exact h2 q (.inr (.inr (.inr e2)))
      · exact e2
  · rintro i (h | h)
    · exact h2 i h
    · rw [h]; exact hB.hV
attribute [local go_sem ↓] load_act store_act
attribute [local go_sem] size_act over_act
set_option maxRecDepth 100000 in
set_option maxHeartbeats 8000000 in
theorem bytes_walk (w : World) (sectors : Int) (v : Value) (l : List ActW) (hl : ActsW w.heap.size w v l) (hlm : l.length ≤ 9223372036854775807) :
    Calls Try.prog 4 #[.int .i64 sectors, v] w fun e w' => e = .returned (.bool true) ∧ Below w.heap.size w w' := by
  obtain ⟨al, lcap, rfl, hat⟩ := hl.at_
  have hl' := Lib.hid hl
  have hfc := Lib.hid (fun (W : World) (hb : Below w.heap.size w W) => few48_any w.heap.size W _ l (hl.below hb) 20 hlm)
  clear hat hl
  cases hfw : fewW l 20 with
  | false =>
    go_enter Try.func4, Try.ntmps4
    go_wp2_with (first
      | (go_at_call 8; refine (awake_walk _).mono ?_; rintro e w1 ⟨rfl, hb1⟩)
      | (go_at_call 13; refine (hfc.out _ hb1).mono ?_; rintro e _ ⟨rfl, rfl⟩; rw [hfw]))
    go_ret
    exact ⟨rfl, hb1⟩
  | true =>
    by_cases h8 : sectors < 8
    · go_enter Try.func4, Try.ntmps4
      go_wp2_with (first
        | (go_at_call 8; refine (awake_walk _).mono ?_; rintro e w1 ⟨rfl, hb1⟩)
        | (go_at_call 13; refine (hfc.out _ hb1).mono ?_; rintro e _ ⟨rfl, rfl⟩; rw [hfw]))
      go_ret
      exact ⟨rfl, hb1⟩
    by_cases h40 : 40 < sectors
    · go_enter Try.func4, Try.ntmps4
      go_wp2_with (first
        | (go_at_call 8; refine (awake_walk _).mono ?_; rintro e w1 ⟨rfl, hb1⟩)
        | (go_at_call 13; refine (hfc.out _ hb1).mono ?_; rintro e _ ⟨rfl, rfl⟩; rw [hfw]))
      go_ret
      exact ⟨rfl, hb1⟩
    obtain ⟨n, rfl⟩ : ∃ n : Nat, sectors = n := ⟨sectors.toNat, by omega⟩
    have hn8 : 8 ≤ n := by omega
    have hn40 : n ≤ 40 := by omega
    have hmk := make_n n (by omega)
    go_enter Try.func4, Try.ntmps4
    go_upto_region 11 with (first
      | (go_at_call 8; refine (awake_walk _).mono ?_; rintro e w1 ⟨rfl, hb1⟩)
      | (go_at_call 13; refine (hfc.out _ hb1).mono ?_; rintro e _ ⟨rfl, rfl⟩; rw [hfw])
      | (go_at_call 14; refine (new_any n (by omega) (by omega) _).mono ?_; rintro e w2 ⟨D, g, rfl, hd2, hb2, hD, hg⟩)
      | (go_at_call 15; refine (start_walk hn8 hd2).mono ?_; rintro e w3 ⟨L, pv3, rfl, hl3, hk3, hf3, hL3⟩))
    have hlv3 : ∀ b, lfoot L D g pv3 b → w.heap.size ≤ b := by
      have h0 : ∀ k, foot D g (.slice none 0 0) k → w.heap.size ≤ k := by
        rintro k (rfl | rfl | hk)
        · exact Nat.le_trans hb1.size hD
        · exact Nat.le_trans hb1.size hg
        · simp [Value.ownBlock] at hk
      rintro b (rfl | hb)
      · exact Nat.le_trans (Nat.le_trans hb1.size hb2.size) hL3
      · rcases hb with e | e | e
        · exact h0 b (.inl e)
        · exact h0 b (.inr (.inl e))
        · rcases hf3 b e with e' | e'
          · exact h0 b (.inr (.inr e'))
          · exact Nat.le_trans (Nat.le_trans hb1.size hb2.size) e'
    have hb3 : Below w.heap.size w w3 := by
      have h12 : Below w.heap.size w w2 := hb1.trans (hb2.mono hb1.size)
      refine h12.trans (hk3.below w.heap.size h12.size ?_)
      rintro k (rfl | rfl | hk)
      · exact Nat.le_trans hb1.size hD
      · exact Nat.le_trans hb1.size hg
      · simp [Value.ownBlock] at hk
    have hl3' := Lib.hid hl3
    have hlv3' := Lib.hid hlv3
    have hb3' := Lib.hid hb3
    clear hb1 hd2 hb2 hD hg hl3 hk3 hf3 hL3 hlv3 hb3
    go_upto_region 12 with fail
    have hbm : Below w3.heap.size w3 (w3.alloc (.cells (flatD (List.replicate n zeros)).toArray 26)) := (Below.refl _ _).alloc (Nat.le_refl _) _
    have hVm : (w3.alloc (.cells (flatD (List.replicate n zeros)).toArray 26)).heap[w3.heap.size]? = some (.cells (flatD (List.replicate n zeros)).toArray 26 (0, 0)) := heap_alloc_new _ _
    have hl4 := Lib.hid (hl3'.out.below hbm)
    have hVf : ¬ lfoot L D g pv3 w3.heap.size := fun e => by have := hl3'.out.lt _ e; omega
    have hVf' := Lib.hid hVf
    have hb4 := Lib.hid (hb3'.out.trans (hbm.mono hb3'.out.size))
    have hV0 : w.heap.size ≤ w3.heap.size := hb3'.out.size
    have hVm' := Lib.hid hVm
    clear hl3' hb3' hmk hbm hVm hVf
    generalize w3.alloc _ = w4 at *
    generalize w3.heap.size = V at *
    have hov := Lib.hid (over_one (List.replicate n zeros) (fun s hs => by rw [(List.mem_replicate.1 hs).2]; exact length_zeros) 0 (by simp; omega) (rootFr 1 0).sec (Fr.length_sec _ (by rw [size_root]; omega)))
    have hrs : 64 ≤ (flatD (List.replicate n zeros)).toArray.size := by
      rw [List.size_toArray, size_flatD _ (fun s hs => by rw [(List.mem_replicate.1 hs).2]; exact length_zeros)]
      simp
      omega
    have hrl : (rootFr 1 0).sec.length = 64 := Fr.length_sec _ (by rw [size_root]; omega)
    generalize hrow : (flatD (List.replicate n zeros)).toArray = row at *
    clear hrow
    have hsz := rsize_any
    have hS : (n - 2) / 2 ≤ 19 := by omega
    have hsc := Lib.hid (fun W => rsize_any W n (by omega) (by omega))
    clear hsz
    generalize hsd : (n - 2) / 2 = s at *
    have hsd' := Lib.hid hsd
    clear hsd
    go_wp2_with (first
      | (go_at_call 9; refine (rwrite_walk _ (rootFr 1 0) (by rw [size_root]; omega) (by decide) (by decide)).mono ?_; rintro e w5 ⟨rfl, hb5⟩; have r5 := rowOf_of ((hb5.block _ (lt_of_block hVm'.out)).trans hVm'.out))
      | (go_at_call 16; refine (hsc.out _).mono ?_; rintro e _ ⟨rfl, rfl⟩))
    have hov2 : overrow row 0 (sec (rootFr 1 0).sec) = (flatD (startX n)).toArray := hov.out
    rw [hov2]
    have hst0 : BytesAt w L D g V n s 0 0 1 0 0 0 (w5.setRow V (flatD (startX n)).toArray) := by
      have hk5 : Kept (fun b => b = V) w4 (w5.setRow V (flatD (startX n)).toArray) := (Kept.of_below hb5).trans (Kept.setRow (F := fun b => b = V) w5 rfl _)
      refine ⟨⟨pv3, startSt n, hl4.out.kept hk5 (fun k hk e => hVf'.out (e ▸ hk)), hlv3'.out, hVf'.out, by rw [(start_fine n hn8).2.2]; simp, startX n, (start_fine n hn8).2.1, by simp [startX], setRow_heap _ _ _ _ _ _ ((hb5.block _ (lt_of_block hVm'.out)).trans hVm'.out)⟩, hb4.out.trans (hk5.below w.heap.size hb4.out.size (fun i hi => hi ▸ hV0)), hV0, .inl rfl, .inl rfl, Nat.zero_le _, Nat.le_refl _⟩
    have hst0' := Lib.hid hst0
    clear hst0 hov hov2 hb5 r5 hl4 hVf' hVm' hlv3' hb4 hrs hrl
    generalize w5.setRow V _ = w6 at *
    have h20 := Lib.hid (fewW_true hfw)
    have hl20 : l.length ≤ 20 := by have := (fewW_true hfw).2; omega
    clear hfw
    go_loopw [9, 10, 11, 12, 66] (fun ar ep at' sl i wr => ∃ (k a e t b : Nat), k ≤ l.length ∧ i = .int .i64 k ∧ ar = .int .i64 a ∧ ep = .int .i64 e ∧ at' = .int .i64 t ∧ sl = .int .i64 b ∧ BytesAt w L D g V n s a b e t k (100 * k) wr) (fun _ _ _ _ i _ => l.length - (intOf i).toNat)
    case atStart => exact ⟨0, 0, 1, 0, 0, Nat.zero_le _, rfl, rfl, rfl, rfl, rfl, hst0'.out⟩
    case round =>
      obtain ⟨k, a, e, t, b, hk, rfl, rfl, rfl, rfl, rfl, hB⟩ := hrel
      have hB' := Lib.hid hB
      clear hB hst0'
      by_cases hlt : k < l.length
      · have hlt' : k < l.length := hlt
        obtain ⟨ao, acap, hac, hat⟩ := (hl'.out.below hB'.out.below).at_
        injection hac with e1 e2 e3
        obtain ⟨ab, ai, hab, haB, hcl⟩ := hat (by omega)
        rw [e1, hab]
        have hcx := hcl k hlt'
        have hxs1 := Lib.hid (hl'.out.strs l[k] (List.getElem_mem hlt'))
        have hx20 := Lib.hid (h20.out.1 l[k] (List.getElem_mem hlt'))
        have hone := one_act hl'.out (List.getElem_mem hlt')
        clear hat hcl e1 e2 e3 hab
        generalize l[k] = x at *
        go_upto_region 18 with (with_reducible refine wpList_load_cells ag_act rfl (.tmp 68) rfl ab (ai + k * 4) rfl x.cells (size_act x) hcx ?_)
        have hb1 : Below wr.heap.size wr (wr.alloc (.cells x.cells 49)) := (Below.refl _ _).alloc (Nat.le_refl _) _
        have hbox : (wr.alloc (.cells x.cells 49)).heap[wr.heap.size]? = some (.cells x.cells 49 (0, 0)) := heap_alloc_new _ _
        have y0 : (wr.alloc (.cells x.cells 49)).cell? ⟨wr.heap.size, 0, none⟩ = some (.int .i64 x.kind) := (cell_of_row _ _ _ _ _ _ hbox).trans rfl
        have y1 : (wr.alloc (.cells x.cells 49)).cell? ⟨wr.heap.size, 1, none⟩ = some x.rv := (cell_of_row _ _ _ _ _ _ hbox).trans rfl
        have hB1 := Lib.hid (hB'.out.quiet hb1)
        have hCP : Hid (∃ pv st X, LogIn (wr.alloc (.cells x.cells 49)) L D g pv st ⟨e, b, a, t, 0⟩ ∧ (∀ q, lfoot L D g pv q → w.heap.size ≤ q) ∧ ¬ lfoot L D g pv V ∧ ¬ lfoot L D g pv wr.heap.size ∧ st.pend.length ≤ 100 * k ∧ Fine X st ∧ X.length = n ∧ (wr.alloc (.cells x.cells 49)).heap[V]? = some (.cells (flatD X).toArray 26 (0, 0))) := by
          obtain ⟨⟨pv, st, k1, k2, k3, k4, X, k5, k6, k7⟩, _⟩ := hB'.out
          exact ⟨pv, st, X, k1.below hb1, k2, k3, fun e => by have := k1.lt _ e; omega, k4, k5, k6, (hb1.block _ (lt_of_block k7)).trans k7⟩
        have hbox' := Lib.hid hbox
        clear hb1 hbox hone hcx hB'
        generalize wr.alloc _ = W1 at *
        generalize wr.heap.size = Z at *
        go_upto_block 2 with fail
        go_cut [9, 10, 11, 12] from 70 to 177 (fun ar ep at' sl wx => ∃ a e t b : Nat, ar = .int .i64 a ∧ ep = .int .i64 e ∧ at' = .int .i64 t ∧ sl = .int .i64 b ∧ BytesAt w L D g V n s a b e t (k + 1) (100 * (k + 1)) wx)
        case first =>
          by_cases c0 : x.kind = 0
          · rw [c0]
            clear c0
            obtain ⟨ro, rc, hrv, _⟩ := id hxs1.out
            rw [hrv] at y1
            have hxs2 := Lib.hid (hrv ▸ hxs1.out)
            clear hrv
            go_wp2_with fail
            go_loopw [11, 77] (fun at' j W => ∃ m t' : Nat, m ≤ x.recs.length ∧ j = .int .i64 m ∧ at' = .int .i64 t' ∧ BytesAt w L D g V n s a b e t' k (100 * k + 10 * m) W) (fun _ j _ => x.recs.length - (intOf j).toNat)
            case atStart => exact ⟨0, t, Nat.zero_le _, rfl, rfl, hB1.out⟩
            case round =>
              obtain ⟨m, t', hm, rfl, rfl, hBm⟩ := hrel
              have hBm' := Lib.hid hBm
              clear hBm
              by_cases hml : m < x.recs.length
              · have hml' : m < x.recs.length := hml
                obtain ⟨_, rb, roff, rfl, hrB, hrc⟩ := strs_get (n := x.recs.length) hxs2.out hBm'.out.below m hml'
                have hsz : x.recs[m].size ≤ 300 := hx20.out.2.2 _ (List.getElem_mem hml')
                have h6 : x.recs.length ≤ 6 := hx20.out.1
                generalize x.recs[m] = r at *
                have hr65 : r.size ≤ 65536 := by omega
                have hnr : nfr r ≤ 6 := by unfold nfr; omega
                have hnr1 : 1 ≤ nfr r := by unfold nfr; omega
                obtain ⟨⟨pv, st, q1, q2, q3, q4, X, q5, q6, q7⟩, r1, r2, r3, r4, r5, r6⟩ := id hBm'.out
                have hVl := lt_of_block q7
                have hA := append_walk q1 r (by omega) (by rcases r3 with rfl | rfl <;> simp) ⟨by simp only; omega, by simp only; omega⟩ (by omega)
                have hs0 : s = (X.length - 2) / 2 := by rw [q6]; exact hsd'.out.symm
                have hXl : X.length = n := q6
                have hr1' := Lib.hid r1
                clear r1
                by_cases hfit : t' + nfr r ≤ s
                · obtain ⟨st', p1, p2, p3⟩ := append_fine (e := e) (b := b) (t := t') q5 (by omega) hs0 r3 r hr65 hfit
                  rw [p1] at hA
                  have hA' := Lib.hid hA
                  have hq2' := Lib.hid q2
                  have hq3' := Lib.hid q3
                  have hq7' := Lib.hid q7
                  have hq5' := Lib.hid q5
                  have hP4 : st.pend.length ≤ 100 * k + 10 * m := q4
                  have hp2' := Lib.hid p2
                  have hp3' := Lib.hid p3
                  clear p2 p3
                  have hq6' := Lib.hid q6
                  have hs0' := Lib.hid hs0
                  clear hA p1 q1 q2 q3 q5 q7 q4 q6 hs0 hXl
                  go_wp2_with fail
                  go_at_call 17
                  refine hA'.out.mono ?_
                  rintro e9 u1 ⟨pv1, rfl, hl1, hk1, hf1⟩
                  have hrow1 := (hk1.block V hVl hq3'.out).trans hq7'.out
                  have hVu := lt_of_block hrow1
                  have hl1' := Lib.hid hl1
                  have hk1' := Lib.hid hk1
                  have hf1' := Lib.hid hf1
                  have hrow1' := Lib.hid hrow1
                  clear hl1 hk1 hf1 hrow1 hA'
                  go_wp2_with fail
                  go_at_call 18
                  have hbz : Below u1.heap.size u1 (u1.alloc (.cells #[.string r] 9)) := (Below.refl _ _).alloc (Nat.le_refl _) _
                  have hsu : StrsUnder (u1.alloc (.cells #[.string r] 9)).heap.size (u1.alloc (.cells #[.string r] 9)) (.slice (some ⟨u1.heap.size, 0, none⟩) 1 1) [r] := str_one u1 r
                  refine (need_walk _ _ [r] hsu (by simpa using hr65) (by simp)).mono ?_
                  rintro e9 u2 ⟨rfl, hb2⟩
                  rw [show needN [r] = nfr r by simp [needN]]
                  have hbu2 := Lib.hid (hbz.trans (hb2.mono hbz.size))
                  clear hbz hsu hb2
                  have hns' := Lib.hid (nsec_any u2 r hr65)
                  have hfit2 : (t' : Int) + (nfr r : Int) ≤ (s : Int) := by omega
                  have hnf : Hid (nfr r = nfr r) := rfl
                  generalize hnfd : nfr r = nf at *
                  have hnfd' := Lib.hid hnfd
                  clear hnfd hnf
                  go_wp2_with (go_at_call 19; refine hns'.out.mono ?_; rintro e9 u3 ⟨rfl, hb3⟩)
                  have hbz2 : Below u3.heap.size u3 (u3.alloc (.cells #[.string r] 9)) := (Below.refl _ _).alloc (Nat.le_refl _) _
                  have hb13 := Lib.hid ((hbu2.out.trans (hb3.mono hbu2.out.size)).trans (hbz2.mono (Nat.le_trans hbu2.out.size hb3.size)))
                  have hap : StrsApart V (u3.alloc (.cells #[.string r] 9)) (.slice (some ⟨u3.heap.size, 0, none⟩) 1 1) [r] := by
                    have hlt3 : V < u3.heap.size := Nat.lt_of_lt_of_le hVu (Nat.le_trans hbu2.out.size hb3.size)
                    refine ⟨some ⟨u3.heap.size, 0, none⟩, 1, rfl, fun _ => ⟨u3.heap.size, 0, rfl, by omega, by simp, fun i hi => ?_⟩⟩
                    have : i = 0 := by simpa using hi
                    subst this
                    exact (cell_of_row _ _ _ _ _ _ (heap_alloc_new u3 (.cells #[.string r] 9))).trans rfl
                  have hap' := Lib.hid hap
                  clear hbz2 hb3 hbu2 hns' hap
                  generalize u3.alloc _ = W3 at *
                  generalize u3.heap.size = Z3 at *
                  have hrow3 := (hb13.out.block V hVu).trans hrow1'.out
                  have hlay := lay_walk W3 V n n X hrow3 hq6'.out hq5'.out.lens a s (2 + a * s) t' (e : Int) r3 ⟨by omega, by omega⟩ hsd'.out.symm rfl ⟨by omega, by omega⟩ _ [r] hap'.out (by simpa using hr65) (by simp) (by rw [show needN [r] = nfr r by simp [needN], hnfd'.out]; exact hfit)
                  rw [show needN [r] = nf by rw [← hnfd'.out]; simp [needN], show recFrames [r] (e : Int) (t' : Int) = framesOf r e t' by simp [recFrames]] at hlay
                  have hlay' := Lib.hid hlay
                  clear hlay hrow3 hap'
                  refine hlay'.out.mono ?_
                  rintro e9 u4 ⟨rfl, hL4⟩
                  have hl3 := hl1'.out.below hb13.out
                  have hVf1 : ¬ lfoot L D g pv1 V := by
                    rintro (q | q | q | q)
                    · exact hq3'.out (.inl q)
                    · exact hq3'.out (.inr (.inl q))
                    · exact hq3'.out (.inr (.inr (.inl q)))
                    · rcases hf1'.out V q with q2 | q2
                      · exact hq3'.out (.inr (.inr (.inr q2)))
                      · omega
                  have hl4 := hl3.kept hL4.kept (fun q hq e => hVf1 (e ▸ hq))
                  have hk14 : Kept (fun q => lfoot L D g pv q ∨ q = V) wr u4 := by
                    have h1 : Kept (fun q => lfoot L D g pv q ∨ q = V) wr u1 := hk1'.out.mono (fun _ _ h => .inl h)
                    exact (h1.trans (Kept.of_below hb13.out)).trans (hL4.kept.mono (fun _ _ h => .inr h))
                  have hB4 := Lib.hid (BytesAt.lay hq2'.out hBm'.out hl4 (fun q hq => by
                      rcases hf1'.out q hq with q2 | q2
                      · exact .inl q2
                      · exact .inr (Nat.le_trans hBm'.out.below.size q2)) hVf1 hk14 (P' := 100 * k + 10 * m + nfr r) (k' := k) (by have := hp3'.out; have := hnfd'.out; omega) hp2'.out (by rw [laidF_len]; exact hq6'.out) hL4.row r3 r4 (show t' + nf ≤ s from hfit) r6)
                  clear hl3 hl4 hk14 hL4 hVf1 hlay' hb13
                  go_wp2_with fail
                  go_roundw
                  case rel => exact ⟨m + 1, t' + nf, by omega, by go_num, by go_num, hB4.out.more (by omega) (by have := hnfd'.out; omega)⟩
                  case measure => simp [intOf]; omega
                · have p1 := append_full (e := e) (b := b) (a := a) (t := t') q5 (by omega) hs0 r hfit
                  rw [p1] at hA
                  have hA' := Lib.hid hA
                  have hq2' := Lib.hid q2
                  have hq3' := Lib.hid q3
                  have hq7' := Lib.hid q7
                  have hq5' := Lib.hid q5
                  have hP4 : st.pend.length ≤ 100 * k + 10 * m := q4
                  have hq6' := Lib.hid q6
                  have hs0' := Lib.hid hs0
                  clear hA p1 q1 q2 q3 q5 q7 q4 q6 hs0 hXl
                  go_wp2_with fail
                  go_at_call 17
                  refine hA'.out.mono ?_
                  rintro e9 u1 ⟨pv1, rfl, hl1, hk1, hf1⟩
                  have hB2 := Lib.hid (BytesAt.turn hq2'.out hq3'.out hBm'.out hVl hl1 hk1 hf1 (P' := 100 * k + 10 * m) (k' := k) hP4 hq5'.out hq6'.out ((hk1.block V hVl hq3'.out).trans hq7'.out) r3 r4 r5 r6)
                  have hl1' := Lib.hid hl1
                  clear hl1 hA'
                  go_wp2_with fail
                  go_at_call 18
                  have hbz : Below u1.heap.size u1 (u1.alloc (.cells #[.string r] 9)) := (Below.refl _ _).alloc (Nat.le_refl _) _
                  have hsu : StrsUnder (u1.alloc (.cells #[.string r] 9)).heap.size (u1.alloc (.cells #[.string r] 9)) (.slice (some ⟨u1.heap.size, 0, none⟩) 1 1) [r] := str_one u1 r
                  refine (need_walk _ _ [r] hsu (by simpa using hr65) (by simp)).mono ?_
                  rintro e9 u2 ⟨rfl, hb2⟩
                  rw [show needN [r] = nfr r by simp [needN]]
                  have hB3 := Lib.hid ((hB2.out.quiet hbz).quiet hb2)
                  have hns' := Lib.hid (nsec_any u2 r hr65)
                  clear hB2 hbz hsu hb2
                  have hfit2 : ¬ (t' : Int) + (nfr r : Int) ≤ (s : Int) := by omega
                  generalize nfr r = nf at *
                  go_wp2_with (go_at_call 19; refine hns'.out.mono ?_; rintro e9 u3 ⟨rfl, hb3⟩; have hB4 := Lib.hid (hB3.out.quiet hb3))
                  go_roundw
                  case rel => exact ⟨m + 1, t', by omega, by go_num, rfl, hB4.out.more (by omega) (by omega)⟩
                  case measure => simp [intOf]; omega
              · obtain rfl : m = x.recs.length := by omega
                have h6 := hx20.out.1
                go_wp2_with fail
                go_meet
                exact ⟨a, e, t', b, rfl, rfl, rfl, rfl, hBm'.out.more (by omega) (by omega)⟩
          · have c0' : (x.kind == 0) = false := by simpa using c0
            clear c0
            by_cases c1 : x.kind = 1
            · rw [c1]
              clear c0' c1 y1
              obtain ⟨⟨pv, st, q1, q2, q3, q4, X, q5, q6, q7⟩, r1, r2, r3, r4, r5, r6⟩ := id hB1.out
              obtain ⟨p1, p2, p3⟩ := sync_fine (e := e) (b := b) (a := a) (t := t) q5
              have hVl := lt_of_block q7
              have hS := sync_walk q1 (by omega)
              rw [p1] at hS
              have hS' := Lib.hid hS
              have hp0 : st.flush.1.pend.length = 0 := by rw [p3]; rfl
              have hq1' := Lib.hid q1
              have hq2' := Lib.hid q2
              have hq3' := Lib.hid q3
              have hq7' := Lib.hid q7
              have hp2' := Lib.hid p2
              have hp0' := Lib.hid hp0
              clear hS p1 p2 p3 q1 q2 q3 q4 q5 q7 r1 hp0
              go_wp2_with fail
              go_at_call 21
              refine hS'.out.mono ?_
              rintro e9 u1 ⟨pv1, rfl, hl1, hk1, hf1⟩
              have hB2 := Lib.hid (BytesAt.turn hq2'.out hq3'.out hB1.out hVl hl1 hk1 hf1 (P' := 100 * (k + 1)) (k' := k + 1) (by have := hp0'.out; simp only; omega) hp2'.out q6 ((hk1.block V hVl hq3'.out).trans hq7'.out) r3 r4 r5 (by omega))
              have hl1' := Lib.hid hl1
              clear hl1 hk1 hf1 hS'
              go_wp2_with (go_at_call 22; refine (pending_any _ hl1'.out.disk).mono ?_; rintro e9 _ ⟨rfl, rfl⟩; rw [hp0'.out])
              go_meet
              exact ⟨a, e, t, b, rfl, rfl, rfl, rfl, hB2.out⟩
            · have c1' : (x.kind == 1) = false := by simpa using c1
              clear c1
              by_cases c2 : x.kind = 2
              · rw [c2]
                clear c0' c1' c2
                obtain ⟨ro, rc, hrv, _⟩ := id hxs1.out
                rw [hrv] at y1
                have hxs2 := Lib.hid (hrv ▸ hxs1.out)
                obtain ⟨pv, st, X, q1, q2, q3, q4, q5, q6, q7, q8⟩ := hCP.out
                have hBW : Below w.heap.size w W1 := hB1.out.below
                have r3 := hB1.out.area
                have r4 := hB1.out.slot
                have r5 := hB1.out.fits
                have r6 := hB1.out.ep
                have h6 : x.recs.length ≤ 6 := hx20.out.1
                have hr65 : ∀ r ∈ x.recs, r.size ≤ 65536 := fun r hr => by have := hx20.out.2.2 r hr; omega
                have hVl := lt_of_block q8
                have hC := check_walk q1 (B := w.heap.size) hBW.size q2 _ x.recs (hxs2.out.below hBW) hr65 (by omega) (by rcases r3 with rfl | rfl <;> simp) (by rcases r4 with rfl | rfl <;> simp) ⟨by simp only; omega, by simp only; omega⟩ (by omega)
                have hs0 : s = (X.length - 2) / 2 := by rw [q7]; exact hsd'.out.symm
                have hr65' := Lib.hid hr65
                by_cases hfit : needN x.recs ≤ s
                · obtain ⟨st', p1, p2, p3⟩ := check_fine (e := e) (b := b) (t := t) q6 (by omega) hs0 r3 r4 (by omega) x.recs hfit
                  rw [p1] at hC
                  obtain ⟨a', ha'⟩ : ∃ a', a' = 1 - a := ⟨_, rfl⟩
                  obtain ⟨b', hb'⟩ : ∃ b', b' = 1 - b := ⟨_, rfl⟩
                  unfold checkX at p2
                  rw [← ha', ← hb'] at hC p2
                  rw [show ((e + 1 : Nat) : Int) = (e : Int) + 1 by omega] at p2
                  have ea : (1 : Int) - (a : Int) = (a' : Int) := by omega
                  have eb : (1 : Int) - (b : Int) = (b' : Int) := by omega
                  have ra : a' = 0 ∨ a' = 1 := by omega
                  have rb : b' = 0 ∨ b' = 1 := by omega
                  have hC' := Lib.hid hC
                  have hq2' := Lib.hid q2
                  have hq3' := Lib.hid q3
                  have hq4' := Lib.hid q4
                  have hq6' := Lib.hid q6
                  have hq7' := Lib.hid q7
                  have hq8' := Lib.hid q8
                  have hBW' := Lib.hid hBW
                  have y1' := Lib.hid y1
                  have hp2' := Lib.hid p2
                  have hp3' := Lib.hid p3
                  have ra' := Lib.hid ra
                  have rb' := Lib.hid rb
                  have hXl : X.length = n := q7
                  clear hC p1 p2 p3 q1 q2 q3 q4 q6 q7 q8 hs0 hr65 hrv hBW ra rb ha' hb'
                  go_wp2_with fail
                  go_at_call 23
                  refine hC'.out.mono ?_
                  rintro e9 u1 ⟨pv1, rfl, hl1, hk1, hf1⟩
                  have hbx1 := (hk1.block Z (lt_of_block hbox'.out) hq4'.out).trans hbox'.out
                  have y2 : u1.cell? ⟨Z, 1, none⟩ = some (.slice ro x.recs.length rc) := (World.cell?_of_block (w := W1) (hk1.block Z (lt_of_block hbox'.out) hq4'.out)).trans y1'.out
                  have hbu1 : Below w.heap.size w u1 := hBW'.out.trans (hk1.below w.heap.size hBW'.out.size hq2'.out)
                  have hrow1 := (hk1.block V hVl hq3'.out).trans hq8'.out
                  have hVu1 := lt_of_block hrow1
                  have hxs3 := Lib.hid ((hxs2.out.below hbu1).mono hbu1.size)
                  have hNle := needN_le x.recs hr65'.out
                  have hNn : needN x.recs ≤ 10000 := by omega
                  have hfit2 : ((needN x.recs : Nat) : Int) ≤ (s : Int) := by omega
                  have hneed := Lib.hid (need_walk u1 _ x.recs hxs3.out hr65'.out (by omega))
                  have hfitN := Lib.hid hfit
                  have hl1' := Lib.hid hl1
                  have hk1' := Lib.hid hk1
                  have hf1' := Lib.hid hf1
                  have hbu1' := Lib.hid hbu1
                  have hrow1' := Lib.hid hrow1
                  have hbx1' := Lib.hid hbx1
                  have y2' := Lib.hid y2
                  have hXl' := Lib.hid hXl
                  clear hl1 hk1 hf1 hC' hbx1 y1 hNle hbu1 hrow1 hfit hXl
                  generalize hNd : needN x.recs = N at *
                  have hNd' := Lib.hid hNd
                  clear hNd
                  go_upto_region 39 with (go_at_call 18; refine hneed.out.mono ?_; rintro e9 u2 ⟨rfl, hb2⟩; have y3 : u2.cell? ⟨Z, 1, none⟩ = some (.slice ro x.recs.length rc) := (World.cell?_of_block (w := u1) (hb2.block Z (lt_of_block hbx1'.out))).trans y2'.out)
                  have hrow2 := (hb2.block V hVu1).trans hrow1'.out
                  have hlay := lay_walk u2 V n n X hrow2 hXl'.out hq6'.out.lens a' s (2 + a' * s) 0 ((e + 1 : Nat) : Int) ra'.out ⟨by omega, by omega⟩ hsd'.out.symm rfl ⟨by omega, by omega⟩ (.slice ro x.recs.length rc) x.recs ((hxs2.out.below (hbu1'.out.trans (hb2.mono hbu1'.out.size))).apart hB1.out.hV (Nat.le_trans hbu1'.out.size hb2.size)) hr65'.out (by omega) (by have h1 := hNd'.out; have h2 := hfitN.out; omega)
                  rw [show ((e + 1 : Nat) : Int) = (e : Int) + 1 by omega, show ((0 : Nat) : Int) = (0 : Int) from rfl] at hlay
                  have hlay' := Lib.hid hlay
                  have hb2' := Lib.hid hb2
                  clear hlay hneed hrow2 hb2 y2
                  go_wp2_with fail
                  go_at_call 20
                  refine hlay'.out.mono ?_
                  rintro e9 u3 ⟨rfl, hL3⟩
                  rw [show ((0 + needN x.recs : Nat) : Int) = (N : Int) by have := hNd'.out; omega]
                  have hYl : Hid ((laidF ((2 + a' * s : Nat) : Int) X (recFrames x.recs ((e : Int) + 1) 0)).length = n) := by rw [laidF_len]; exact hXl'.out
                  have hYs := Lib.hid (laidF_lens ((2 + a' * s : Nat) : Int) (recFrames x.recs ((e : Int) + 1) 0) (recFrames_small _ _ _) X hq6'.out.lens)
                  have hWr : ∀ W, Calls Try.prog 9 #[.agg #[.int .i64 ((e : Int) + 1), .int .i64 0, .int .i64 3, .string (strOf [(a' : Int)])]] W fun e9 w' => e9 = .returned (.agg (sec (rootFr ((e : Int) + 1) (a' : Int)).sec)) ∧ Below W.heap.size W w' := fun W => rwrite_walk W (rootFr ((e : Int) + 1) (a' : Int)) (by rw [size_root]; omega) ⟨by show (0 : Int) ≤ (e : Int) + 1; omega, by show (e : Int) + 1 < _; omega⟩ ⟨by show (0 : Int) ≤ 0; omega, by show (0 : Int) < _; omega⟩
                  have hcv : ∀ (W : World) (Xq : Nat), W.cell? ⟨Xq, 0, none⟩ = some (.int .u8 (a' : Int)) → (convert 28 9 (.slice (some ⟨Xq, 0, none⟩) 1 1)).run Try.prog W = .ok (.string (strOf [(a' : Int)])) W := by
                    intro W Xq hc
                    have hx : ∀ i, i < 1 → W.cell? ⟨Xq, 0 + i, none⟩ = some (.int .u8 (([(a' : Int)] : List Int).getD i 0)) := by
                      intro i hi
                      obtain rfl : i = 0 := by omega
                      simpa using hc
                    exact run_convert_bytes_arg W 28 5 Try.underlying28 Try.underlying5 Xq 0 1 1 [(a' : Int)] rfl hx 9 Try.underlying9
                  have hub : IntKind.u8.wrap (a' : Int) = a' := by rcases ra'.out with h | h <;> rw [h] <;> rfl
                  have hRl : (rootFr ((e : Int) + 1) (a' : Int)).sec.length = 64 := Fr.length_sec _ (by rw [size_root]; omega)
                  have hWr' := Lib.hid hWr
                  have hRl' := Lib.hid hRl
                  clear hWr hRl
                  generalize (rootFr ((e : Int) + 1) (a' : Int)).sec = R at *
                  generalize strOf [(a' : Int)] = d at *
                  generalize laidF ((2 + a' * s : Nat) : Int) X (recFrames x.recs ((e : Int) + 1) 0) = Y at *
                  have hbn : b' < n := by have := rb'.out; omega
                  have hbw : b' ≤ 1 := by have := rb'.out; omega
                  have haw : a' ≤ 1 := by have := ra'.out; omega
                  have hL3' := Lib.hid hL3
                  clear hL3 hlay' y3
                  go_wp2_with fail
                  go_at_call 9
                  refine (hWr'.out _).mono ?_
                  rintro e9 u4 ⟨rfl, hb4⟩
                  have hbA : Below u3.heap.size u3 (u3.alloc (.cells #[.int .u8 (a' : Int)] 5)) := (Below.refl _ _).alloc (Nat.le_refl _) _
                  have hb34 := Lib.hid (hbA.trans (hb4.mono hbA.size))
                  have hL4 := Lib.hid (hL3'.out.below hb34.out)
                  have hr4 := rowOf_of hL4.out.row
                  have hsz4 : b' * 64 + 64 ≤ (flatD Y).toArray.size := by
                    rw [List.size_toArray, size_flatD _ hYs.out, hYl.out]
                    omega
                  have hov := Lib.hid (over_one Y hYs.out b' (by rw [hYl.out]; exact hbn) R hRl'.out)
                  generalize hrow : (flatD Y).toArray = row at *
                  clear hrow hb4 hbA
                  have hVf1 : ¬ lfoot L D g pv1 V := by
                    rintro (q | q | q | q)
                    · exact hq3'.out (.inl q)
                    · exact hq3'.out (.inr (.inl q))
                    · exact hq3'.out (.inr (.inr (.inl q)))
                    · rcases hf1'.out V q with q2 | q2
                      · exact hq3'.out (.inr (.inr (.inr q2)))
                      · omega
                  have hks : Kept (fun q => q = V) u1 (u4.setRow V (flatD (Y.set b' R)).toArray) := (Kept.of_below hb2'.out).trans (hL4.out.kept.trans (Kept.setRow (F := fun q => q = V) u4 rfl _))
                  have hl5 := Lib.hid (hl1'.out.kept hks (fun q hq e => hVf1 (e ▸ hq)))
                  have hk15 : Kept (fun q => lfoot L D g pv q ∨ q = V) W1 (u4.setRow V (flatD (Y.set b' R)).toArray) := (hk1'.out.mono (fun _ _ h => .inl h)).trans (hks.mono (fun _ _ h => .inr h))
                  have hB4 := Lib.hid (BytesAt.lay (a' := a') (b' := b') (e' := e + 1) (t' := N) hq2'.out hB1.out hl5.out (fun q hq => by
                      rcases hf1'.out q hq with q2 | q2
                      · exact .inl q2
                      · exact .inr (Nat.le_trans hBW'.out.size q2)) hVf1 hk15 (P' := 100 * (k + 1)) (k' := k + 1) (by rw [hp3'.out]; simp) hp2'.out (by rw [List.length_set]; exact hYl.out) (setRow_heap _ _ _ _ _ _ hL4.out.row) ra'.out rb'.out (by have h1 := hNd'.out; have h2 := hfitN.out; omega) (by omega))
                  have hpend : Hid (st'.pend.length = 0) := by rw [hp3'.out]; rfl
                  clear hVf1 hks hk15 hL4
                  have hRl := hRl'.out
                  go_upto_region 41 with fail
                  rw [hov.out]
                  generalize u4.setRow V _ = u5 at *
                  clear hr4 hsz4 hov
                  go_wp2_with (go_at_call 22; refine (pending_any _ hl5.out.disk).mono ?_; rintro e9 _ ⟨rfl, rfl⟩; rw [hpend.out])
                  go_meet
                  exact ⟨a', e + 1, N, b', rfl, by go_num, rfl, rfl, hB4.out⟩
                · have p1 := check_full (e := e) (b := b) (a := a) (t := t) q6 (by omega) hs0 x.recs hfit
                  rw [p1] at hC
                  have hC' := Lib.hid hC
                  have hq2' := Lib.hid q2
                  have hq3' := Lib.hid q3
                  have hq4' := Lib.hid q4
                  have hq6' := Lib.hid q6
                  have hq7' := Lib.hid q7
                  have hq8' := Lib.hid q8
                  have hBW' := Lib.hid hBW
                  have y1' := Lib.hid y1
                  clear hC p1 q1 q2 q3 q4 q6 q7 q8 hs0 hr65 hrv hBW
                  go_wp2_with fail
                  go_at_call 23
                  refine hC'.out.mono ?_
                  rintro e9 u1 ⟨pv1, rfl, hl1, hk1, hf1⟩
                  have hB2 := Lib.hid (BytesAt.turn hq2'.out hq3'.out hB1.out hVl hl1 hk1 hf1 (P' := 100 * (k + 1)) (k' := k + 1) (by simp only; omega) hq6'.out hq7'.out ((hk1.block V hVl hq3'.out).trans hq8'.out) r3 r4 r5 (by omega))
                  have hbx1 := (hk1.block Z (lt_of_block hbox'.out) hq4'.out).trans hbox'.out
                  have y2 : u1.cell? ⟨Z, 1, none⟩ = some (.slice ro x.recs.length rc) := (World.cell?_of_block (w := W1) (hk1.block Z (lt_of_block hbox'.out) hq4'.out)).trans y1'.out
                  have hxs3 := Lib.hid ((hxs2.out.below hB2.out.below).mono hB2.out.below.size)
                  have hNle := needN_le x.recs hr65'.out
                  have hNn : needN x.recs ≤ 10000 := by omega
                  have hfit2 : ¬ ((needN x.recs : Nat) : Int) ≤ (s : Int) := by omega
                  have hneed := Lib.hid (need_walk u1 _ x.recs hxs3.out hr65'.out (by omega))
                  clear hl1 hk1 hf1 hC' hbx1 y1 hNle
                  generalize needN x.recs = N at *
                  go_wp2_with (go_at_call 18; refine hneed.out.mono ?_; rintro e9 u2 ⟨rfl, hb2⟩; have hB3 := Lib.hid (hB2.out.quiet hb2))
                  go_meet
                  exact ⟨a, e, t, b, rfl, rfl, rfl, rfl, hB3.out⟩
              · have c2' : (x.kind == 2) = false := by simpa using c2
                clear c2 y1
                go_wp2_with fail
                go_meet
                exact ⟨a, e, t, b, rfl, rfl, rfl, rfl, hB1.out.more (by omega) (by omega)⟩
        case rest =>
          clear y0 y1 hxs1 hbox' hB1
          obtain ⟨a2, e2, t2, b2, rfl, rfl, rfl, rfl, hB2⟩ := hcut
          obtain ⟨⟨pv, st, q1, q2, q3, q4, X, q5, q6, q7⟩, r1, r2, r3, r4, r5, r6⟩ := id hB2
          have hdn : st.dur.length = n := by rw [q5.len, q6]
          have hcon := content_walk q1.disk q5.ok (by omega) (by omega) (fun i hi => by
            rw [q5.vis i (by omega), List.getD_eq_getElem?_getD, List.getElem?_eq_getElem (by omega)]
            exact q5.lens _ (List.getElem_mem _))
          rw [hdn, visL_fine q5] at hcon
          have hfreeC : ∀ W, LogIn W L D g pv (reads st n) ⟨e2, b2, a2, t2, 0⟩ → Calls Try.prog 28 #[.pointer (some ⟨L, 0, none⟩)] W fun e w' => e = .returned (.int .i64 ((s : Int) - (t2 : Int))) ∧ Below W.heap.size W w' := by
            intro W hW
            have h1 := free_any hW ⟨by simp only; omega, by simp only; omega⟩
            rw [size_fine (q5.reads n) (by omega), q6, hsd'.out] at h1
            exact h1
          have hfreeC' := Lib.hid hfreeC
          have hVl := lt_of_block q7
          have hcon' := Lib.hid hcon
          have hq1' := Lib.hid q1
          have hq2' := Lib.hid q2
          have hq3' := Lib.hid q3
          have hq5' := Lib.hid q5
          have hq7' := Lib.hid q7
          have hB2' := Lib.hid hB2
          have hq4 : st.pend.length ≤ 100 * (k + 1) := q4
          clear hcon hfreeC q1 q2 q3 q5 q7 hB2 r1
          go_wp2_with fail
          go_at_call 25
          refine hcon'.out.mono ?_
          rintro e9 u1 ⟨bq, qc, rfl, hown, hd1, hk1⟩
          have hl1 := hq1'.out.turn hd1 hk1 (fresh_same _ _)
          have hrow1 := (hk1.block V hVl (fun e => hq3'.out (.inr e))).trans hq7'.out
          have hB3 := Lib.hid (BytesAt.turn hq2'.out hq3'.out hB2'.out hVl hl1 (lkept hk1) (fresh_same _ _) (P' := 100 * (k + 1)) (k' := k + 1) hq4 (hq5'.out.reads n) q6 hrow1 r3 r4 r5 r6)
          have hsr : SecRow X bq u1 := by
            rcases hown.2 with ⟨e, _⟩ | ⟨g1, cap1, cur, e, _, hc, _, _, _, ht⟩
            · cases e
            · cases e
              exact ⟨cur, _, hc, by rw [q6]; exact ht⟩
          have hsv : SecRow X V u1 := ⟨_, _, hrow1, by
            show List.take _ (flatD X) = flatD X
            rw [List.take_of_length_le (by rw [size_flatD X hq5'.out.lens]; exact Nat.le_refl _)]⟩
          have heq := Lib.hid (equal_walk u1 bq qc V n n X hsr hsv hq5'.out.lens q6 (by omega))
          have hl1' := Lib.hid hl1
          clear hown hd1 hk1 hl1 hrow1 hsr hsv hcon' hB2' hq1' hq7'
          go_wp2_with fail
          go_at_call 24
          refine heq.out.mono ?_
          rintro e9 u2 ⟨rfl, m, rfl⟩
          have hbm : Below u1.heap.size u1 (u1.drewN m) := below_drewN (Below.refl _ _) m
          have hl2 := Lib.hid (hl1'.out.below hbm)
          have hB4 := Lib.hid (hB3.out.quiet hbm)
          clear heq hl1' hB3 hbm
          generalize u1.drewN m = u2 at *
          go_wp2_with (first
            | (go_at_call 26; refine (areaL hl2.out).mono ?_; rintro e9 _ ⟨rfl, rfl⟩)
            | (go_at_call 27; refine (epochL hl2.out).mono ?_; rintro e9 _ ⟨rfl, rfl⟩)
            | (go_at_call 28; refine (hfreeC'.out _ hl2.out).mono ?_; rintro e9 u3 ⟨rfl, hb3⟩; have hl3 := hl2.out.below hb3; have hB5 := Lib.hid (hB4.out.quiet hb3))
            | (go_at_call 29; refine (errL hl3).mono ?_; rintro e9 _ ⟨rfl, rfl⟩))
          go_roundw
          case rel => exact ⟨k + 1, a2, e2, t2, b2, by omega, by go_num, rfl, rfl, rfl, rfl, hB5.out⟩
          case measure => simp [intOf]; omega
      · obtain rfl : k = l.length := by omega
        go_wp2_with fail
        go_ret
        exact ⟨rfl, hB'.out.below⟩
end Go.Proofs.Ytlhnhhjpjkgogaa.wl
