/- The walk of (*disk.Disk).Clone, and of slices.Clone. -/
import Derived.Test.YtakehkoicinlbaaDFails
namespace Go.Proofs.Ytakehkoicinlbaa.dk
open Go.RowKit Go.Proofs.Ytakehkoicinlbaa.agg

theorem eql_sec_nil (w : World) (a : Addr) (n cap : Nat) : (binOp .eql 43 (.slice (some a) n cap) (.slice none 0 0)).run Try.prog w = .ok (.bool false) w := by
  simp [binOp, run_equal_slice_nil w 43 23 (some a) n cap Try.underlying43]
theorem eql_dw_nil (w : World) (a : Addr) (n cap : Nat) : (binOp .eql 64 (.slice (some a) n cap) (.slice none 0 0)).run Try.prog w = .ok (.bool false) w := by
  simp [binOp, run_equal_slice_nil w 64 68 (some a) n cap Try.underlying64]
theorem eql_dw_nil' (w : World) : (binOp .eql 64 (.slice none 0 0) (.slice none 0 0)).run Try.prog w = .ok (.bool true) w := by
  simp [binOp, run_equal_slice_nil w 64 68 none 0 0 Try.underlying64]

theorem ownsRow_empty (w : World) (e : TypeId) (size : Nat) : (w.alloc (.cells #[] e)).ownsRow 0 e size (.slice (some ⟨w.heap.size, 0, none⟩) 0 0) 0 [] := by
  refine ⟨by simp, .inr ⟨w.heap.size, 0, #[], rfl, Nat.zero_le _, heap_alloc_new w _, Nat.le_refl _, Nat.zero_le _, by simp, by simp⟩⟩
theorem grown_below {w w' : World} {o : Obj} (h : (w.alloc o).grownBy w' (some w.heap.size)) : Below w.heap.size w w' := by
  have h1 : Kept (fun k => k = w.heap.size) w w' := (Kept.alloc w o).trans' (G := fun k => k = w.heap.size) (Kept.grown h (fun k hk => (Option.some.inj hk).symm)) (fun _ _ e => e)
  exact h1.below _ (Nat.le_refl _) (fun i hi => by omega)

set_option maxHeartbeats 400000 in
theorem cloneSec_any (w : World) (g n cap : Nat) (xs : List Value) (hx : xs.length = n * 64) (hn : 0 < n) (hn2 : n ≤ 2048) (hc : ∀ j u, xs[j]? = some u → w.cell? ((⟨g, 0, none⟩ : Addr).add j) = some u) (h1 : ∀ u ∈ xs, u.oneCell' = true) :
    Calls Try.prog 31 #[.slice (some ⟨g, 0, none⟩) n cap] w fun e w' => ∃ g' cap', e = .returned (.slice (some ⟨g', 0, none⟩) n cap') ∧ w.heap.size ≤ g' ∧ w'.ownsRow 0 23 64 (.slice (some ⟨g', 0, none⟩) n cap') n xs ∧ Below w.heap.size w w' := by
  obtain ⟨i0, hi, hz0, hz1, hz2⟩ := info_parts info_sec
  have he := fun w => eql_sec_nil w ⟨g, 0, none⟩ n cap
  have hB : Below w.heap.size w (w.alloc (.cells #[] 23)) := (Below.refl _ w).alloc (Nat.le_refl _) _
  have hc' : ∀ j u, xs[j]? = some u → (w.alloc (.cells #[] 23)).cell? ((⟨g, 0, none⟩ : Addr).add j) = some u := fun j u hu => by
    rw [hB.cell (World.block_lt_of_cell? _ _ (hc j u hu))]
    exact hc j u hu
  go_enter Try.func31, Try.ntmps31
  go_wp2_with (at_builtin; refine wpList_append_mine rfl (.tmp 5) (.tmp 6) 43 rfl 0 23 i0 _ 64 64 Try.underlying43 hi hz0 hz1 hz2 (by decide) (.slice (some ⟨w.heap.size, 0, none⟩) 0 0) 0 [] rfl (ownsRow_empty w 23 64) ⟨g, 0, none⟩ n cap xs rfl hx hn hc' h1 (by unfold maxLen; omega) (by omega) (Nat.zero_le _) ?_; intro g' cap' w' hown hgrow hnew)
  go_ret
  rw [Nat.zero_add, List.nil_append] at hown
  refine ⟨g', cap', rfl, ?_, hown, grown_below hgrow⟩
  rcases hnew with h | h
  · exact Nat.le_of_eq (Option.some.inj h)
  · rw [h]; simp
set_option maxHeartbeats 400000 in
theorem cloneWr_some (w : World) (g n cap : Nat) (xs : List Value) (hx : xs.length = n * 65) (hn : 0 < n) (hn2 : n ≤ 1000000) (hc : ∀ j u, xs[j]? = some u → w.cell? ((⟨g, 0, none⟩ : Addr).add j) = some u) (h1 : ∀ u ∈ xs, u.oneCell' = true) :
    Calls Try.prog 32 #[.slice (some ⟨g, 0, none⟩) n cap] w fun e w' => ∃ g' cap', e = .returned (.slice (some ⟨g', 0, none⟩) n cap') ∧ w.heap.size ≤ g' ∧ w'.ownsRow 0 68 65 (.slice (some ⟨g', 0, none⟩) n cap') n xs ∧ Below w.heap.size w w' := by
  obtain ⟨i0, hi, hz0, hz1, hz2⟩ := info_parts info_dw
  have he := fun w => eql_dw_nil w ⟨g, 0, none⟩ n cap
  have hB : Below w.heap.size w (w.alloc (.cells #[] 68)) := (Below.refl _ w).alloc (Nat.le_refl _) _
  have hc' : ∀ j u, xs[j]? = some u → (w.alloc (.cells #[] 68)).cell? ((⟨g, 0, none⟩ : Addr).add j) = some u := fun j u hu => by
    rw [hB.cell (World.block_lt_of_cell? _ _ (hc j u hu))]
    exact hc j u hu
  go_enter Try.func32, Try.ntmps32
  go_wp2_with (at_builtin; refine wpList_append_mine rfl (.tmp 5) (.tmp 6) 64 rfl 0 68 i0 _ 65 72 Try.underlying64 hi hz0 hz1 hz2 (by decide) (.slice (some ⟨w.heap.size, 0, none⟩) 0 0) 0 [] rfl (ownsRow_empty w 68 65) ⟨g, 0, none⟩ n cap xs rfl hx hn hc' h1 (by unfold maxLen; omega) (by omega) (Nat.zero_le _) ?_; intro g' cap' w' hown hgrow hnew)
  go_ret
  rw [Nat.zero_add, List.nil_append] at hown
  refine ⟨g', cap', rfl, ?_, hown, grown_below hgrow⟩
  rcases hnew with h | h
  · exact Nat.le_of_eq (Option.some.inj h)
  · rw [h]; simp
theorem cloneWr_nil (w : World) :
    Calls Try.prog 32 #[.slice none 0 0] w fun e w' => e = .returned (.slice none 0 0) ∧ w = w' := by
  have he := eql_dw_nil'
  go_enter Try.func32, Try.ntmps32
  go_wp2
  go_ret
  exact ⟨rfl, rfl⟩

def zst : St := { dur := [], pend := [], left := 0, failed := false, rd := 0, wr := 0, fl := 0, cap := 0, spare := [] }
def zdisk : Array Value := #[.slice none 0 0, .slice none 0 0, .int .i64 0, .bool false, .int .i64 0, .int .i64 0, .int .i64 0]
theorem ag_disk : IsAgg Try.prog 66 7 := ⟨fun _ => by kernel_rfl, fun _ => by kernel_rfl⟩
theorem zero_disk (w : World) : (zeroValue 66).run Try.prog w = .ok (.agg zdisk) w := by kernel_rfl
section
variable {a : Act} {w : World} {K : Act → World → Prop} {Q : Exit → Act → World → Prop} {dst : Option Tmp} {ty : TypeId} {pos : String} {aft : Array Edge} {gd : Option (Nat × Bool)}
theorem alloc_disk : Oper.wp Try.prog ⟨dst, .alloc 66, ty, pos, aft, gd⟩ a w K Q = K (a.put dst (.pointer (some ⟨w.heap.size, 0, none⟩))) (w.alloc (.cells zdisk 66)) := wp_alloc_agg zero_disk
theorem load_disk (x : Operand) (h : aggOk w (a.eval x) 7 = true) : Oper.wp Try.prog ⟨dst, .load 66 x, ty, pos, aft, gd⟩ a w K Q = K (a.put dst (aggAt w (a.eval x) 7)) w := wp_load_agg ag_disk x h
theorem store_disk (x y : Operand) (h : aggOk w (a.eval x) 7 = true) (hy : plain (a.eval y) 7 = true) : Oper.wp Try.prog ⟨dst, .store 66 x y, ty, pos, aft, gd⟩ a w K Q = K (a.put dst undef) (putRow w (a.eval x) (cellsOf (a.eval y))) := wp_store_agg ag_disk x y h hy
end
theorem one_dcells (g : Nat) (st : St) (ao : Option Addr) (n c : Nat) : oneCells (dcells g (.slice ao n c) st) = true := by rfl
theorem size_dcells (g : Nat) (pv : Value) (st : St) : (dcells g pv st).size = 7 := rfl
theorem size_zdisk : zdisk.size = 7 := rfl

theorem dur_cells {w : World} {D g : Nat} {pv : Value} {st : St} (h : DiskIn w D g pv st) : ∀ j u, (flatD st.dur)[j]? = some u → w.cell? ((⟨g, 0, none⟩ : Addr).add j) = some u := by
  intro j u hu
  have hj : j < (flatD st.dur).length := (List.getElem?_eq_some_iff.1 hu).1
  rw [Addr.add_lit]
  simp only [World.cell?, h.dur, Nat.zero_add, rowD]
  rw [List.getElem?_toArray, List.getElem?_append_left hj]
  exact hu
theorem pend_cells {w : World} {D g q n cap : Nat} {st : St} (h : DiskIn w D g (.slice (some ⟨q, 0, none⟩) n cap) st) : ∀ j u, (flatP st.pend)[j]? = some u → w.cell? ((⟨q, 0, none⟩ : Addr).add j) = some u := by
  intro j u hu
  have hj : j < (flatP st.pend).length := (List.getElem?_eq_some_iff.1 hu).1
  rcases h.pend.2 with ⟨e, _⟩ | ⟨g1, cap1, cur, e, _, hh, _, _, _, ht⟩
  · cases e
  · cases e
    rw [Addr.add_lit]
    simp only [World.cell?, hh, Nat.zero_add]
    rw [← ht, List.getElem?_take] at hu
    split at hu
    · simpa using hu
    · cases hu
theorem pend_len {w : World} {q n cap : Nat} {l : List (Int × List Int)} (h : w.ownsRow 0 68 65 (.slice (some ⟨q, 0, none⟩) n cap) l.length (flatP l)) : n = l.length := by
  rcases h.2 with ⟨e, _⟩ | ⟨g1, cap1, cur, e, _⟩
  · cases e
  · cases e; rfl
theorem one_flatD (l : List (List Int)) : ∀ u ∈ flatD l, u.oneCell' = true := by
  intro u hu
  simp only [flatD, List.mem_flatten, List.mem_map] at hu
  obtain ⟨_, ⟨s, _, rfl⟩, hu⟩ := hu
  obtain ⟨n, _, rfl⟩ := List.mem_map.1 hu
  rfl
theorem one_flatP (l : List (Int × List Int)) : ∀ u ∈ flatP l, u.oneCell' = true := by
  intro u hu
  simp only [flatP, List.mem_flatten, List.mem_map] at hu
  obtain ⟨_, ⟨s, _, rfl⟩, hu⟩ := hu
  rcases List.mem_cons.1 hu with rfl | hu
  · rfl
  · obtain ⟨n, _, rfl⟩ := List.mem_map.1 hu
    rfl

theorem clone_close {w2 : World} {D' g g' cap' : Nat} {pv pv' : Value} {st : St} (hxD : w2.heap[D']? = some (.cells (dcells g pv st) 66 (0, 0)))
    (hown1 : w2.ownsRow 0 23 64 (.slice (some ⟨g', 0, none⟩) st.dur.length cap') st.dur.length (flatD st.dur)) (hown2 : w2.ownsRow 0 68 65 pv' st.pend.length (flatP st.pend))
    (h1 : ∀ s ∈ st.dur, s.length = 64) (h2 : ∀ x ∈ st.pend, x.2.length = 64) (h3 : ∀ x ∈ st.pend, 0 ≤ x.1 ∧ x.1 < st.dur.length) (h4 : st.dur.length ≤ 2048) (h5 : pv' ≠ .slice none 0 0 → 0 < st.pend.length)
    (n1 : D' ≠ g') (n2 : pv'.ownBlock ≠ some D') (n3 : pv'.ownBlock ≠ some g') :
    ∃ sp, DiskIn ((w2.setCell ⟨D', 0, none⟩ (.slice (some ⟨g', 0, none⟩) st.dur.length cap')).setCell ⟨D', 1, none⟩ pv') D' g' pv' { st with cap := cap', spare := sp } := by
  rcases hown1.2 with ⟨e, _⟩ | ⟨g1, cap1, cur, e, _, hh, hc1, _, _, ht⟩
  · cases e
  · cases e
    have ho : ∀ k, k ≠ D' → ((w2.setCell ⟨D', 0, none⟩ (.slice (some ⟨g', 0, none⟩) st.dur.length cap')).setCell ⟨D', 1, none⟩ pv').heap[k]? = w2.heap[k]? := fun k hk => by
      rw [heap_setCell_other _ _ _ _ hk, heap_setCell_other _ _ _ _ hk]
    refine ⟨cur.toList.drop (st.dur.length * 64), ?_⟩
    exact
      { blk := by
          rw [heap_setCell_same _ _ _ _ _ _ (heap_setCell_same _ _ _ _ _ _ hxD)]
          simp [dcells]
        dur := by
          rw [ho g' (fun e => n1 e.symm), hh, rowD]
          simp only
          rw [← ht, List.take_append_drop]
        len := h1
        plen := h2
        pin := h3
        pend := ownsRow_same hown2 (fun k hk => ho k (fun e => n2 (by rw [← e]; exact hk)))
        few := h4
        cap := hc1
        pne := h5
        ne1 := n1
        ne2 := n2
        ne3 := n3 }
theorem two_cells {w : World} {D g : Nat} {pv : Value} {st : St} (h : w.heap[D]? = some (.cells (dcells g pv st) 66 (0, 0))) :
    w.cell? ⟨D, 0, none⟩ = some (.slice (some ⟨g, 0, none⟩) st.dur.length st.cap) ∧ w.cell? ⟨D, 1, none⟩ = some pv ∧ w.frozen? ⟨D, 0, none⟩ = false ∧ w.frozen? ⟨D, 1, none⟩ = false := by
  simp [World.cell?, World.frozen?, h, dcells]

attribute [local go_sem ↓] alloc_disk load_disk store_disk
attribute [local go_sem] one_dcells size_dcells size_zdisk

theorem cloneWr_any {D g : Nat} {pv : Value} {st : St} (w : World) (h : DiskIn w D g pv st) (hpl : st.pend.length < 1000000) :
    Calls Try.prog 32 #[pv] w fun e w' => ∃ ao n' c', e = .returned (.slice ao n' c') ∧ (∀ k, (Value.slice ao n' c').ownBlock = some k → w.heap.size ≤ k) ∧ w'.ownsRow 0 68 65 (.slice ao n' c') st.pend.length (flatP st.pend) ∧ (Value.slice ao n' c' ≠ .slice none 0 0 → 0 < st.pend.length) ∧ Below w.heap.size w w' := by
  rcases pend_form h.pend with ⟨rfl, hp⟩ | ⟨q, cap, rest, rfl, _⟩
  · refine (cloneWr_nil w).mono ?_
    rintro e w' ⟨rfl, rfl⟩
    refine ⟨_, _, _, rfl, by simp [Value.ownBlock], ?_, fun h => absurd rfl h, Below.refl _ _⟩
    rw [hp]
    exact World.ownsRow_nil _ _ _ _
  · have hn := h.pne (by simp)
    refine (cloneWr_some w q st.pend.length cap (flatP st.pend) h.pend.1 hn (by omega) (pend_cells h) (one_flatP _)).mono ?_
    rintro e w' ⟨q', cap', rfl, hq, hown, hb⟩
    exact ⟨_, _, _, rfl, fun k hk => by injection hk with hk; subst hk; exact hq, hown, fun _ => hn, hb⟩
theorem one_dcells' {w : World} {D g : Nat} {pv : Value} {st : St} (h : DiskIn w D g pv st) : oneCells (dcells g pv st) = true := by
  rcases pend_form h.pend with ⟨rfl, hp⟩ | ⟨q, cap, rest, rfl, _⟩ <;> rfl

set_option maxHeartbeats 1000000 in
theorem clone_any {D g : Nat} {pv : Value} {st : St} (w : World) (h : DiskIn w D g pv st) (hm : 1 ≤ st.dur.length) (hpl : st.pend.length < 1000000) :
    Calls Try.prog 22 #[.pointer (some ⟨D, 0, none⟩)] w fun e w' => ∃ D' g' pv' c' sp, e = .returned (.pointer (some ⟨D', 0, none⟩)) ∧ DiskIn w' D' g' pv' { st with cap := c', spare := sp } ∧ (∀ k, foot D' g' pv' k → w.heap.size ≤ k) ∧ Below w.heap.size w w' := by
  have hD := lt_of_block h.blk
  have hr := rowOf_of h.blk
  obtain ⟨c0, c1, c2, c3, c4, c5, c6⟩ := h.cell
  have s1 : (dcells g pv st).size = 7 := rfl
  have s2 : oneCells (dcells g pv st) = true := one_dcells' h
  have s3 : cut (dcells g pv st) 0 7 = .agg (dcells g pv st) := cut_whole s1
  have hz := size_zdisk
  generalize hdc : dcells g pv st = dc at *
  have hdc' := Lib.hid hdc
  clear c2 c3 c4 c5 c6 hdc
  go_enter Try.func22, Try.ntmps22
  go_wp2_with fail
  have hW : ∃ W, W = w.alloc (.cells dc 66) := ⟨_, rfl⟩
  obtain ⟨W, hW⟩ := hW
  have hWB : Below w.heap.size w W := by
    rw [hW]
    exact (Below.refl _ w).alloc (Nat.le_refl _) _
  have hWD : W.heap[w.heap.size]? = some (.cells dc 66 (0, 0)) := by
    rw [hW]; exact heap_alloc_new w _
  rw [← hW]
  clear hW
  have hWd := lt_of_block hWD
  rw [← hWB.cell (p := ⟨D, 0, none⟩) hD] at c0
  rw [← hWB.cell (p := ⟨D, 1, none⟩) hD] at c1
  have hd1 : DiskIn W D g pv st := h.kept (Kept.of_below (F := fun _ => False) hWB) (fun _ _ => id)
  have hfd := size_flatD _ h.len
  have hx1 : ∀ j u, (flatD st.dur)[j]? = some u → W.drew.cell? ((⟨g, 0, none⟩ : Addr).add j) = some u := dur_cells hd1.drew
  have ho1 := one_flatD st.dur
  have hsec := Lib.hid (cloneSec_any W.drew g st.dur.length st.cap (flatD st.dur) hfd hm h.few hx1 ho1)
  have hfew := h.few
  have hlen := h.len
  have hplen := h.plen
  have hpin := h.pin
  clear hx1 hfd ho1 h
  go_region_law (first | (go_simp; go_at_call 31; refine (hsec.out).mono ?_; rintro e w1 ⟨g', cap', rfl, hg', hown1, hb1⟩; have hd2 := hd1.kept (Kept.of_below (F := fun _ => False) ((Below.refl _ W).drew.trans hb1)) (fun _ _ => id); have hy1 := (hb1.cell (p := ⟨D, 1, none⟩) (Nat.lt_of_lt_of_le hD hWB.size)).trans c1) | (go_simp; go_at_call 32; refine (cloneWr_any _ hd2 hpl).mono ?_; rintro e w2 ⟨ao, n', c', rfl, hq', hown2, hpne, hb2⟩; have hxD := (hb2.block _ (Nat.lt_of_lt_of_le hWd hb1.size)).trans ((hb1.block _ hWd).trans hWD); obtain ⟨y0, y1, f0, f1⟩ := two_cells (hdc'.out ▸ hxD); clear c0 c1))
  all_goals go_wp2
  all_goals go_ret
  all_goals
    have hb2' := hb2.size
    have hb1' := hb1.size
    have hWs : W.drew.heap.size = W.heap.size := rfl
    have hg1 := (hown1.lt g' rfl).2
    have hown1' := ownsRow_same (w' := w2) hown1 (fun k hk => hb2.block k (hown1.lt k hk).2)
    obtain ⟨sp, hd⟩ := clone_close (hdc'.out ▸ hxD) hown1' hown2 hlen hplen hpin hfew hpne (by omega) (fun e => by have := hq' _ e; omega) (fun e => by have := hq' _ e; omega)
    refine ⟨w.heap.size, g', .slice ao n' c', cap', sp, rfl, hd, ?_, ?_⟩
    · rintro k (rfl | rfl | hk)
      · exact Nat.le_refl _
      · omega
      · have := hq' k hk
        omega
    · have hb : Below w.heap.size w w2 := (hWB.trans ((Below.refl _ W).drew.trans (hb1.mono (Nat.le_of_lt hWd)))).trans (hb2.mono (by omega))
      exact ((Kept.of_below (F := fun k => k = w.heap.size) hb).trans ((Kept.setCell (F := fun k => k = w.heap.size) w2 rfl _).trans (Kept.setCell (F := fun k => k = w.heap.size) _ rfl _))).below _ (Nat.le_refl _) (fun i hi => by omega)
end Go.Proofs.Ytakehkoicinlbaa.dk
