/- The walk of (*disk.Disk).Read. -/
import Derived.Test.YtlhnhhjpjkgogaaDBack
import Derived.Deep.QuietTactic
import Derived.BigQuiet
import Derived.Deep.RegionLaw
namespace Go.Proofs.Ytlhnhhjpjkgogaa.dk
open Go.RowKit Go.Shelf Go.Proofs.Ytlhnhhjpjkgogaa.agg
attribute [local go_sem] Oper.semAt_some

/-- The world with the three boxes of Read. -/
def readW (w : World) (n : Int) : World := ((w.alloc (.cells #[.int .i64 n] 3)).alloc (.cells (sec zeros) 26)).alloc (.cells #[.int .i64 0] 36)
structure ReadAt (w : World) (n : Int) (s : List Int) (e : Int) (W : World) : Prop where
  below : Below w.heap.size w W
  box : W.heap[w.heap.size]? = some (.cells #[.int .i64 n] 3 (0, 0))
  res : W.heap[w.heap.size + 1]? = some (.cells (sec s) 26 (0, 0))
  err : W.heap[w.heap.size + 2]? = some (.cells #[.int .i64 e] 36 (0, 0))
theorem readW_at (w : World) (n : Int) : ReadAt w n zeros 0 (readW w n) := by
  have z2 : ((w.alloc (.cells #[.int .i64 n] 3)).alloc (.cells (sec zeros) 26)).heap.size = w.heap.size + 2 := by simp
  refine ⟨(((Below.refl _ w).alloc (Nat.le_refl _) _).alloc (by simp) _).alloc (by simp; omega) _, ?_, ?_, ?_⟩
  · unfold readW
    rw [Below.heap_alloc _ _ _ (by omega)]
    exact heap_alloc2_old w _ _
  · unfold readW
    rw [Below.heap_alloc _ _ _ (by omega)]
    exact heap_alloc2_new w _ _
  · unfold readW
    rw [← z2]
    exact heap_alloc_new _ _

/-- The last write to a sector, if there is one. -/
def lastTo (l : List (Int × List Int)) (n : Int) : Option (Int × List Int) := l.reverse.find? (fun x => x.1 == n)
/-- What is seen of a sector. -/
def St.visible (st : St) (n : Int) : List Int := match lastTo st.pend n with
  | some x => x.2
  | none => st.dur.getD n.toNat []
theorem back_items (l : List (Int × List Int)) : (back l l.length).map (·.2) = l.reverse := by
  apply List.ext_getElem
  · simp [back]
  · intro i h1 h2
    simp only [back, List.map_map, List.getElem_map, List.getElem_range, Function.comp, List.getElem_reverse]
    rw [List.getD_eq_getElem?_getD, List.getElem?_eq_getElem (by simp at h2; omega)]
    rfl
theorem back_take (l : List (Int × List Int)) (k : Nat) (hk : k ≤ l.length) : (back l k).map (·.2) = l.reverse.take k := by
  rw [← back_items, ← List.map_take]
  congr 1
  unfold back
  rw [← List.map_take, List.take_range, Nat.min_eq_left hk]
theorem lastTo_none {l : List (Int × List Int)} {n : Int} (h : ∀ p ∈ back l l.length, p.2.1 ≠ n) : lastTo l n = none := by
  unfold lastTo
  rw [← back_items, List.find?_eq_none]
  intro x hx
  obtain ⟨p, hp, rfl⟩ := List.mem_map.1 hx
  simpa using h p hp
theorem lastTo_some {l : List (Int × List Int)} {n : Int} {k : Nat} (hk : k ≤ l.length) {ini : List Item} {last : Item} (e : back l k = ini ++ [last]) (h : ∀ p ∈ ini, p.2.1 ≠ n) (hl : last.2.1 = n) : lastTo l n = some last.2 := by
  unfold lastTo
  have e1 : l.reverse = (ini.map (·.2) ++ [last.2]) ++ l.reverse.drop k := by
    have := back_take l k hk
    rw [e] at this
    simp only [List.map_append, List.map_cons, List.map_nil] at this
    rw [this, List.take_append_drop]
  rw [e1, List.append_assoc, List.find?_append]
  have e2 : (ini.map (·.2)).find? (fun x => x.1 == n) = none := by
    rw [List.find?_eq_none]
    intro x hx
    obtain ⟨p, hp, rfl⟩ := List.mem_map.1 hx
    simpa using h p hp
  rw [e2]
  simp [hl]
theorem back_mem {l : List (Int × List Int)} {k : Nat} (hk : k ≤ l.length) {p : Item} (h : p ∈ back l k) : p.2 ∈ l := by
  have : p.2 ∈ (back l k).map (·.2) := List.mem_map.2 ⟨p, h, rfl⟩
  rw [back_take l k hk] at this
  exact List.mem_reverse.1 (List.mem_of_mem_take this)
theorem kept_own {β : Type} {F : Nat → Prop} {w0 : World} : OwnFrom w0.heap.size (fun (_ : β) W => Kept F w0 W) :=
  fun _ X Y row hs hg hr => ⟨hg.os.trans hs.os, hg.tape.trans hs.tape, hg.output.trans hs.output, Nat.le_trans hs.size hg.size, fun k hk hF =>
    (hg.block k (Nat.lt_of_lt_of_le hk hs.size) (fun e => by have := (hr k e.symm).1; omega)).trans (hs.block k hk hF)⟩
theorem block_own {β : Type} {w0 : World} (k : Nat) (f : β → Array Value) (t : TypeId) : OwnFrom w0.heap.size (fun s W => W.heap[k]? = some (.cells (f s) t (0, 0))) :=
  fun s X Y row hs hg hr => (hg.block k (lt_of_block hs) (fun e => by obtain ⟨_, o, ho, hc⟩ := hr k e.symm; rw [hs] at ho; cases ho; cases hc)).trans hs
/-- What a round that returns leaves. -/
structure Left (W2 : World) (r e : Nat) (n : Int) (c : Code) (pre : List Item) (W : World) : Prop where
  ret : c = .ret
  item : ∃ ini last, pre = ini ++ [last] ∧ (∀ p ∈ ini, p.2.1 ≠ n) ∧ last.2.1 = n ∧ W.heap[r]? = some (.cells (sec (fix64 last.2.2)) 26 (0, 0))
  err : W.heap[e]? = some (.cells #[.int .i64 0] 36 (0, 0))
  kept : Kept (fun k => k = r ∨ k = e) W2 W
theorem left_own (W2 : World) (r e : Nat) (n : Int) (c : Code) : OwnFrom W2.heap.size (fun pre W => Left W2 r e n c pre W) := fun pre X Y row hs hg hr => by
  obtain ⟨ini, last, h1, h2, h3, h4⟩ := hs.item
  exact ⟨hs.ret, ⟨ini, last, h1, h2, h3, block_own (β := Unit) r (fun _ => sec (fix64 last.2.2)) 26 () X Y row h4 hg hr⟩, block_own (β := Unit) e (fun _ => #[.int .i64 0]) 36 () X Y row hs.err hg hr, kept_own (β := Unit) () X Y row hs.kept hg hr⟩

theorem read_close {D g : Nat} {pv : Value} {st : St} {w W2 Wf : World} (hkk : Kept (foot D g pv) w W2) (hd : DiskIn W2 D g pv st) (hfl : ∀ k, foot D g pv k → k < w.heap.size) (hb : Below w.heap.size W2 Wf) : Applied D g pv st w Wf :=
  ⟨hd.same (fun k hk => hb.block k (hfl k hk)), ⟨hb.os.trans hkk.os, hb.tape.trans hkk.tape, hb.output.trans hkk.output, Nat.le_trans hkk.size hb.size, fun k hk hF => (hb.block k hk).trans (hkk.block k hk hF)⟩⟩
theorem below_putObj (B : Nat) (W : World) (r : Nat) (o : Obj) (h : B ≤ r) : Below B W (W.putObj r o) :=
  ⟨rfl, rfl, rfl, by simp [World.putObj], fun k hk => World.putObj_heap_other (by omega)⟩
theorem wp_noPanic {P : Program} {c : Code} {a : Act} {w : World} {K : Act → World → Prop} {Q : Exit → Act → World → Prop} (h : c.wp P (Exit.then K (fun _ _ _ => False)) a w) : c.wp P (Exit.then K Q) a w :=
  Code.wp_mono (fun e a w q => by cases e <;> first | exact q | exact q.elim) h

set_option maxRecDepth 100000 in
set_option maxRecDepth 20000 in
set_option maxHeartbeats 2000000 in
theorem read_ok {D g : Nat} {pv : Value} {st : St} (w : World) (h : DiskIn w D g pv st) (n : Int) (h0 : 0 ≤ n) (hn : n < st.dur.length) (hf : st.failed = false) (hpl : st.pend.length < 1000000) :
    Calls Try.prog 37 #[.pointer (some ⟨D, 0, none⟩), .int .i64 n] w fun e w' => e = .returned (.tuple #[.agg (sec (st.visible n)), .int .i64 0]) ∧ Applied D g pv { st with rd := wrap64 (st.rd + 1) } w w' := by
  obtain ⟨ao, plen, pcap, rfl⟩ : ∃ ao plen pcap, pv = .slice ao plen pcap := by
    rcases pend_form h.pend with ⟨rfl, _⟩ | ⟨q, cap, rest, rfl, _⟩
    · exact ⟨_, _, _, rfl⟩
    · exact ⟨_, _, _, rfl⟩
  have hfl := h.lt
  have hW := readW_at w n
  have hd := h.kept (Kept.of_below (F := fun _ => False) hW.below) (fun _ _ => id)
  have hD := lt_of_block hd.blk
  have hkW : Kept (foot D g (.slice ao plen pcap)) w (readW w n) := Kept.of_below hW.below
  obtain ⟨c0, c1, c2, c3, c4, c5, c6⟩ := hd.cell
  have f4 := hd.free 4
  have b0 := cell_of_one hW.box
  have hs1 := hW.below.size
  have hs2 := lt_of_block hW.err
  clear c2 c5 c6
  generalize hm : st.dur.length = m at *
  have hm' := Lib.hid hm
  clear hm
  have hn1 : decide (n < 0) = false := by simpa using h0
  have hn2 : decide ((m : Int) ≤ n) = false := by simpa using hn
  refine callsIn_wide.1 (callsIn_of_wp_marks (n := 5) Try.func37 rfl trivial ?_ rfl)
  simp only [Try.ntmps37, List.size_toArray, List.length_cons, List.length_nil, Nat.reduceAdd, Nat.reduceSub, Array.replicate_succ, Array.replicate_zero, List.push_toArray, List.append_toArray, List.nil_append, List.cons_append]
  refine wpIn_wide.2 ?_
  go_wp2_with fail
  rw [show ((w.alloc (.cells #[.int .i64 n] 3)).alloc (.cells (sec zeros) 26)).alloc (.cells #[.int .i64 0] 36) = readW w n from rfl]
  generalize readW w n = W at *
  go_quiet (fail)
  go_wp2_with (go_at_call 55; refine (callsIn_wide.1 (backward_in Fence.wide 0 trivial rfl ao plen pcap _)).mono ?_; rintro e w1 ⟨rfl, rfl⟩)
  -- the world at the loop
  have hd1 : DiskIn (W.drewN nq) D g (.slice ao plen pcap) st := hd.same (fun _ _ => by simp)
  have hd2 : DiskIn ((W.drewN nq).setCell ⟨D, 4, none⟩ (.int .i64 (wrap64 (st.rd + 1)))) D g (.slice ao plen pcap) { st with rd := wrap64 (st.rd + 1) } := by
    refine hd1.turn ?_ (fun k hk _ => heap_setCell_other _ ⟨D, 4, none⟩ k _ hk) rfl rfl
    rw [heap_setCell_same _ _ _ _ _ _ hd1.blk]
    simp [dcells]
  have hd3 := hd2.alloc (.cells #[.slice ao plen pcap] 90)
  have zz : ((W.drewN nq).setCell ⟨D, 4, none⟩ (.int .i64 (wrap64 (st.rd + 1)))).heap.size = W.heap.size := by simp
  have blk : ∀ k, k ≠ D → k < W.heap.size → (((W.drewN nq).setCell ⟨D, 4, none⟩ (.int .i64 (wrap64 (st.rd + 1)))).alloc (.cells #[.slice ao plen pcap] 90)).heap[k]? = W.heap[k]? := fun k hk hl => by
    rw [Below.heap_alloc _ _ _ (by rw [zz]; exact hl), heap_setCell_other _ _ _ _ hk]
    simp
  have hDn : ∀ i, w.heap.size ≤ i → i ≠ D := fun i hi e => by have := hfl D (.inl rfl); omega
  have x0 := (blk w.heap.size (hDn _ (Nat.le_refl _)) (by omega)).trans hW.box
  have x1 := (blk (w.heap.size + 1) (hDn _ (by omega)) (by omega)).trans hW.res
  have x2 := (blk (w.heap.size + 2) (hDn _ (by omega)) hs2).trans hW.err
  have x3 : (((W.drewN nq).setCell ⟨D, 4, none⟩ (.int .i64 (wrap64 (st.rd + 1)))).alloc (.cells #[.slice ao plen pcap] 90)).heap[W.heap.size]? = some (.cells #[.slice ao plen pcap] 90 (0, 0)) := by
    have := heap_alloc_new ((W.drewN nq).setCell ⟨D, 4, none⟩ (.int .i64 (wrap64 (st.rd + 1)))) (.cells #[.slice ao plen pcap] 90)
    rwa [zz] at this
  have hkk : Kept (foot D g (.slice ao plen pcap)) w (((W.drewN nq).setCell ⟨D, 4, none⟩ (.int .i64 (wrap64 (st.rd + 1)))).alloc (.cells #[.slice ao plen pcap] 90)) :=
    ((hkW.trans (Kept.of_below (below_drewN (Below.refl _ W) nq))).trans (Kept.setCell _ (.inl rfl) _)).trans (Kept.alloc _ _)
  clear blk zz c0 c1 c3 c4 f4 b0 hd1 hd2 hd hW hkW hs2
  generalize (((W.drewN nq).setCell ⟨D, 4, none⟩ (.int .i64 (wrap64 (st.rd + 1)))).alloc (.cells #[.slice ao plen pcap] 90)) = W2 at *
  have hBlt := lt_of_block x3
  have hB2 : w.heap.size ≤ W.heap.size := hs1
  generalize W.heap.size = B at *
  have xr := lt_of_block x1
  have xe := lt_of_block x2
  have hDW := hd3.lt
  refine (wpIn_wide (n := 5)).1 ?_
  refine wpIn_rangeFunc_ownH (n := 5) (F := Fence.wide) rfl (by omega) (gf := 66) (lb := #[.pointer (some ⟨B, 0, none⟩)]) rfl trivial (enters_of Try.func66 (by kernel_rfl) rfl)
    (back_stops Fence.wide (5 - 1) trivial rfl (by omega) B W2.heap.size (.slice ao plen pcap) st.pend hpl hd3.plen W2 hBlt (Nat.le_refl _) (cell_of_one x3) hd3.pend (fun k hk => hDW k (.inr (.inr hk)))) belowK_t (belowK_b (Nat.le_refl _)) (Below.refl _ _) (fun _ => rfl)
    (fun pre W => (∀ p ∈ pre, p.2.1 ≠ n) ∧ Below W2.heap.size W2 W)
    (fun c pre W => Left W2 (w.heap.size + 1) (w.heap.size + 2) n c pre W)
    (OwnFrom.and (ownFrom_pure _ _) (ownFrom_below (Nat.le_refl _) (Nat.le_refl _)))
    (fun c => left_own W2 _ _ n c)
    ⟨by simp, Below.refl _ _⟩
    (fun x a' W => ∃ Bx, W2.heap.size ≤ Bx ∧ W.heap[Bx]? = some (.cells (wrow x.2.1 (fix64 x.2.2)) 104 (0, 0)) ∧ a' = { tmps := #[.pointer (some ⟨D, 0, none⟩), .int .i64 n, undef, .pointer (some ⟨w.heap.size, 0, none⟩), .pointer (some ⟨w.heap.size + 1, 0, none⟩), .pointer (some ⟨w.heap.size + 1 + 1, 0, none⟩), undef, .pointer (some ⟨Bx, 0, none⟩), .bool false, .int .i64 n, .bool false, .bool false, .int .i64 n, .pointer (some ⟨D, 0, none⟩), .pointer (some ⟨D, 0, none⟩), .pointer (some ⟨D, 0, none⟩), .slice (some ⟨g, 0, none⟩) m st.cap, .int .i64 ↑m, .bool false, .bool false, undef, .bool false, .pointer (some ⟨D, 0, none⟩), .pointer (some ⟨D, 0, none⟩), .pointer (some ⟨D, 3, none⟩), .bool false, undef, .pointer (some ⟨D, 0, none⟩), .pointer (some ⟨D, 0, none⟩), .pointer (some ⟨D, 4, none⟩), .pointer (some ⟨D, 4, none⟩), .int .i64 st.rd, .int .i64 (wrap64 (st.rd + 1)), .pointer (some ⟨D, 0, none⟩), .pointer (some ⟨D, 4, none⟩), .pointer (some ⟨D, 4, none⟩), .pointer (some ⟨D, 0, none⟩), .pointer (some ⟨D, 0, none⟩), .pointer (some ⟨D, 1, none⟩), .slice ao plen pcap, .func (.func 66) #[] #[.pointer (some ⟨B, 0, none⟩)], .int .i64 (x.1 : Int), .agg (wrow x.2.1 (fix64 x.2.2)), undef, undef, undef, undef, undef, undef, undef, undef, undef, undef, undef, undef, undef], defers := [] })
    (fun x a' _ X Y row hs hg hr => by
      obtain ⟨Bx, h1, h2, h3⟩ := hs
      exact ⟨Bx, h1, block_own (β := Unit) (w0 := W2) Bx (fun _ => wrow x.2.1 (fix64 x.2.2)) 104 () X Y row h2 hg hr, h3⟩)
    ?assign ?body ?done ?stop
  case assign =>
    rintro l pre x W K ⟨hp, hB⟩ hK
    have hx := length_fix64 x.2.2
    unfold encs
    gi_wp2
    exact hK _ _ ((KeepsOthers.alloc _ _).from _) ((Below.refl _ W).alloc hB.size _) ⟨hp, hB.alloc hB.size _⟩ ⟨W.heap.size, hB.size, heap_alloc_new W _, rfl⟩
  case body =>
    rintro l pre x a' W hl ⟨r, hr⟩ ⟨hp, hB⟩ ⟨Bx, hBx, bX, rfl⟩ hlt
    have hx := length_fix64 x.2.2
    generalize hfx : fix64 x.2.2 = ys at *
    have hfx' := Lib.hid hfx
    clear hfx
    have y0 := (hB.block w.heap.size (by omega)).trans x0
    have y1 := (hB.block (w.heap.size + 1) xr).trans x1
    have y2 := (hB.block (w.heap.size + 2) xe).trans x2
    have cn := cell_of_one y0
    have r1 := rowOf_of y1
    have rB := rowOf_of bX
    have cB : W.cell? ⟨Bx, 0, none⟩ = some (.int .i64 x.2.1) := by rw [cell_row (by rw [rB, size_wrow]; omega), rB, wrow_zero]
    have e1 : (W.setRow (w.heap.size + 1) (sec ys)).cell? ⟨w.heap.size + 1 + 1, 0, none⟩ = some (.int .i64 0) := by
      rw [cell_setRow_other _ _ _ _ (by simp)]
      exact cell_of_one y2
    have e2 : (W.setRow (w.heap.size + 1) (sec ys)).frozen? ⟨w.heap.size + 1 + 1, 0, none⟩ = false := by
      rw [World.frozen?_of_block (w := W) (setRow_other _ _ _ _ (by simp))]
      exact free_of_one y2
    by_cases hxn : x.2.1 = n
    · have hb : (x.2.1 == n) = true := by simpa using hxn
      have hxn' := Lib.hid hxn
      clear hxn y0 bX
      gi_wp2
      have g1 : W.grownBy (W.setRow (w.heap.size + 1) (sec ys)) (some (w.heap.size + 1)) := ⟨rfl, rfl, rfl, by simp, fun k _ hk => setRow_other _ _ _ _ (fun e => hk (by rw [e]))⟩
      refine ⟨(KeepsFrom.of_grownBy g1 (fun j e => by cases e; exact xr)).trans ((KeepsOthers.setCell _ _ _).from _), rfl, ⟨pre, x, rfl, hp, hxn'.out, ?_⟩, ?_, ?_⟩
      · rw [heap_setCell_other _ _ _ _ (by simp), setRow_heap _ _ _ _ _ _ y1, hfx'.out]
      · have y3 : (W.setRow (w.heap.size + 1) (sec ys)).heap[w.heap.size + 2]? = some (.cells #[.int .i64 0] 36 (0, 0)) := by rw [setRow_other _ _ _ _ (by omega)]; exact y2
        exact one_setCell y3
      · exact ((Kept.of_below hB).trans (Kept.setRow W (Or.inl rfl) _)).trans (Kept.setCell _ (Or.inr rfl) _)
    · have hb : (x.2.1 == n) = false := by simpa using hxn
      have hxn' := Lib.hid hxn
      clear hxn
      gi_wp2
      exact ⟨KeepsFrom.refl _ _, Below.refl _ _, ⟨fun p hp' => (List.mem_append.1 hp').elim (hp p) (fun e => by simp at e; subst e; exact hxn'.out), hB⟩⟩
  case done =>
    rintro D2 xs W hD2 rfl ⟨hp, hB⟩ hK
    have y0 := (hB.block w.heap.size (by omega)).trans x0
    have y1 := (hB.block (w.heap.size + 1) xr).trans x1
    have y2 := (hB.block (w.heap.size + 2) xe).trans x2
    have hdW := hd3.kept (Kept.of_below (F := fun _ => False) hB) (fun _ _ => id)
    have hvis : st.visible n = st.dur.getD n.toNat [] := by unfold St.visible; rw [lastTo_none hp]
    have hvis' := Lib.hid hvis
    clear hvis hp
    obtain ⟨k, rfl⟩ := Int.eq_ofNat_of_zero_le h0
    have hkm : k < m := by omega
    have cn := cell_of_one y0
    have r1 := rowOf_of y1
    obtain ⟨c0, c1, c2, c3, c4, c5, c6⟩ := hdW.cell
    simp only [hm'.out] at c0
    have hgs : k * 64 + 64 ≤ (rowOf W g).size := by
      have := size_rowD _ hdW.len
      rw [hm'.out] at this
      rw [rowOf_of hdW.dur]
      omega
    have hcut := flatD_cut st.dur hdW.len k (by rw [hm'.out]; exact hkm) st.spare
    have hdd := rowOf_of hdW.dur
    change rowOf W g = rowD st at hdd
    rw [← rowD, ← hdd] at hcut
    clear hdd
    have hlen : (st.dur.getD k []).length = 64 := by
      rw [List.getD_eq_getElem?_getD, List.getElem?_eq_getElem (by rw [hm'.out]; exact hkm)]
      exact hdW.len _ (List.getElem_mem _)
    rw [Int.toNat_natCast] at hvis'
    generalize st.dur.getD k [] = ys at *
    have e1 : (W.setRow (w.heap.size + 1) (sec ys)).cell? ⟨w.heap.size + 1 + 1, 0, none⟩ = some (.int .i64 0) := by
      rw [cell_setRow_other _ _ _ _ (by simp)]
      exact cell_of_one y2
    have e2 : (W.setRow (w.heap.size + 1) (sec ys)).frozen? ⟨w.heap.size + 1 + 1, 0, none⟩ = false := by
      rw [World.frozen?_of_block (w := W) (setRow_other _ _ _ _ (by simp))]
      exact free_of_one y2
    clear c1 c2 c3 c4 c5 c6 y0
    go_wp2_with fail
    refine wp_noPanic ?_
    go_region_law (fail)
    all_goals go_wp2
    all_goals
      have y3 : (W.setRow (w.heap.size + 1) (sec ys)).heap[w.heap.size + 2]? = some (.cells #[.int .i64 0] 36 (0, 0)) := by rw [setRow_other _ _ _ _ (by omega)]; exact y2
      have hb2 : Below w.heap.size W ((W.setRow (w.heap.size + 1) (sec ys)).setCell ⟨w.heap.size + 1 + 1, 0, none⟩ (.int .i64 0)).drew :=
        ((below_setRow (Below.refl _ W) (by omega) _).setCell (by simp; omega) _).drew
      have hK' : ((W.setRow (w.heap.size + 1) (sec ys)).setCell ⟨w.heap.size + 1 + 1, 0, none⟩ (.int .i64 0)).drew.heap[D2]? = some (.deferred (some [])) := by
        show ((W.setRow (w.heap.size + 1) (sec ys)).setCell ⟨w.heap.size + 1 + 1, 0, none⟩ (.int .i64 0)).heap[D2]? = _
        rw [heap_setCell_other _ _ _ _ (by simp; omega), setRow_other _ _ _ _ (by omega)]
        exact hK
      refine ⟨by simp, .inl ⟨_, _, rfl, run_takeDeferred hK', ?_⟩⟩
      refine ⟨_, results_cells rfl ag_sec (fun _ => rfl) _ rfl rfl (c := sec ys) (rowOf_of (t := 26) ?_) (by rw [size_sec, hlen]) (by omega) (v := .int .i64 0) (cell_of_one (t := 36) ?_), by rw [hvis'.out], ?_⟩
      · rw [World.putObj_heap_other (by omega)]
        show ((W.setRow (w.heap.size + 1) (sec ys)).setCell ⟨w.heap.size + 1 + 1, 0, none⟩ (.int .i64 0)).heap[w.heap.size + 1]? = _
        rw [heap_setCell_other _ _ _ _ (by simp), setRow_heap _ _ _ _ _ _ y1]
      · rw [World.putObj_heap_other (by omega)]
        exact one_setCell y3
      · exact read_close hkk hd3 hfl (((hB.mono (by omega)).trans hb2).trans (below_putObj _ _ _ _ (by omega)))
  case stop =>
    rintro D2 c pre W hD2 ⟨k, hk, rfl⟩ ⟨rfl, ⟨ini, last, e1, e2, e3, e4⟩, e5, e6⟩ hK
    have hls : lastTo st.pend n = some last.2 := lastTo_some hk e1 e2 e3
    have hmem : last.2 ∈ st.pend := back_mem hk (by rw [e1]; simp)
    have hlen := hd3.plen _ hmem
    rw [fix64_of hlen] at e4
    have hvis : st.visible n = last.2.2 := by unfold St.visible; rw [hls]
    have hvis' := Lib.hid hvis
    clear hvis e1 e2 e3 hls hmem
    generalize last.2.2 = ys at *
    gi_wp2
    refine ⟨by simp, .inl ⟨_, _, rfl, run_takeDeferred hK, ?_⟩⟩
    refine ⟨_, results_cells rfl ag_sec (fun _ => rfl) _ rfl rfl (c := sec ys) (rowOf_of (t := 26) ?_) (by rw [size_sec, hlen]) (by omega) (v := .int .i64 0) (cell_of_one (t := 36) ?_), by rw [hvis'.out], ?_⟩
    · rw [World.putObj_heap_other (by omega)]
      exact e4
    · rw [World.putObj_heap_other (by omega)]
      exact e5
    · refine read_close hkk hd3 hfl (Below.trans ⟨e6.os, e6.tape, e6.output, e6.size, fun k hk => e6.block k (by omega) (by omega)⟩ (below_putObj _ _ _ _ (by omega)))

/-- Read, as a value: the new disk, the contents, the error. -/
def St.read (st : St) (n : Int) : St × List Int × Int :=
  if n < 0 ∨ st.dur.length ≤ n then (st, zeros, 2) else if st.failed then (st, zeros, 12) else ({ st with rd := wrap64 (st.rd + 1) }, st.visible n, 0)

/-- The end of Read where it hands back an error. -/
theorem read_err {w W Wf : World} {n e : Int} (hW : ReadAt w n zeros 0 W) (nq : Nat) (hf : Wf = ((W.drewN nq).setRow (w.heap.size + 1) (sec zeros)).setCell ⟨w.heap.size + 1 + 1, 0, none⟩ (.int .i64 e)) :
    rowOf Wf (w.heap.size + 1) = sec zeros ∧ Wf.cell? ⟨w.heap.size + 1 + 1, 0, none⟩ = some (.int .i64 e) ∧ Below w.heap.size w Wf := by
  subst hf
  have y1 : (W.drewN nq).heap[w.heap.size + 1]? = some (.cells (sec zeros) 26 (0, 0)) := by simpa using hW.res
  have y2 : ((W.drewN nq).setRow (w.heap.size + 1) (sec zeros)).heap[w.heap.size + 2]? = some (.cells #[.int .i64 0] 36 (0, 0)) := by
    rw [setRow_other _ _ _ _ (by omega)]
    simpa using hW.err
  refine ⟨?_, cell_of_one (one_setCell y2), ?_⟩
  · refine rowOf_of (t := 26) ?_
    rw [heap_setCell_other _ _ _ _ (by simp), setRow_heap _ _ _ _ _ _ y1]
  · exact (below_setRow (below_drewN hW.below nq) (by omega) _).setCell (by simp; omega) _

set_option maxRecDepth 20000 in
set_option maxHeartbeats 1000000 in
theorem read_range {D g : Nat} {pv : Value} {st : St} (w : World) (h : DiskIn w D g pv st) (n : Int) (hn : n < 0 ∨ st.dur.length ≤ n) :
    Calls Try.prog 37 #[.pointer (some ⟨D, 0, none⟩), .int .i64 n] w fun e w' => e = .returned (.tuple #[.agg (sec zeros), .int .i64 2]) ∧ Below w.heap.size w w' := by
  have hW := readW_at w n
  have hd := h.kept (Kept.of_below (F := fun _ => False) hW.below) (fun _ _ => id)
  have hD := lt_of_block hd.blk
  have c0 := hd.cell.1
  have b0 := cell_of_one hW.box
  have hs1 := hW.below.size
  have hs2 := lt_of_block hW.err
  have r1 := rowOf_of hW.res
  have e1 : ∀ nq, (((readW w n).drewN nq).setRow (w.heap.size + 1) (sec zeros)).cell? ⟨w.heap.size + 1 + 1, 0, none⟩ = some (.int .i64 0) := fun nq => by
    rw [cell_setRow_other _ _ _ _ (by simp)]
    simpa using cell_of_one hW.err
  have e2 : ∀ nq, (((readW w n).drewN nq).setRow (w.heap.size + 1) (sec zeros)).frozen? ⟨w.heap.size + 1 + 1, 0, none⟩ = false := fun nq => by
    rw [World.frozen?_of_block (w := (readW w n).drewN nq) (setRow_other _ _ _ _ (by simp))]
    simpa using free_of_one hW.err
  have r2 : ∀ nq, rowOf ((readW w n).drewN nq) (w.heap.size + 1) = sec zeros := fun nq => rowOf_of (t := 26) (by simpa using hW.res)
  clear r1
  generalize hm : st.dur.length = m at *
  have hm' := Lib.hid hm
  clear hm
  by_cases h0 : n < 0
  · have hn1 : decide (n < 0) = true := by simpa using h0
    clear hn
    go_enter Try.func37, Try.ntmps37
    go_wp2_with fail
    rw [show ((w.alloc (.cells #[.int .i64 n] 3)).alloc (.cells (sec zeros) 26)).alloc (.cells #[.int .i64 0] 36) = readW w n from rfl]
    generalize readW w n = W at *
    go_quiet (fail)
    go_wp2
    obtain ⟨z1, z2, z3⟩ := read_err (e := 2) hW nq rfl
    exact bodyPost_ret (results_cells rfl ag_sec (fun _ => rfl) _ rfl rfl z1 (by rw [size_sec, length_zeros]) (by omega) z2) rfl ⟨rfl, z3⟩
  · have hn1 : decide (n < 0) = false := by simpa using h0
    have hn2 : decide ((m : Int) ≤ n) = true := by simp; omega
    clear hn
    go_enter Try.func37, Try.ntmps37
    go_wp2_with fail
    rw [show ((w.alloc (.cells #[.int .i64 n] 3)).alloc (.cells (sec zeros) 26)).alloc (.cells #[.int .i64 0] 36) = readW w n from rfl]
    generalize readW w n = W at *
    go_quiet (fail)
    go_wp2
    obtain ⟨z1, z2, z3⟩ := read_err (e := 2) hW nq rfl
    exact bodyPost_ret (results_cells rfl ag_sec (fun _ => rfl) _ rfl rfl z1 (by rw [size_sec, length_zeros]) (by omega) z2) rfl ⟨rfl, z3⟩

set_option maxRecDepth 20000 in
set_option maxHeartbeats 1000000 in
theorem read_failed {D g : Nat} {pv : Value} {st : St} (w : World) (h : DiskIn w D g pv st) (n : Int) (h0 : 0 ≤ n) (hn : n < st.dur.length) (hf : st.failed = true) :
    Calls Try.prog 37 #[.pointer (some ⟨D, 0, none⟩), .int .i64 n] w fun e w' => e = .returned (.tuple #[.agg (sec zeros), .int .i64 12]) ∧ Below w.heap.size w w' := by
  have hW := readW_at w n
  have hd := h.kept (Kept.of_below (F := fun _ => False) hW.below) (fun _ _ => id)
  have hD := lt_of_block hd.blk
  have c0 := hd.cell.1
  have c3 := hd.cell.2.2.2.1
  have b0 := cell_of_one hW.box
  have hs1 := hW.below.size
  have hs2 := lt_of_block hW.err
  have e1 : ∀ nq, (((readW w n).drewN nq).setRow (w.heap.size + 1) (sec zeros)).cell? ⟨w.heap.size + 1 + 1, 0, none⟩ = some (.int .i64 0) := fun nq => by
    rw [cell_setRow_other _ _ _ _ (by simp)]
    simpa using cell_of_one hW.err
  have e2 : ∀ nq, (((readW w n).drewN nq).setRow (w.heap.size + 1) (sec zeros)).frozen? ⟨w.heap.size + 1 + 1, 0, none⟩ = false := fun nq => by
    rw [World.frozen?_of_block (w := (readW w n).drewN nq) (setRow_other _ _ _ _ (by simp))]
    simpa using free_of_one hW.err
  have r2 : ∀ nq, rowOf ((readW w n).drewN nq) (w.heap.size + 1) = sec zeros := fun nq => rowOf_of (t := 26) (by simpa using hW.res)
  generalize hm : st.dur.length = m at *
  have hm' := Lib.hid hm
  clear hm
  have hn1 : decide (n < 0) = false := by simpa using h0
  have hn2 : decide ((m : Int) ≤ n) = false := by simpa using hn
  go_enter Try.func37, Try.ntmps37
  go_wp2_with fail
  rw [show ((w.alloc (.cells #[.int .i64 n] 3)).alloc (.cells (sec zeros) 26)).alloc (.cells #[.int .i64 0] 36) = readW w n from rfl]
  generalize readW w n = W at *
  go_quiet (fail)
  go_wp2
  obtain ⟨z1, z2, z3⟩ := read_err (e := 12) hW nq rfl
  exact bodyPost_ret (results_cells rfl ag_sec (fun _ => rfl) _ rfl rfl z1 (by rw [size_sec, length_zeros]) (by omega) z2) rfl ⟨rfl, z3⟩

/-- Read, of whatever disk and number. -/
theorem read_any {D g : Nat} {pv : Value} {st : St} (w : World) (h : DiskIn w D g pv st) (n : Int) (hpl : st.pend.length < 1000000) :
    Calls Try.prog 37 #[.pointer (some ⟨D, 0, none⟩), .int .i64 n] w fun e w' => e = .returned (.tuple #[.agg (sec (st.read n).2.1), .int .i64 (st.read n).2.2]) ∧ Applied D g pv (st.read n).1 w w' := by
  by_cases hn : n < 0 ∨ st.dur.length ≤ n
  · have e1 : st.read n = (st, zeros, 2) := by simp only [St.read]; rw [if_pos hn]
    rw [e1]
    refine (read_range w h n hn).mono ?_
    rintro e w' ⟨rfl, hb⟩
    exact ⟨rfl, h.kept (Kept.of_below (F := fun _ => False) hb) (fun _ _ => id), Kept.of_below hb⟩
  · by_cases hf : st.failed = true
    · have e1 : st.read n = (st, zeros, 12) := by simp only [St.read]; rw [if_neg hn, if_pos hf]
      rw [e1]
      refine (read_failed w h n (by omega) (by omega) hf).mono ?_
      rintro e w' ⟨rfl, hb⟩
      exact ⟨rfl, h.kept (Kept.of_below (F := fun _ => False) hb) (fun _ _ => id), Kept.of_below hb⟩
    · have e1 : st.read n = ({ st with rd := wrap64 (st.rd + 1) }, st.visible n, 0) := by simp only [St.read]; rw [if_neg hn, if_neg hf]
      rw [e1]
      exact read_ok w h n (by omega) (by omega) (by simpa using hf) hpl
end Go.Proofs.Ytlhnhhjpjkgogaa.dk
