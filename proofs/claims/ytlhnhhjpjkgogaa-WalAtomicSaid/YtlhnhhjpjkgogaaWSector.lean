/- The walk of (wal.frame).sector. -/
import Derived.Test.YtlhnhhjpjkgogaaM1
import Derived.StillTailTactics
import Derived.BigRegion
namespace Go.Proofs.Ytlhnhhjpjkgogaa.wl
open Go.RowKit Go.Proofs.Ytlhnhhjpjkgogaa.agg Go.Proofs.Ytlhnhhjpjkgogaa.dk

section
variable {P : Program} {a : Act} {w : World} {K : Act → World → Prop} {Q : Exit → Act → World → Prop} {ops : Array Oper}
theorem run_copy_str {T1 T2 ty E : TypeId} (hu : P.underlying T1 = some (.slice E)) (hs : ∀ w, (sizeOf E).run P w = .ok 1 w) {g o dl dc : Nat} {s : ByteArray} (hn : s.size ≤ dl) (hg : o + s.size ≤ (rowOf w g).size) (hp : 0 < (rowOf w g).size) :
    (Builtin.copy_ #[T1, T2] ty #[.slice (some ⟨g, o, none⟩) dl dc, .string s]).run P w = .ok (.int .i64 s.size) (w.setRow g (overrow (rowOf w g) o (sec (bts s)))) := by
  obtain ⟨t, ht⟩ := heap_of hp
  have hx : ((s.extract 0 s.size).data.map fun b => Value.int .u8 b.toNat) = sec (bts s) := by
    rw [ByteArray.extract_zero_size]
    apply Array.ext'
    simp [sec, u8s, bts]
  have hst := run_storeCells_at P g o t (sec (bts s)).toList 0 (rowOf w g) w ht (by rw [Array.length_toList, size_sec, length_bts]; omega) (sec_oneCell _)
  simp only [Nat.add_zero] at hst
  have hm : Nat.min s.size dl = s.size := Nat.min_eq_left hn
  simp only [Builtin.copy_, List.getElem?_toArray, List.getElem?_cons_zero, List.getElem?_cons_succ, Sem.run_bind, run_underlying hu, Result.andThen_ok, Builtin.lenOf, Sem.run_pure, hs, hm, Builtin.firstCells, hx, hst]
  simp only [goInt, overrow, Array.length_toList, List.append_assoc]
theorem wpList_copy_str {o : Oper} {rest : List Oper} (hgd : o.guard = none) (s x : Operand) (T1 T2 : TypeId) (ho : o.op = .call { callee := .builtin .copy, args := #[s, x], argTypes := #[T1, T2] })
    {E : TypeId} (hu : P.underlying T1 = some (.slice E)) (hs : ∀ w, (sizeOf E).run P w = .ok 1 w) (g off dl dc : Nat) (b : ByteArray) (h1 : a.eval s = .slice (some ⟨g, off, none⟩) dl dc) (h2 : a.eval x = .string b) (hn : b.size ≤ dl)
    (hg : off + b.size ≤ (rowOf w g).size) (hp : 0 < (rowOf w g).size)
    (hK : wpList P ops Q rest (a.put o.dst (.int .i64 b.size)) (w.setRow g (overrow (rowOf w g) off (sec (bts b))))) : wpList P ops Q (o :: rest) a w := by
  refine wpList_plain hgd fun K hK' => ?_
  have hr := run_copy_str (P := P) (T2 := T2) (ty := o.type) (dc := dc) hu hs hn hg hp
  unfold Oper.wp execOp
  simp only [ho, resolve, invoke, builtin, Sem.run_bind, Sem.run_pure, Result.andThen_ok, List.map_toArray, List.map_cons, List.map_nil, h1, h2, hr]
  exact hK' _ _ hK
theorem wpList_copy {o : Oper} {rest : List Oper} (hgd : o.guard = none) (s x : Operand) (T1 T2 : TypeId) (ho : o.op = .call { callee := .builtin .copy, args := #[s, x], argTypes := #[T1, T2] })
    {E : TypeId} (hu : P.underlying T1 = some (.slice E)) (hs : ∀ w, (sizeOf E).run P w = .ok 1 w) (g off dl dc h p sl sc n : Nat) (h1 : a.eval s = .slice (some ⟨g, off, none⟩) dl dc) (h2 : a.eval x = .slice (some ⟨h, p, none⟩) sl sc) (hn : Nat.min sl dl = n)
    (hg : off + n ≤ (rowOf w g).size) (hh : p + n ≤ (rowOf w h).size) (hp : 0 < (rowOf w g).size) (hq : 0 < (rowOf w h).size) (h3 : oneCells (rowOf w h) = true)
    (hK : wpList P ops Q rest (a.put o.dst (.int .i64 n)) (w.setRow g (overrow (rowOf w g) off ((rowOf w h).extract p (p + n))))) : wpList P ops Q (o :: rest) a w :=
  wpList_plain hgd fun _ hK' => wp_copy s x T1 T2 ho hu hs g off dl dc h p sl sc n h1 h2 hn hg hh hp hq h3 (hK' _ _ hK)
end

/-- The memory of a call of sector: the frame's box, the result, the sector that is filled. -/
structure SecAt (w : World) (f : Fr) (xs : List Int) (W : World) : Prop where
  below : Below w.heap.size w W
  box : W.heap[w.heap.size]? = some (.cells f.cells 87 (0, 0))
  res : W.heap[w.heap.size + 1]? = some (.cells (sec zeros) 26 (0, 0))
  cur : W.heap[w.heap.size + 1 + 1]? = some (.cells (sec xs) 26 (0, 0))
theorem SecAt.drew {w : World} {f : Fr} {xs : List Int} {W : World} (h : SecAt w f xs W) : SecAt w f xs W.drew := ⟨h.below.drew, h.box, h.res, h.cur⟩
theorem SecAt.set {w : World} {f : Fr} {xs : List Int} {W : World} (h : SecAt w f xs W) (ys : List Int) : SecAt w f ys (W.setRow (w.heap.size + 1 + 1) (sec ys)) :=
  ⟨⟨h.below.os, h.below.tape, h.below.output, by simpa using h.below.size, fun i hi => (setRow_other _ _ _ _ (by omega)).trans (h.below.block i hi)⟩,
    (setRow_other _ _ _ _ (by omega)).trans h.box, (setRow_other _ _ _ _ (by omega)).trans h.res, setRow_heap _ _ _ _ _ _ h.cur⟩
theorem SecAt.facts {w : World} {f : Fr} {xs : List Int} {W : World} (h : SecAt w f xs W) :
    W.cell? ⟨w.heap.size, 0, none⟩ = some (.int .i64 f.epoch) ∧ W.cell? ⟨w.heap.size, 1, none⟩ = some (.int .i64 f.pos) ∧ W.cell? ⟨w.heap.size, 2, none⟩ = some (.int .i64 f.kind) ∧ W.cell? ⟨w.heap.size, 3, none⟩ = some (.string f.data) := by
  simp [World.cell?, h.box, Fr.cells]
def secW (w : World) (f : Fr) : World := ((w.alloc (.cells f.cells 87)).alloc (.cells (sec zeros) 26)).alloc (.cells (sec zeros) 26)
theorem secW_at (w : World) (f : Fr) : SecAt w f zeros (secW w f) := by
  have z2 : ((w.alloc (.cells f.cells 87)).alloc (.cells (sec zeros) 26)).heap.size = w.heap.size + 1 + 1 := by simp
  refine ⟨(((Below.refl _ w).alloc (Nat.le_refl _) _).alloc (by simp) _).alloc (by simp; omega) _, ?_, ?_, ?_⟩
  · unfold secW
    rw [Below.heap_alloc _ _ _ (by omega)]
    exact heap_alloc2_old w _ _
  · unfold secW
    rw [Below.heap_alloc _ _ _ (by omega)]
    exact heap_alloc2_new w _ _
  · unfold secW
    rw [← z2]
    exact heap_alloc_new _ _

set_option maxRecDepth 100000 in
set_option maxHeartbeats 1000000 in
theorem sector_walk (w : World) (f : Fr) (hd : f.data.size ≤ 50) :
    Calls Try.prog 65 #[.agg f.cells] w fun e w' => e = .returned (.agg (sec f.sec)) ∧ Below w.heap.size w w' := by
  have hW := secW_at w f
  have hW0 : secW w f = ((w.alloc (.cells #[.int .i64 f.epoch, .int .i64 f.pos, .int .i64 f.kind, .string f.data] 87)).alloc (.cells (sec zeros) 26)).alloc (.cells (sec zeros) 26) := rfl
  have hW0' := Lib.hid hW0
  clear hW0
  unfold Fr.cells
  go_enter Try.func65, Try.ntmps65
  go_wp2_with fail
  rw [← hW0'.out]
  generalize secW w f = W at *
  clear hW0'
  obtain ⟨c0, c1, c2, c3⟩ := hW.facts
  refine wp_region_still_tail 3 (by kernel_rfl) (by kernel_rfl) ?_
  change wpStill _ _ (World.drew W) (fun a' => wpList _ _ _ _ a' (World.drew W)) _ _
  simp only [List.take_succ_cons, List.take_zero, List.drop_succ_cons, List.drop_zero]
  iterate 3 still_step
  refine wpStill_nil ?_
  go_wp2_with (go_at_call 73; refine (number_walk _ (w.heap.size + 1 + 1) 0 4 64 f.epoch _ _ hW.drew.cur (by rw [size_sec, length_zeros]; omega) (by omega)).mono ?_; rintro e w' ⟨rfl, rfl⟩)
  rw [putTo_sec zeros 0 4 f.epoch (by rw [length_zeros]; omega)]
  replace hW := (hW.set (over zeros 0 (be 4 f.epoch))).drew
  clear c0 c1 c2 c3
  generalize (W.setRow _ _).drew = W1 at *
  obtain ⟨c0, c1, c2, c3⟩ := hW.facts
  refine wp_region_still_tail 3 (by kernel_rfl) (by kernel_rfl) ?_
  change wpStill _ _ (World.drew W1) (fun a' => wpList _ _ _ _ a' (World.drew W1)) _ _
  simp only [List.take_succ_cons, List.take_zero, List.drop_succ_cons, List.drop_zero]
  iterate 3 still_step
  refine wpStill_nil ?_
  have hl1 : (over zeros 0 (be 4 f.epoch)).length = 64 := by rw [length_over _ _ _ (by rw [length_be, length_zeros]; omega), length_zeros]
  go_wp2_with (go_at_call 73; refine (number_walk _ (w.heap.size + 1 + 1) 4 2 60 f.pos _ _ hW.drew.cur (by rw [size_sec, hl1]; omega) (by omega)).mono ?_; rintro e w' ⟨rfl, rfl⟩)
  rw [putTo_sec _ 4 2 f.pos (by rw [hl1]; omega), show over (over zeros 0 (be 4 f.epoch)) 4 (be 2 f.pos) = laid1 f from rfl]
  replace hW := (hW.set (laid1 f)).drew
  clear c0 c1 c2 c3
  generalize (W1.setRow _ _).drew = W2 at *
  obtain ⟨c0, c1, c2, c3⟩ := hW.facts
  have hl2 : (laid1 f).length = 64 := by rw [laid1_eq]; simp [f.length_head]
  obtain ⟨u6, c6⟩ : ∃ u, W2.cell? ⟨w.heap.size + 1 + 1, 6, none⟩ = some u := by
    simp only [World.cell?, hW.cur]
    exact ⟨_, sec_get _ _ (by omega)⟩
  obtain ⟨u7, c7⟩ : ∃ u, W2.cell? ⟨w.heap.size + 1 + 1, 7, none⟩ = some u := by
    simp only [World.cell?, hW.cur]
    exact ⟨_, sec_get _ _ (by omega)⟩
  have f6 : ∀ i, W2.frozen? ⟨w.heap.size + 1 + 1, i, none⟩ = false := by simp [World.frozen?, hW.cur]
  have hx2 : Hid (((W2.setCell ⟨w.heap.size + 1 + 1, 6, none⟩ (.int .u8 (f.kind % 256))).setCell ⟨w.heap.size + 1 + 1, 7, none⟩ (.int .u8 f.data.size)) = W2.setRow (w.heap.size + 1 + 1) (sec (laid2 f))) := by
    have h1 := heap_setCell_same W2 (w.heap.size + 1 + 1) 6 _ _ (.int .u8 (f.kind % 256)) hW.cur
    rw [setCell_eq_setRow _ _ _ _ _ _ _ h1, setCell_eq_setRow _ _ _ _ _ _ _ hW.cur, setRow_setRow, laid2_eq]
    exact rfl
  go_region
  go_wp2_with fail
  rw [hx2.out]
  replace hW := (hW.set (laid2 f)).drew
  clear c0 c1 c2 c3 c6 c7 f6 hx2
  generalize (W2.setRow _ _).drew = W3 at *
  obtain ⟨c0, c1, c2, c3⟩ := hW.facts
  have hl3 : (laid2 f).length = 64 := by unfold laid2; simp [f.length_head]
  have hr3 := rowOf_of hW.cur
  refine wp_region_still_tail 3 (by kernel_rfl) (by kernel_rfl) ?_
  change wpStill _ _ (World.drew W3) (fun a' => wpList _ _ _ _ a' (World.drew W3)) _ _
  simp only [List.take_succ_cons, List.take_zero, List.drop_succ_cons, List.drop_zero]
  iterate 3 still_step
  refine wpStill_nil ?_
  refine wpList_copy_str rfl (.tmp 21) (.tmp 23) 28 9 rfl (E := 5) Try.underlying28 (fun _ => by kernel_rfl) (w.heap.size + 1 + 1) 8 56 56 f.data (by rfl) (by rfl) (by omega) (by rw [rowOf_drew, hr3, size_sec, hl3]; omega) (by rw [rowOf_drew, hr3, size_sec, hl3]; omega) ?_
  rw [rowOf_drew, hr3, overrow_sec, laid3_eq f hd, setRow_drew]
  replace hW := (hW.set (f.head ++ f.body ++ List.replicate 6 0)).drew
  clear c0 c1 c2 c3 hr3
  generalize (W3.setRow _ _).drew = W4 at *
  have hl4 : (f.head ++ f.body ++ List.replicate 6 0).length = 64 := by simp [f.length_head, f.length_body hd]
  have hr4 := rowOf_of hW.cur
  go_wp2_with fail
  refine wp_region_still_tail 2 (by kernel_rfl) (by kernel_rfl) ?_
  change wpStill _ _ (World.drew W4) (fun a' => wpList _ _ _ _ a' (World.drew W4)) _ _
  simp only [List.take_succ_cons, List.take_zero, List.drop_succ_cons, List.drop_zero]
  iterate 2 still_step
  refine wpStill_nil ?_
  refine wpList_copy rfl (.tmp 25) (.tmp 26) 28 28 rfl (E := 5) Try.underlying28 (fun _ => by kernel_rfl) (w.heap.size + 1 + 1) 58 6 6 (w.heap.size + 1 + 1) 0 6 64 6 (by rfl) (by rfl) (by rfl) (by rw [rowOf_drew, hr4, size_sec, hl4]; omega) (by rw [rowOf_drew, hr4, size_sec, hl4]; omega) (by rw [rowOf_drew, hr4, size_sec, hl4]; omega) (by rw [rowOf_drew, hr4, size_sec, hl4]; omega) (by rw [rowOf_drew, hr4]; exact all_sec _) ?_
  rw [rowOf_drew, hr4, show (sec (f.head ++ f.body ++ List.replicate 6 0)).extract 0 (0 + 6) = sec f.head by
    rw [List.append_assoc]
    have := take_head f (f.body ++ List.replicate 6 0)
    apply Array.ext'
    rw [Array.toList_extract]
    show List.take (0 + 6 - 0) (List.drop 0 (u8s _)) = u8s f.head
    rw [List.drop_zero, u8s, ← List.map_take, this, u8s], overrow_sec, laid4_eq f hd, setRow_drew]
  replace hW := (hW.set f.sec).drew
  clear hr4
  generalize (W4.setRow _ _).drew = W5 at *
  have hl5 := f.length_sec hd
  have hr5 := rowOf_of hW.cur
  have hr6 := rowOf_of hW.res
  have hb := hW.below
  have hres := hW.res
  clear hW hl1 hl2 hl3 hl4
  go_wp2
  refine bodyPost_ret (results_cell rfl ag_sec _ rfl (rowOf_setRow_same _ (by rw [hr6, size_sec, length_zeros]; omega)) (by rw [size_sec]; exact hl5) (by omega)) rfl ⟨rfl, hb.os, hb.tape, hb.output, by simpa using hb.size, fun i hi => (setRow_other _ _ _ _ (by omega)).trans (hb.block i hi)⟩
end Go.Proofs.Ytlhnhhjpjkgogaa.wl
