/- The walk of the reference's Write. -/
import Derived.Test.YtlhnhhjpjkgogaaWRef
namespace Go.Proofs.Ytlhnhhjpjkgogaa.wl
open Go.RowKit Go.Proofs.Ytlhnhhjpjkgogaa.agg Go.Proofs.Ytlhnhhjpjkgogaa.dk
set_option linter.unusedSimpArgs false
set_option linter.unusedVariables false

/-- The memory of a call of the reference's Write. -/
structure RecAt (w : World) (f : Fr) (xs : List Int) (W : World) : Prop where
  below : Below w.heap.size w W
  box : W.heap[w.heap.size]? = some (.cells f.cells 23 (0, 0))
  res : W.heap[w.heap.size + 1]? = some (.cells (sec zeros) 26 (0, 0))
  cur : W.heap[w.heap.size + 1 + 1]? = some (.cells (sec xs) 26 (0, 0))
section
variable {w : World} {f : Fr} {xs : List Int} {W u : World}
theorem RecAt.below' (h : RecAt w f xs W) (hb : Below W.heap.size W u) : RecAt w f xs u :=
  ⟨⟨hb.os.trans h.below.os, hb.tape.trans h.below.tape, hb.output.trans h.below.output, Nat.le_trans h.below.size hb.size, fun i hi => (hb.block i (Nat.lt_of_lt_of_le hi h.below.size)).trans (h.below.block i hi)⟩,
    (hb.block _ (lt_of_block h.box)).trans h.box, (hb.block _ (lt_of_block h.res)).trans h.res, (hb.block _ (lt_of_block h.cur)).trans h.cur⟩
theorem RecAt.set (h : RecAt w f xs W) (ys : List Int) : RecAt w f ys (W.setRow (w.heap.size + 1 + 1) (sec ys)) :=
  ⟨⟨h.below.os, h.below.tape, h.below.output, by simpa using h.below.size, fun i hi => (setRow_other _ _ _ _ (by omega)).trans (h.below.block i hi)⟩,
    (setRow_other _ _ _ _ (by omega)).trans h.box, (setRow_other _ _ _ _ (by omega)).trans h.res, setRow_heap _ _ _ _ _ _ h.cur⟩
theorem RecAt.facts (h : RecAt w f xs W) :
    W.cell? ⟨w.heap.size, 0, none⟩ = some (.int .i64 f.epoch) ∧ W.cell? ⟨w.heap.size, 1, none⟩ = some (.int .i64 f.pos) ∧ W.cell? ⟨w.heap.size, 2, none⟩ = some (.int .i64 f.kind) ∧ W.cell? ⟨w.heap.size, 3, none⟩ = some (.string f.data) := by
  simp [World.cell?, h.box, Fr.cells]
theorem RecAt.byte (h : RecAt w f xs W) (i : Nat) (hi : i < xs.length) (v : Int) : (∃ u, W.cell? ⟨w.heap.size + 1 + 1, i, none⟩ = some u) ∧ W.frozen? ⟨w.heap.size + 1 + 1, i, none⟩ = false ∧ W.setCell ⟨w.heap.size + 1 + 1, i, none⟩ (.int .u8 v) = W.setRow (w.heap.size + 1 + 1) (sec (xs.set i v)) := by
  refine ⟨⟨_, (cell_of_row _ _ _ _ _ _ h.cur).trans (sec_get _ _ hi)⟩, by simp [World.frozen?, h.cur], ?_⟩
  rw [setCell_eq_setRow _ _ _ _ _ _ _ h.cur]
  congr 1
  apply Array.ext'
  simp [sec, u8s, List.map_set]
end
def recW (w : World) (f : Fr) : World := ((w.alloc (.cells f.cells 23)).alloc (.cells (sec zeros) 26)).alloc (.cells (sec zeros) 26)
theorem recW_at (w : World) (f : Fr) : RecAt w f zeros (recW w f) := by
  have z2 : ((w.alloc (.cells f.cells 23)).alloc (.cells (sec zeros) 26)).heap.size = w.heap.size + 1 + 1 := by simp
  refine ⟨(((Below.refl _ w).alloc (Nat.le_refl _) _).alloc (by simp) _).alloc (by simp; omega) _, ?_, ?_, ?_⟩
  · unfold recW
    rw [Below.heap_alloc _ _ _ (by omega)]
    exact heap_alloc2_old w _ _
  · unfold recW
    rw [Below.heap_alloc _ _ _ (by omega)]
    exact heap_alloc2_new w _ _
  · unfold recW
    rw [← z2]
    exact heap_alloc_new _ _
theorem laid2_set (f : Fr) : ((laid1 f).set 6 (f.kind % 256)).set 7 (f.data.size : Int) = laid2 f := by
  have h := laid2_eq f
  have e1 : ((sec (laid1 f)).setIfInBounds 6 (.int .u8 (f.kind % 256))).setIfInBounds 7 (.int .u8 (f.data.size : Int)) = sec (((laid1 f).set 6 (f.kind % 256)).set 7 (f.data.size : Int)) := by
    apply Array.ext'
    simp [sec, u8s, List.map_set]
  rw [e1] at h
  have := congrArg (fun c => bytesOf (.agg c)) h
  simpa only [bytesOf_sec] using this
theorem laid5_eq (f : Fr) (h : f.data.size ≤ 50) : over (over (f.head ++ f.body ++ List.replicate 6 0) 58 (be 4 f.epoch)) 62 (be 2 f.pos) = f.sec := by
  have hl : (f.head ++ f.body).length = 58 := by simp [f.length_head, f.length_body h]
  have h1 := over_mid (f.head ++ f.body) (List.replicate 4 0) (List.replicate 2 0) (be 4 f.epoch) (by simp [length_be])
  rw [hl] at h1
  have h2 := over_mid (f.head ++ f.body ++ be 4 f.epoch) (List.replicate 2 0) [] (be 2 f.pos) (by simp [length_be])
  rw [show (f.head ++ f.body ++ be 4 f.epoch).length = 62 by rw [List.length_append, hl, length_be], List.append_nil, List.append_nil] at h2
  rw [show (List.replicate 6 (0 : Int)) = List.replicate 4 0 ++ List.replicate 2 0 from rfl, ← List.append_assoc, h1, h2]
  unfold Fr.sec
  rw [List.append_assoc (f.head ++ f.body), ← Fr.head]

theorem over_step (L B : List Int) (o j : Nat) (hj : j < B.length) (hL : o + B.length ≤ L.length) : (over L o (B.take j)).set (o + j) B[j] = over L o (B.take (j + 1)) := by
  have hl1 : (L.take o ++ B.take j).length = o + j := by simp; omega
  unfold over
  rw [List.set_append_right _ _ (by rw [hl1]; omega), hl1, Nat.sub_self]
  have hd : L.drop (o + (B.take j).length) = L[o + j]'(by omega) :: L.drop (o + j + 1) := by
    rw [show (B.take j).length = j by simp; omega, List.drop_eq_getElem_cons (by omega)]
  rw [hd, List.set_cons_zero, List.take_succ_eq_append_getElem hj]
  rw [show (B.take j ++ [B[j]]).length = j + 1 by simp; omega]
  simp only [List.append_assoc, List.singleton_append, Nat.add_assoc]
set_option maxRecDepth 100000 in
set_option maxHeartbeats 2000000 in
theorem rwrite_walk (w : World) (f : Fr) (hd : f.data.size ≤ 50) (he : 0 ≤ f.epoch ∧ f.epoch < 4611686018427387904) (hp : 0 ≤ f.pos ∧ f.pos < 4611686018427387904) :
    Calls Try.prog 9 #[.agg f.cells] w fun e w' => e = .returned (.agg (sec f.sec)) ∧ Below w.heap.size w w' := by
  have hW := recW_at w f
  have hW0 : recW w f = ((w.alloc (.cells #[.int .i64 f.epoch, .int .i64 f.pos, .int .i64 f.kind, .string f.data] 23)).alloc (.cells (sec zeros) 26)).alloc (.cells (sec zeros) 26) := rfl
  have hW0' := Lib.hid hW0
  clear hW0
  unfold Fr.cells
  go_enter Try.func9, Try.ntmps9
  go_wp2_with fail
  rw [← hW0'.out]
  generalize recW w f = W at *
  clear hW0'
  have hun := Try.underlying26
  have hdr : RecAt w f zeros W.drew := hW.below' (Below.refl _ _).drew
  refine wp_region_held_drew (S := fun u => u.cell? ⟨w.heap.size, 0, none⟩ = some (.int .i64 f.epoch) ∧ u.cell? ⟨w.heap.size, 1, none⟩ = some (.int .i64 f.pos)) (by kernel_rfl) ⟨hdr.facts.1, hdr.facts.2.1⟩ (fun hHeld => ?_)
  refine wpAnyH_take (i := 1) (v := .pointer (some ⟨w.heap.size, 0, none⟩)) rfl (by kernel_rfl) (by kernel_rfl) (by kernel_rfl) (fun _ _ _ h => h) (Or.inl ⟨by rfl, by intro u hu; (try dsimp only at hu); go_simp⟩) hHeld ?_
  try simp only [Act.put, List.getElem_toArray, List.getElem_cons_zero, List.getElem_cons_succ, List.setIfInBounds_toArray, List.set_cons_zero, List.set_cons_succ]
  refine wpAnyH_take (i := 2) (v := .int .i64 f.epoch) rfl (by kernel_rfl) (by kernel_rfl) (by kernel_rfl) (fun _ _ _ h => h) (Or.inl ⟨by rfl, by intro u hu; (try dsimp only at hu); go_simp⟩) hHeld ?_
  try simp only [Act.put, List.getElem_toArray, List.getElem_cons_zero, List.getElem_cons_succ, List.setIfInBounds_toArray, List.set_cons_zero, List.set_cons_succ]
  refine wpAnyH_take (i := 4) (v := .pointer (some ⟨w.heap.size, 1, none⟩)) rfl (by kernel_rfl) (by kernel_rfl) (by kernel_rfl) (fun _ _ _ h => h) (Or.inl ⟨by rfl, by intro u hu; (try dsimp only at hu); go_simp⟩) hHeld ?_
  try simp only [Act.put, List.getElem_toArray, List.getElem_cons_zero, List.getElem_cons_succ, List.setIfInBounds_toArray, List.set_cons_zero, List.set_cons_succ]
  refine wpAnyH_take (i := 5) (v := .int .i64 f.pos) rfl (by kernel_rfl) (by kernel_rfl) (by kernel_rfl) (fun _ _ _ h => h) (Or.inl ⟨by rfl, by intro u hu; (try dsimp only at hu); go_simp⟩) hHeld ?_
  try simp only [Act.put, List.getElem_toArray, List.getElem_cons_zero, List.getElem_cons_succ, List.setIfInBounds_toArray, List.set_cons_zero, List.set_cons_succ]
  have hr0 : rowOf W.drew (w.heap.size + 1 + 1) = sec zeros := rowOf_of hdr.cur
  refine wpAnyH_ready (rs := [0]) (by kernel_rfl) (by simp) ?_
  refine AllReadyH.cons rfl (fun K hK => ?_) AllReadyH.nil
  rw [if_pos (by rfl)]
  refine Eq.mpr (load_sec (.tmp 3) ?h0) ?_
  case h0 =>
    show decide (0 + 64 ≤ (rowOf W.drew (w.heap.size + 1 + 1)).size ∧ 0 < 64) = true
    rw [hr0, size_sec, length_zeros]
    rfl
  have hld : aggAt W.drew (.pointer (some ⟨w.heap.size + 1 + 1, 0, none⟩)) 64 = .agg (sec zeros) := by
    rw [aggAt_mk, hr0, cut_whole (by rw [size_sec, length_zeros])]
  change K (Act.put _ _ (aggAt W.drew (.pointer (some ⟨w.heap.size + 1 + 1, 0, none⟩)) 64)) W.drew
  rw [hld]
  refine hK.out _ _ ⟨hdr.facts.1, hdr.facts.2.1⟩ (fun hHeld => ?_)
  clear hK K
  try simp only [Act.put, List.getElem_toArray, List.getElem_cons_zero, List.getElem_cons_succ, List.setIfInBounds_toArray, List.set_cons_zero, List.set_cons_succ]
  refine wpAnyH_ready (rs := [3]) (by kernel_rfl) (by simp) ?_
  refine AllReadyH.cons rfl (fun K hK => ?_) AllReadyH.nil
  rw [if_pos (by rfl)]
  go_simp
  go_at_call 39
  refine (rput_walk _ zeros length_zeros 0 4 (by omega) f.epoch he).mono ?_
  rintro e1 u1 ⟨rfl, hb1⟩
  have h1 := hdr.below' hb1
  refine hK.out _ _ ⟨h1.facts.1, h1.facts.2.1⟩ (fun hHeld => ?_)
  clear hK K
  try simp only [Act.put, List.getElem_toArray, List.getElem_cons_zero, List.getElem_cons_succ, List.setIfInBounds_toArray, List.set_cons_zero, List.set_cons_succ]
  have hl1 : (over zeros 0 (be 4 f.epoch)).length = 64 := by rw [length_over _ _ _ (by rw [length_be, length_zeros]; omega), length_zeros]
  refine wpAnyH_ready (rs := [6]) (by kernel_rfl) (by simp) ?_
  refine AllReadyH.cons rfl (fun K hK => ?_) AllReadyH.nil
  rw [if_pos (by rfl)]
  go_simp
  go_at_call 39
  refine (rput_walk _ (over zeros 0 (be 4 f.epoch)) hl1 4 2 (by omega) f.pos hp).mono ?_
  rintro e1 u2 ⟨rfl, hb2⟩
  have h2 := h1.below' hb2
  refine hK.out _ _ ⟨h2.facts.1, h2.facts.2.1⟩ (fun hHeld => ?_)
  clear hK K
  try simp only [Act.put, List.getElem_toArray, List.getElem_cons_zero, List.getElem_cons_succ, List.setIfInBounds_toArray, List.set_cons_zero, List.set_cons_succ]
  rw [show over (over zeros 0 (be 4 f.epoch)) 4 (be 2 f.pos) = laid1 f from rfl]
  have hl2 : (laid1 f).length = 64 := by rw [laid1_eq]; simp [f.length_head]
  have hr2 := rowOf_of h2.cur
  refine wpAnyH_ready (rs := [7]) (by kernel_rfl) (by simp) ?_
  refine AllReadyH.cons rfl (fun K hK => ?_) AllReadyH.nil
  rw [if_pos (by rfl)]
  refine Eq.mpr (store_sec (.tmp 3) (.tmp 11) ?h1 ?h2) ?_
  case h1 =>
    show decide (0 + 64 ≤ (rowOf u2 (w.heap.size + 1 + 1)).size ∧ 0 < 64) = true
    rw [hr2, size_sec, length_zeros]
    rfl
  case h2 =>
    show plain (.agg (sec (laid1 f))) 64 = true
    simp [plain, size_sec, hl2, all_sec]
  have hst : putRow u2 (.pointer (some ⟨w.heap.size + 1 + 1, 0, none⟩)) (sec (laid1 f)) = u2.setRow (w.heap.size + 1 + 1) (sec (laid1 f)) := by
    rw [putRow_mk, overrow_whole (by rw [hr2, size_sec, size_sec, hl2, length_zeros])]
  have h3 := h2.set (laid1 f)
  refine hK.out _ (putRow u2 (.pointer (some ⟨w.heap.size + 1 + 1, 0, none⟩)) (sec (laid1 f))) ?_ ?_
  · rw [hst]
    exact ⟨h3.facts.1, h3.facts.2.1⟩
  intro hHeld
  clear hK K
  try simp only [Act.put, List.getElem_toArray, List.getElem_cons_zero, List.getElem_cons_succ, List.setIfInBounds_toArray, List.set_cons_zero, List.set_cons_succ]
  refine wpAnyH_done (by kernel_rfl) ?_ _
  rw [hst]
  clear hst hHeld hr2 hr0 hld
  generalize u2.setRow _ _ = W2 at *
  obtain ⟨⟨u6, c6⟩, f6, e6⟩ := h3.byte 6 (by omega) (f.kind % 256)
  have h4 := h3.set ((laid1 f).set 6 (f.kind % 256))
  obtain ⟨⟨u7, c7⟩, f7, e7⟩ := h4.byte 7 (by rw [List.length_set]; omega) (f.data.size : Int)
  rw [laid2_set, setRow_setRow] at e7
  have h5 := h3.set (laid2 f)
  obtain ⟨x0, x1, x2, x3⟩ := h3.facts
  obtain ⟨y0, y1, y2, y3⟩ := h4.facts
  obtain ⟨z0, z1, z2, z3⟩ := h5.facts
  have h5' := Lib.hid h5
  have hl3 : (laid2 f).length = 64 := by unfold laid2; simp [f.length_head]
  have hl3' := Lib.hid hl3
  clear hl1 hl2 hl3 h1 h2 h3 h4 h5 hdr hun hW
  go_wp2_with fail
  clear c6 f6 e6 c7 f7 e7 x0 x1 x2 x3 y0 y1 y2 y3 z0 z1 z2 z3
  generalize W2.setRow _ _ = W3 at *
  have hbl : (bts f.data).length = f.data.size := length_bts _
  have hbl' := Lib.hid hbl
  clear hbl
  go_loopw [4] (fun i wr => ∃ j : Nat, j ≤ f.data.size ∧ i = .int .i64 j ∧ RecAt w f (over (laid2 f) 8 ((bts f.data).take j)) wr) (fun i _ => f.data.size - (intOf i).toNat)
  case atStart => exact ⟨0, Nat.zero_le _, rfl, by rw [show over (laid2 f) 8 ((bts f.data).take 0) = laid2 f by simp [over]]; exact h5'.out⟩
  case round =>
    obtain ⟨j, hj, rfl, hR⟩ := hrel
    obtain ⟨x0, x1, x2, x3⟩ := hR.facts
    by_cases hlt : j < f.data.size
    · have hlen : (over (laid2 f) 8 ((bts f.data).take j)).length = 64 := by
        rw [length_over _ _ _ (by rw [List.length_take, hbl'.out, hl3'.out]; omega), hl3'.out]
      have hbj : (bts f.data)[j]'(by rw [hbl'.out]; exact hlt) = ((f.data[j]'hlt).toNat : Int) := by
        simp [bts]
        rfl
      obtain ⟨⟨u8', c8⟩, f8, e8⟩ := hR.byte (8 + j) (by omega) ((f.data[j]'hlt).toNat : Int)
      have hst := over_step (laid2 f) (bts f.data) 8 j (by rw [hbl'.out]; exact hlt) (by rw [hbl'.out, hl3'.out]; omega)
      rw [hbj] at hst
      rw [hst] at e8
      have hR' := Lib.hid hR
      have hs' := Lib.hid (hR.set (over (laid2 f) 8 ((bts f.data).take (j + 1))))
      have hj64 : (8 : Int) + j < 64 := by omega
      clear hR hlen hbj hst
      go_wp2_with fail
      go_roundw
      case rel => exact ⟨j + 1, by omega, by go_num, hs'.out⟩
      case measure => simp [intOf]; omega
    · obtain rfl : j = f.data.size := by omega
      have hfull : over (laid2 f) 8 ((bts f.data).take f.data.size) = f.head ++ f.body ++ List.replicate 6 0 := by
        rw [List.take_of_length_le (by rw [hbl'.out]; exact Nat.le_refl _), laid3_eq f hd]
      rw [hfull] at hR
      have hR' := Lib.hid hR
      clear hR hfull
      go_wp2_with fail
      have hXl : (f.head ++ f.body ++ List.replicate 6 0).length = 64 := by simp [f.length_head, f.length_body hd]
      have hun := Try.underlying26
      have hdr := hR'.out.below' (Below.refl _ _).drew
      have h5e := laid5_eq f hd
      generalize f.head ++ f.body ++ List.replicate 6 0 = X at *
      refine wp_region_held_drew (S := fun u => u.heap[w.heap.size + 1 + 1]? = some (.cells (sec X) 26 (0, 0)) ∧ u.cell? ⟨w.heap.size, 0, none⟩ = some (.int .i64 f.epoch) ∧ u.cell? ⟨w.heap.size, 1, none⟩ = some (.int .i64 f.pos)) (by kernel_rfl) ⟨hdr.cur, hdr.facts.1, hdr.facts.2.1⟩ (fun hHeld => ?_)
      refine wpAnyH_take (i := 0) (v := .agg (u8s X).toArray) rfl (by kernel_rfl) (by kernel_rfl) (by kernel_rfl) (fun _ _ _ h => h) (yieldsIf_load_mid (by rfl) _ _ rfl _ _ rfl (u8s X) _ (fun _ h => rangeAt_whole h.1) hun rfl (info_sec X hXl)) hHeld ?_
      try simp only [Act.put, List.getElem_toArray, List.getElem_cons_zero, List.getElem_cons_succ, List.setIfInBounds_toArray, List.set_cons_zero, List.set_cons_succ]
      refine wpAnyH_take (i := 1) (v := .pointer (some ⟨w.heap.size, 0, none⟩)) rfl (by kernel_rfl) (by kernel_rfl) (by kernel_rfl) (fun _ _ _ h => h) (Or.inl ⟨by rfl, by intro u hu; (try dsimp only at hu); go_simp⟩) hHeld ?_
      try simp only [Act.put, List.getElem_toArray, List.getElem_cons_zero, List.getElem_cons_succ, List.setIfInBounds_toArray, List.set_cons_zero, List.set_cons_succ]
      refine wpAnyH_take (i := 2) (v := .int .i64 f.epoch) rfl (by kernel_rfl) (by kernel_rfl) (by kernel_rfl) (fun _ _ _ h => h) (Or.inl ⟨by rfl, by intro u hu; (try dsimp only at hu); go_simp⟩) hHeld ?_
      try simp only [Act.put, List.getElem_toArray, List.getElem_cons_zero, List.getElem_cons_succ, List.setIfInBounds_toArray, List.set_cons_zero, List.set_cons_succ]
      refine wpAnyH_take (i := 4) (v := .pointer (some ⟨w.heap.size, 1, none⟩)) rfl (by kernel_rfl) (by kernel_rfl) (by kernel_rfl) (fun _ _ _ h => h) (Or.inl ⟨by rfl, by intro u hu; (try dsimp only at hu); go_simp⟩) hHeld ?_
      try simp only [Act.put, List.getElem_toArray, List.getElem_cons_zero, List.getElem_cons_succ, List.setIfInBounds_toArray, List.set_cons_zero, List.set_cons_succ]
      refine wpAnyH_take (i := 5) (v := .int .i64 f.pos) rfl (by kernel_rfl) (by kernel_rfl) (by kernel_rfl) (fun _ _ _ h => h) (Or.inl ⟨by rfl, by intro u hu; (try dsimp only at hu); go_simp⟩) hHeld ?_
      try simp only [Act.put, List.getElem_toArray, List.getElem_cons_zero, List.getElem_cons_succ, List.setIfInBounds_toArray, List.set_cons_zero, List.set_cons_succ]
      refine wpAnyH_ready (rs := [3]) (by kernel_rfl) (by simp) ?_
      refine AllReadyH.cons rfl (fun K hK => ?_) AllReadyH.nil
      rw [if_pos (by rfl)]
      go_simp
      go_at_call 39
      refine (rput_walk _ X hXl 58 4 (by omega) f.epoch he).mono ?_
      rintro e1 u1 ⟨rfl, hb1⟩
      have h1 := hdr.below' hb1
      refine hK.out _ _ ⟨h1.cur, h1.facts.1, h1.facts.2.1⟩ (fun hHeld => ?_)
      clear hK K
      try simp only [Act.put, List.getElem_toArray, List.getElem_cons_zero, List.getElem_cons_succ, List.setIfInBounds_toArray, List.set_cons_zero, List.set_cons_succ]
      have hl1 : (over X 58 (be 4 f.epoch)).length = 64 := by rw [length_over _ _ _ (by rw [length_be, hXl]; omega), hXl]
      refine wpAnyH_ready (rs := [6]) (by kernel_rfl) (by simp) ?_
      refine AllReadyH.cons rfl (fun K hK => ?_) AllReadyH.nil
      rw [if_pos (by rfl)]
      go_simp
      go_at_call 39
      refine (rput_walk _ (over X 58 (be 4 f.epoch)) hl1 62 2 (by omega) f.pos hp).mono ?_
      rintro e1 u2 ⟨rfl, hb2⟩
      have h2 := h1.below' hb2
      refine hK.out _ _ ⟨h2.cur, h2.facts.1, h2.facts.2.1⟩ (fun hHeld => ?_)
      clear hK K
      try simp only [Act.put, List.getElem_toArray, List.getElem_cons_zero, List.getElem_cons_succ, List.setIfInBounds_toArray, List.set_cons_zero, List.set_cons_succ]
      rw [h5e]
      have hl2 := f.length_sec hd
      have hr2 := rowOf_of h2.res
      have hc2 := h2.cur
      obtain ⟨g0, g1, _, _⟩ := h2.facts
      refine wpAnyH_ready (rs := [7]) (by kernel_rfl) (by simp) ?_
      refine AllReadyH.cons rfl (fun K hK => ?_) AllReadyH.nil
      rw [if_pos (by rfl)]
      refine Eq.mpr (store_sec (.tmp 2) (.tmp 41) ?h1 ?h2) ?_
      case h1 =>
        show decide (0 + 64 ≤ (rowOf u2 (w.heap.size + 1)).size ∧ 0 < 64) = true
        rw [hr2, size_sec, length_zeros]
        rfl
      case h2 =>
        show plain (.agg (sec f.sec)) 64 = true
        simp [plain, size_sec, hl2, all_sec]
      have hst : putRow u2 (.pointer (some ⟨w.heap.size + 1, 0, none⟩)) (sec f.sec) = u2.setRow (w.heap.size + 1) (sec f.sec) := by
        rw [putRow_mk, overrow_whole (by rw [hr2, size_sec, size_sec, hl2, length_zeros])]
      refine hK.out _ (putRow u2 (.pointer (some ⟨w.heap.size + 1, 0, none⟩)) (sec f.sec)) ?_ ?_
      · rw [hst]
        exact ⟨(setRow_other _ _ _ _ (by omega)).trans hc2, (World.cell?_of_block (a := ⟨w.heap.size, 0, none⟩) (setRow_other _ _ _ _ (by simp))).trans g0, (World.cell?_of_block (a := ⟨w.heap.size, 1, none⟩) (setRow_other _ _ _ _ (by simp))).trans g1⟩
      intro hHeld
      clear hK K
      try simp only [Act.put, List.getElem_toArray, List.getElem_cons_zero, List.getElem_cons_succ, List.setIfInBounds_toArray, List.set_cons_zero, List.set_cons_succ]
      refine wpAnyH_done (by kernel_rfl) ?_ _
      rw [hst]
      clear hHeld
      have hb3 := h2.below
      go_wp2_with fail
      exact bodyPost_ret (results_cell rfl ag_sec _ rfl (rowOf_setRow_same _ (by rw [hr2, size_sec, length_zeros]; omega)) (by rw [size_sec]; exact hl2) (by omega)) rfl ⟨rfl, hb3.os, hb3.tape, hb3.output, by simpa using hb3.size, fun i hi => (setRow_other _ _ _ _ (by omega)).trans (hb3.block i hi)⟩
end Go.Proofs.Ytlhnhhjpjkgogaa.wl
