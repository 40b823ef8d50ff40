/- The walk of WalTorn. -/
import Derived.Test.YtlhnhhjpjkgogaaWTornEq
import Derived.Test.YtlhnhhjpjkgogaaWRead
import Derived.StillTailTactics
import Derived.BigRegion
namespace Go.Proofs.Ytlhnhhjpjkgogaa.wl
open Go.RowKit Go.Proofs.Ytlhnhhjpjkgogaa.agg Go.Proofs.Ytlhnhhjpjkgogaa.dk
set_option linter.unusedSimpArgs false
attribute [local go_sem] max_int min_int
attribute [local go_sem ↓] load_rf store_rf
attribute [local go_sem] size_fr one_fr cut_fr2 over_fr2
theorem slice_front (W : World) (B m : Nat) (hm : m ≤ 64) : (Instr.sliceAt 26 (.pointer (some ⟨B, 0, none⟩)) none (some (.int .i64 m)) none).run Try.prog W = .ok (.slice (some ⟨B, 0, none⟩) m 64) W := by
  have hal : (Try.prog.arrayLen 26) = 64 := by kernel_rfl
  have hel : Try.prog.elem 26 = 5 := by kernel_rfl
  have hs : (sizeOf 5).run Try.prog W = .ok 1 W := by kernel_rfl
  have := run_sliceAt_array_h (P := Try.prog) W 26 ⟨B, 0, none⟩ (by kernel_rfl) .i64 (m : Int) (by omega) (by rw [hal]; omega)
  rw [this, hel, hs, hal]
  simp [slicedAt, Addr.add]
set_option maxRecDepth 100000 in
set_option maxHeartbeats 40000000 in
theorem torn_no (w : World) (f g : Fr) (front : Int) (hf : 0 ≤ front ∧ front < 256) (hsk : skips f g = false) :
    Calls Try.prog 3 #[.agg f.cells, .agg g.cells, .int .u8 front] w fun e w' => e = .returned (.bool true) ∧ Below w.heap.size w w' := by
  have hP : Pair w f g ((w.alloc (.cells f.cells 23)).alloc (.cells g.cells 23)) := ⟨((Below.refl _ _).alloc (Nat.le_refl _) _).alloc (by simp) _, heap_alloc2_old w _ _, heap_alloc2_new w _ _⟩
  have hP' := Lib.hid hP
  have hsk' := Lib.hid hsk
  clear hP hsk
  unfold Fr.cells
  go_enter Try.func3, Try.ntmps3
  go_upto_region 3 with (go_at_call 8; refine (awake_walk _).mono ?_; rintro e w1 ⟨rfl, hb1⟩)
  have hP1 := hP'.out.more hb1
  have hP1' := Lib.hid hP1
  go_cut [95] (fun s wx => s = .bool false ∧ wx = w1)
  case first =>
    as_aux_lemma =>
      obtain ⟨x0, x1, x2, x3⟩ := box_facts hP1.one
      obtain ⟨y0, y1, y2, y3⟩ := box_facts hP1.two
      obtain ⟨⟨c0, c1, c2, c3, c4, c5, c6, c7, c8, c9⟩, hq⟩ := skips_facts hsk'.out
      clear hP' hb1 hP1 hf
      rcases hq with r1 | ⟨r1, r2⟩
      · go_wp2_with fail
        go_meet
        exact ⟨rfl, rfl⟩
      · go_wp2_with fail
        go_meet
        exact ⟨rfl, rfl⟩
  case rest =>
    obtain ⟨rfl, rfl⟩ := hcut
    clear hb1 hP'
    obtain ⟨hGf, hGg, hne0, hfe9, hge9⟩ := skips_no hsk'.out
    have hfd := hGf.data
    have hgd := hGg.data
    have hfe : 0 ≤ f.epoch ∧ f.epoch < 4611686018427387904 := by have := hGf.epoch; omega
    have hge : 0 ≤ g.epoch ∧ g.epoch < 4611686018427387904 := by have := hGg.epoch; omega
    have hfp : 0 ≤ f.pos ∧ f.pos < 4611686018427387904 := by have := hGf.pos; omega
    have hgp : 0 ≤ g.pos ∧ g.pos < 4611686018427387904 := by have := hGg.pos; omega
    have hfl := f.length_sec hfd
    have hgl := g.length_sec hgd
    have hGf' := Lib.hid hGf
    have hGg' := Lib.hid hGg
    have hne0' := Lib.hid hne0
    have hfe9' := Lib.hid hfe9
    have hge9' := Lib.hid hge9
    clear hGf hGg hne0 hfe9 hge9 hsk' hP1
    go_upto_region 5 with fail
    go_cut [7, 8] (fun a b wx => ∃ A B : Nat, a = .pointer (some ⟨A, 0, none⟩) ∧ b = .pointer (some ⟨B, 0, none⟩) ∧ wx.heap[A]? = some (.cells (sec f.sec) 26 (0, 0)) ∧ wx.heap[B]? = some (.cells (sec g.sec) 26 (0, 0)) ∧ A ≠ B ∧ Pair w f g wx ∧ w.heap.size + 1 < A ∧ w.heap.size + 1 < B)
    case first =>
      as_aux_lemma =>
        have hdr := hP1'.out.more (Below.refl _ _).drew
        have huf := Try.underlying23
        refine wp_region_held_drew (S := fun u => u.heap[w.heap.size]? = some (.cells f.cells 23 (0, 0)) ∧ u.heap[w.heap.size + 1]? = some (.cells g.cells 23 (0, 0))) (by kernel_rfl) ⟨hdr.one, hdr.two⟩ (fun hHeld => ?_)
        refine wpAnyH_take (i := 0) (v := .agg f.cells.toList.toArray) rfl (by kernel_rfl) (by kernel_rfl) (by kernel_rfl) (fun _ _ _ h => h) (yieldsIf_load_mid (by rfl) _ _ rfl _ _ rfl f.cells.toList _ (fun _ h => rangeAt_whole h.1) huf rfl (info_rf f)) hHeld ?_
        try simp only [Act.put, List.getElem_toArray, List.getElem_cons_zero, List.getElem_cons_succ, List.setIfInBounds_toArray, List.set_cons_zero, List.set_cons_succ]
        refine wpAnyH_take (i := 2) (v := .agg g.cells.toList.toArray) rfl (by kernel_rfl) (by kernel_rfl) (by kernel_rfl) (fun _ _ _ h => h) (yieldsIf_load_mid (by rfl) _ _ rfl _ _ rfl g.cells.toList _ (fun _ h => rangeAt_whole h.2) huf rfl (info_rf g)) hHeld ?_
        try simp only [Act.put, List.getElem_toArray, List.getElem_cons_zero, List.getElem_cons_succ, List.setIfInBounds_toArray, List.set_cons_zero, List.set_cons_succ]
        refine wpAnyH_ready (rs := [1, 4, 5]) (by kernel_rfl) (by simp) ?_
        refine (AllReadyH.cons rfl (fun K hK => ?_) (AllReadyH.cons rfl (fun K hK => ?_) (AllReadyH.cons rfl (fun K hK => ?_) AllReadyH.nil)))
        all_goals rw [if_pos (by rfl)]
        · skip
          go_simp
          go_at_call 9
          refine (rwrite_walk _ f hfd hfe hfp).mono ?_
          rintro e1 u1 ⟨rfl, hb2⟩
          have P3 := hdr.more hb2
          refine hK.out _ _ ⟨P3.one, P3.two⟩ (fun hHeld => ?_)
          clear hK K
          try simp only [Act.put, List.getElem_toArray, List.getElem_cons_zero, List.getElem_cons_succ, List.setIfInBounds_toArray, List.set_cons_zero, List.set_cons_succ]
          refine wpAnyH_ready (rs := [3, 4, 5]) (by kernel_rfl) (by simp) ?_
          refine (AllReadyH.cons rfl (fun K hK => ?_) (AllReadyH.cons rfl (fun K hK => ?_) (AllReadyH.cons rfl (fun K hK => ?_) AllReadyH.nil)))
          all_goals rw [if_pos (by rfl)]
          · skip
            go_simp
            go_at_call 9
            refine (rwrite_walk _ g hgd hge hgp).mono ?_
            rintro e1 u4 ⟨rfl, hb5⟩
            have P6 := P3.more hb5
            refine hK.out _ _ ⟨P6.one, P6.two⟩ (fun hHeld => ?_)
            clear hK K
            try simp only [Act.put, List.getElem_toArray, List.getElem_cons_zero, List.getElem_cons_succ, List.setIfInBounds_toArray, List.set_cons_zero, List.set_cons_succ]
            refine wpAnyH_ready (rs := [4, 5]) (by kernel_rfl) (by simp) ?_
            refine (AllReadyH.cons rfl (fun K hK => ?_) (AllReadyH.cons rfl (fun K hK => ?_) AllReadyH.nil))
            all_goals rw [if_pos (by rfl)]
            · skip
              go_simp
              have hb8 : Below u4.heap.size u4 (u4.alloc (.cells (sec zeros) 26)) := (Below.refl _ _).alloc (Nat.le_refl _) _
              have P7 := P6.more hb8
              have hA9 : (u4.alloc (.cells (sec zeros) 26)).heap[u4.heap.size]? = some (.cells (sec zeros) 26 (0, 0)) := heap_alloc_new _ _
              have hl10 := lt_of_block P6.two
              refine hK.out _ _ ⟨P7.one, P7.two⟩ (fun hHeld => ?_)
              clear hK K
              try simp only [Act.put, List.getElem_toArray, List.getElem_cons_zero, List.getElem_cons_succ, List.setIfInBounds_toArray, List.set_cons_zero, List.set_cons_succ]
              refine wpAnyH_ready (rs := [5]) (by kernel_rfl) (by simp) ?_
              refine AllReadyH.cons rfl (fun K hK => ?_) AllReadyH.nil
              rw [if_pos (by rfl)]
              go_simp
              have hb12 : Below (u4.alloc (.cells (sec zeros) 26)).heap.size (u4.alloc (.cells (sec zeros) 26)) ((u4.alloc (.cells (sec zeros) 26)).alloc (.cells (sec zeros) 26)) := (Below.refl _ _).alloc (Nat.le_refl _) _
              have P11 := P7.more hb12
              have hs14 : (u4.alloc (.cells (sec zeros) 26)).heap.size = u4.heap.size + 1 := by simp
              have hA13 : ((u4.alloc (.cells (sec zeros) 26)).alloc (.cells (sec zeros) 26)).heap[u4.heap.size + 1]? = some (.cells (sec zeros) 26 (0, 0)) := hs14 ▸ heap_alloc_new (u4.alloc (.cells (sec zeros) 26)) _
              have hA15 := (hb12.block _ (lt_of_block hA9)).trans hA9
              have hne : u4.heap.size < (u4.alloc (.cells (sec zeros) 26)).heap.size := lt_of_block hA9
              have hl16 := lt_of_block P7.two
              refine hK.out _ _ ⟨P11.one, P11.two⟩ (fun hHeld => ?_)
              clear hK K
              try simp only [Act.put, List.getElem_toArray, List.getElem_cons_zero, List.getElem_cons_succ, List.setIfInBounds_toArray, List.set_cons_zero, List.set_cons_succ]
              have hr := rowOf_of hA15
              refine wpAnyH_ready (rs := [6]) (by kernel_rfl) (by simp) ?_
              refine AllReadyH.cons rfl (fun K hK => ?_) AllReadyH.nil
              rw [if_pos (by rfl)]
              refine Eq.mpr (store_sec (.tmp 7) (.tmp 97) ?h1 ?h2) ?_
              case h1 =>
                show decide (0 + 64 ≤ (rowOf ((u4.alloc (.cells (sec zeros) 26)).alloc (.cells (sec zeros) 26)) (u4.heap.size)).size ∧ 0 < 64) = true
                refine @decide_eq_true _ _ ⟨?_, by decide⟩
                rw [hr, size_sec, length_zeros]
                exact Nat.le_refl _
              case h2 =>
                show plain (.agg (sec f.sec)) 64 = true
                simp [plain, size_sec, hfl, all_sec]
              have hst : putRow ((u4.alloc (.cells (sec zeros) 26)).alloc (.cells (sec zeros) 26)) (.pointer (some ⟨(u4.heap.size), 0, none⟩)) (sec f.sec) = ((u4.alloc (.cells (sec zeros) 26)).alloc (.cells (sec zeros) 26)).setRow (u4.heap.size) (sec f.sec) := by
                rw [putRow_mk, overrow_whole (by rw [hr, size_sec, size_sec, hfl, length_zeros])]
              have hPs : Pair w f g (((u4.alloc (.cells (sec zeros) 26)).alloc (.cells (sec zeros) 26)).setRow (u4.heap.size) (sec f.sec)) := ⟨⟨P11.below.os, P11.below.tape, P11.below.output, by simpa using P11.below.size, fun i hi => (setRow_other _ _ _ _ (by omega)).trans (P11.below.block i hi)⟩, (setRow_other _ _ _ _ (by omega)).trans P11.one, (setRow_other _ _ _ _ (by omega)).trans P11.two⟩
              have hA6 := setRow_heap ((u4.alloc (.cells (sec zeros) 26)).alloc (.cells (sec zeros) 26)) (u4.heap.size) _ (sec f.sec) _ _ hA15
              have hB6 := (setRow_other ((u4.alloc (.cells (sec zeros) 26)).alloc (.cells (sec zeros) 26)) (u4.heap.size) (u4.heap.size + 1) (sec f.sec) (by omega)).trans hA13
              refine hK.out _ (putRow ((u4.alloc (.cells (sec zeros) 26)).alloc (.cells (sec zeros) 26)) (.pointer (some ⟨(u4.heap.size), 0, none⟩)) (sec f.sec)) (by rw [hst]; exact ⟨hPs.one, hPs.two⟩) ?_
              rw [hst]
              intro hHeld
              clear hK K hst hr
              try simp only [Act.put, List.getElem_toArray, List.getElem_cons_zero, List.getElem_cons_succ, List.setIfInBounds_toArray, List.set_cons_zero, List.set_cons_succ]
              have hr := rowOf_of hB6
              refine wpAnyH_ready (rs := [7]) (by kernel_rfl) (by simp) ?_
              refine AllReadyH.cons rfl (fun K hK => ?_) AllReadyH.nil
              rw [if_pos (by rfl)]
              refine Eq.mpr (store_sec (.tmp 8) (.tmp 99) ?h1 ?h2) ?_
              case h1 =>
                show decide (0 + 64 ≤ (rowOf (((u4.alloc (.cells (sec zeros) 26)).alloc (.cells (sec zeros) 26)).setRow (u4.heap.size) (sec f.sec)) (u4.heap.size + 1)).size ∧ 0 < 64) = true
                refine @decide_eq_true _ _ ⟨?_, by decide⟩
                rw [hr, size_sec, length_zeros]
                exact Nat.le_refl _
              case h2 =>
                show plain (.agg (sec g.sec)) 64 = true
                simp [plain, size_sec, hgl, all_sec]
              have hst : putRow (((u4.alloc (.cells (sec zeros) 26)).alloc (.cells (sec zeros) 26)).setRow (u4.heap.size) (sec f.sec)) (.pointer (some ⟨(u4.heap.size + 1), 0, none⟩)) (sec g.sec) = (((u4.alloc (.cells (sec zeros) 26)).alloc (.cells (sec zeros) 26)).setRow (u4.heap.size) (sec f.sec)).setRow (u4.heap.size + 1) (sec g.sec) := by
                rw [putRow_mk, overrow_whole (by rw [hr, size_sec, size_sec, hgl, length_zeros])]
              have hPt : Pair w f g ((((u4.alloc (.cells (sec zeros) 26)).alloc (.cells (sec zeros) 26)).setRow (u4.heap.size) (sec f.sec)).setRow (u4.heap.size + 1) (sec g.sec)) := ⟨⟨hPs.below.os, hPs.below.tape, hPs.below.output, by simpa using hPs.below.size, fun i hi => (setRow_other _ _ _ _ (by omega)).trans (hPs.below.block i hi)⟩, (setRow_other _ _ _ _ (by omega)).trans hPs.one, (setRow_other _ _ _ _ (by omega)).trans hPs.two⟩
              have hA7 := (setRow_other (((u4.alloc (.cells (sec zeros) 26)).alloc (.cells (sec zeros) 26)).setRow (u4.heap.size) (sec f.sec)) (u4.heap.size + 1) (u4.heap.size) (sec g.sec) (by omega)).trans hA6
              have hB7 := setRow_heap (((u4.alloc (.cells (sec zeros) 26)).alloc (.cells (sec zeros) 26)).setRow (u4.heap.size) (sec f.sec)) (u4.heap.size + 1) _ (sec g.sec) _ _ hB6
              refine hK.out _ (putRow (((u4.alloc (.cells (sec zeros) 26)).alloc (.cells (sec zeros) 26)).setRow (u4.heap.size) (sec f.sec)) (.pointer (some ⟨(u4.heap.size + 1), 0, none⟩)) (sec g.sec)) (by rw [hst]; exact ⟨hPt.one, hPt.two⟩) ?_
              rw [hst]
              intro hHeld
              clear hK K hst hr
              try simp only [Act.put, List.getElem_toArray, List.getElem_cons_zero, List.getElem_cons_succ, List.setIfInBounds_toArray, List.set_cons_zero, List.set_cons_succ]
              refine wpAnyH_done (by kernel_rfl) ?_ _
              go_wp2_with fail
              go_meet
              exact ⟨u4.heap.size, u4.heap.size + 1, rfl, rfl, hA7, hB7, by omega, hPt, by omega, by omega⟩
            · skip
              go_simp
              have hb18 : Below u4.heap.size u4 (u4.alloc (.cells (sec zeros) 26)) := (Below.refl _ _).alloc (Nat.le_refl _) _
              have P17 := P6.more hb18
              have hA19 : (u4.alloc (.cells (sec zeros) 26)).heap[u4.heap.size]? = some (.cells (sec zeros) 26 (0, 0)) := heap_alloc_new _ _
              have hl20 := lt_of_block P6.two
              refine hK.out _ _ ⟨P17.one, P17.two⟩ (fun hHeld => ?_)
              clear hK K
              try simp only [Act.put, List.getElem_toArray, List.getElem_cons_zero, List.getElem_cons_succ, List.setIfInBounds_toArray, List.set_cons_zero, List.set_cons_succ]
              refine wpAnyH_ready (rs := [4]) (by kernel_rfl) (by simp) ?_
              refine AllReadyH.cons rfl (fun K hK => ?_) AllReadyH.nil
              rw [if_pos (by rfl)]
              go_simp
              have hb22 : Below (u4.alloc (.cells (sec zeros) 26)).heap.size (u4.alloc (.cells (sec zeros) 26)) ((u4.alloc (.cells (sec zeros) 26)).alloc (.cells (sec zeros) 26)) := (Below.refl _ _).alloc (Nat.le_refl _) _
              have P21 := P17.more hb22
              have hs24 : (u4.alloc (.cells (sec zeros) 26)).heap.size = u4.heap.size + 1 := by simp
              have hA23 : ((u4.alloc (.cells (sec zeros) 26)).alloc (.cells (sec zeros) 26)).heap[u4.heap.size + 1]? = some (.cells (sec zeros) 26 (0, 0)) := hs24 ▸ heap_alloc_new (u4.alloc (.cells (sec zeros) 26)) _
              have hA25 := (hb22.block _ (lt_of_block hA19)).trans hA19
              have hne : u4.heap.size < (u4.alloc (.cells (sec zeros) 26)).heap.size := lt_of_block hA19
              have hl26 := lt_of_block P17.two
              refine hK.out _ _ ⟨P21.one, P21.two⟩ (fun hHeld => ?_)
              clear hK K
              try simp only [Act.put, List.getElem_toArray, List.getElem_cons_zero, List.getElem_cons_succ, List.setIfInBounds_toArray, List.set_cons_zero, List.set_cons_succ]
              have hr := rowOf_of hA23
              refine wpAnyH_ready (rs := [6]) (by kernel_rfl) (by simp) ?_
              refine AllReadyH.cons rfl (fun K hK => ?_) AllReadyH.nil
              rw [if_pos (by rfl)]
              refine Eq.mpr (store_sec (.tmp 7) (.tmp 97) ?h1 ?h2) ?_
              case h1 =>
                show decide (0 + 64 ≤ (rowOf ((u4.alloc (.cells (sec zeros) 26)).alloc (.cells (sec zeros) 26)) (u4.heap.size + 1)).size ∧ 0 < 64) = true
                refine @decide_eq_true _ _ ⟨?_, by decide⟩
                rw [hr, size_sec, length_zeros]
                exact Nat.le_refl _
              case h2 =>
                show plain (.agg (sec f.sec)) 64 = true
                simp [plain, size_sec, hfl, all_sec]
              have hst : putRow ((u4.alloc (.cells (sec zeros) 26)).alloc (.cells (sec zeros) 26)) (.pointer (some ⟨(u4.heap.size + 1), 0, none⟩)) (sec f.sec) = ((u4.alloc (.cells (sec zeros) 26)).alloc (.cells (sec zeros) 26)).setRow (u4.heap.size + 1) (sec f.sec) := by
                rw [putRow_mk, overrow_whole (by rw [hr, size_sec, size_sec, hfl, length_zeros])]
              have hPs : Pair w f g (((u4.alloc (.cells (sec zeros) 26)).alloc (.cells (sec zeros) 26)).setRow (u4.heap.size + 1) (sec f.sec)) := ⟨⟨P21.below.os, P21.below.tape, P21.below.output, by simpa using P21.below.size, fun i hi => (setRow_other _ _ _ _ (by omega)).trans (P21.below.block i hi)⟩, (setRow_other _ _ _ _ (by omega)).trans P21.one, (setRow_other _ _ _ _ (by omega)).trans P21.two⟩
              have hA6 := setRow_heap ((u4.alloc (.cells (sec zeros) 26)).alloc (.cells (sec zeros) 26)) (u4.heap.size + 1) _ (sec f.sec) _ _ hA23
              have hB6 := (setRow_other ((u4.alloc (.cells (sec zeros) 26)).alloc (.cells (sec zeros) 26)) (u4.heap.size + 1) (u4.heap.size) (sec f.sec) (by omega)).trans hA25
              refine hK.out _ (putRow ((u4.alloc (.cells (sec zeros) 26)).alloc (.cells (sec zeros) 26)) (.pointer (some ⟨(u4.heap.size + 1), 0, none⟩)) (sec f.sec)) (by rw [hst]; exact ⟨hPs.one, hPs.two⟩) ?_
              rw [hst]
              intro hHeld
              clear hK K hst hr
              try simp only [Act.put, List.getElem_toArray, List.getElem_cons_zero, List.getElem_cons_succ, List.setIfInBounds_toArray, List.set_cons_zero, List.set_cons_succ]
              have hr := rowOf_of hB6
              refine wpAnyH_ready (rs := [7]) (by kernel_rfl) (by simp) ?_
              refine AllReadyH.cons rfl (fun K hK => ?_) AllReadyH.nil
              rw [if_pos (by rfl)]
              refine Eq.mpr (store_sec (.tmp 8) (.tmp 99) ?h1 ?h2) ?_
              case h1 =>
                show decide (0 + 64 ≤ (rowOf (((u4.alloc (.cells (sec zeros) 26)).alloc (.cells (sec zeros) 26)).setRow (u4.heap.size + 1) (sec f.sec)) (u4.heap.size)).size ∧ 0 < 64) = true
                refine @decide_eq_true _ _ ⟨?_, by decide⟩
                rw [hr, size_sec, length_zeros]
                exact Nat.le_refl _
              case h2 =>
                show plain (.agg (sec g.sec)) 64 = true
                simp [plain, size_sec, hgl, all_sec]
              have hst : putRow (((u4.alloc (.cells (sec zeros) 26)).alloc (.cells (sec zeros) 26)).setRow (u4.heap.size + 1) (sec f.sec)) (.pointer (some ⟨(u4.heap.size), 0, none⟩)) (sec g.sec) = (((u4.alloc (.cells (sec zeros) 26)).alloc (.cells (sec zeros) 26)).setRow (u4.heap.size + 1) (sec f.sec)).setRow (u4.heap.size) (sec g.sec) := by
                rw [putRow_mk, overrow_whole (by rw [hr, size_sec, size_sec, hgl, length_zeros])]
              have hPt : Pair w f g ((((u4.alloc (.cells (sec zeros) 26)).alloc (.cells (sec zeros) 26)).setRow (u4.heap.size + 1) (sec f.sec)).setRow (u4.heap.size) (sec g.sec)) := ⟨⟨hPs.below.os, hPs.below.tape, hPs.below.output, by simpa using hPs.below.size, fun i hi => (setRow_other _ _ _ _ (by omega)).trans (hPs.below.block i hi)⟩, (setRow_other _ _ _ _ (by omega)).trans hPs.one, (setRow_other _ _ _ _ (by omega)).trans hPs.two⟩
              have hA7 := (setRow_other (((u4.alloc (.cells (sec zeros) 26)).alloc (.cells (sec zeros) 26)).setRow (u4.heap.size + 1) (sec f.sec)) (u4.heap.size) (u4.heap.size + 1) (sec g.sec) (by omega)).trans hA6
              have hB7 := setRow_heap (((u4.alloc (.cells (sec zeros) 26)).alloc (.cells (sec zeros) 26)).setRow (u4.heap.size + 1) (sec f.sec)) (u4.heap.size) _ (sec g.sec) _ _ hB6
              refine hK.out _ (putRow (((u4.alloc (.cells (sec zeros) 26)).alloc (.cells (sec zeros) 26)).setRow (u4.heap.size + 1) (sec f.sec)) (.pointer (some ⟨(u4.heap.size), 0, none⟩)) (sec g.sec)) (by rw [hst]; exact ⟨hPt.one, hPt.two⟩) ?_
              rw [hst]
              intro hHeld
              clear hK K hst hr
              try simp only [Act.put, List.getElem_toArray, List.getElem_cons_zero, List.getElem_cons_succ, List.setIfInBounds_toArray, List.set_cons_zero, List.set_cons_succ]
              refine wpAnyH_done (by kernel_rfl) ?_ _
              go_wp2_with fail
              go_meet
              exact ⟨u4.heap.size + 1, u4.heap.size, rfl, rfl, hA7, hB7, by omega, hPt, by omega, by omega⟩
          · skip
            go_simp
            have hb28 : Below u1.heap.size u1 (u1.alloc (.cells (sec zeros) 26)) := (Below.refl _ _).alloc (Nat.le_refl _) _
            have P27 := P3.more hb28
            have hA29 : (u1.alloc (.cells (sec zeros) 26)).heap[u1.heap.size]? = some (.cells (sec zeros) 26 (0, 0)) := heap_alloc_new _ _
            have hl30 := lt_of_block P3.two
            refine hK.out _ _ ⟨P27.one, P27.two⟩ (fun hHeld => ?_)
            clear hK K
            try simp only [Act.put, List.getElem_toArray, List.getElem_cons_zero, List.getElem_cons_succ, List.setIfInBounds_toArray, List.set_cons_zero, List.set_cons_succ]
            refine wpAnyH_ready (rs := [3, 5]) (by kernel_rfl) (by simp) ?_
            refine (AllReadyH.cons rfl (fun K hK => ?_) (AllReadyH.cons rfl (fun K hK => ?_) AllReadyH.nil))
            all_goals rw [if_pos (by rfl)]
            · skip
              go_simp
              go_at_call 9
              refine (rwrite_walk _ g hgd hge hgp).mono ?_
              rintro e1 u31 ⟨rfl, hb32⟩
              have P33 := P27.more hb32
              have hA34 := (hb32.block _ (lt_of_block hA29)).trans hA29
              refine hK.out _ _ ⟨P33.one, P33.two⟩ (fun hHeld => ?_)
              clear hK K
              try simp only [Act.put, List.getElem_toArray, List.getElem_cons_zero, List.getElem_cons_succ, List.setIfInBounds_toArray, List.set_cons_zero, List.set_cons_succ]
              refine wpAnyH_ready (rs := [5]) (by kernel_rfl) (by simp) ?_
              refine AllReadyH.cons rfl (fun K hK => ?_) AllReadyH.nil
              rw [if_pos (by rfl)]
              go_simp
              have hb36 : Below u31.heap.size u31 (u31.alloc (.cells (sec zeros) 26)) := (Below.refl _ _).alloc (Nat.le_refl _) _
              have P35 := P33.more hb36
              have hA37 : (u31.alloc (.cells (sec zeros) 26)).heap[u31.heap.size]? = some (.cells (sec zeros) 26 (0, 0)) := heap_alloc_new _ _
              have hA38 := (hb36.block _ (lt_of_block hA34)).trans hA34
              have hne : u1.heap.size < u31.heap.size := lt_of_block hA34
              have hl39 := lt_of_block P33.two
              refine hK.out _ _ ⟨P35.one, P35.two⟩ (fun hHeld => ?_)
              clear hK K
              try simp only [Act.put, List.getElem_toArray, List.getElem_cons_zero, List.getElem_cons_succ, List.setIfInBounds_toArray, List.set_cons_zero, List.set_cons_succ]
              have hr := rowOf_of hA38
              refine wpAnyH_ready (rs := [6]) (by kernel_rfl) (by simp) ?_
              refine AllReadyH.cons rfl (fun K hK => ?_) AllReadyH.nil
              rw [if_pos (by rfl)]
              refine Eq.mpr (store_sec (.tmp 7) (.tmp 97) ?h1 ?h2) ?_
              case h1 =>
                show decide (0 + 64 ≤ (rowOf (u31.alloc (.cells (sec zeros) 26)) (u1.heap.size)).size ∧ 0 < 64) = true
                refine @decide_eq_true _ _ ⟨?_, by decide⟩
                rw [hr, size_sec, length_zeros]
                exact Nat.le_refl _
              case h2 =>
                show plain (.agg (sec f.sec)) 64 = true
                simp [plain, size_sec, hfl, all_sec]
              have hst : putRow (u31.alloc (.cells (sec zeros) 26)) (.pointer (some ⟨(u1.heap.size), 0, none⟩)) (sec f.sec) = (u31.alloc (.cells (sec zeros) 26)).setRow (u1.heap.size) (sec f.sec) := by
                rw [putRow_mk, overrow_whole (by rw [hr, size_sec, size_sec, hfl, length_zeros])]
              have hPs : Pair w f g ((u31.alloc (.cells (sec zeros) 26)).setRow (u1.heap.size) (sec f.sec)) := ⟨⟨P35.below.os, P35.below.tape, P35.below.output, by simpa using P35.below.size, fun i hi => (setRow_other _ _ _ _ (by omega)).trans (P35.below.block i hi)⟩, (setRow_other _ _ _ _ (by omega)).trans P35.one, (setRow_other _ _ _ _ (by omega)).trans P35.two⟩
              have hA6 := setRow_heap (u31.alloc (.cells (sec zeros) 26)) (u1.heap.size) _ (sec f.sec) _ _ hA38
              have hB6 := (setRow_other (u31.alloc (.cells (sec zeros) 26)) (u1.heap.size) (u31.heap.size) (sec f.sec) (by omega)).trans hA37
              refine hK.out _ (putRow (u31.alloc (.cells (sec zeros) 26)) (.pointer (some ⟨(u1.heap.size), 0, none⟩)) (sec f.sec)) (by rw [hst]; exact ⟨hPs.one, hPs.two⟩) ?_
              rw [hst]
              intro hHeld
              clear hK K hst hr
              try simp only [Act.put, List.getElem_toArray, List.getElem_cons_zero, List.getElem_cons_succ, List.setIfInBounds_toArray, List.set_cons_zero, List.set_cons_succ]
              have hr := rowOf_of hB6
              refine wpAnyH_ready (rs := [7]) (by kernel_rfl) (by simp) ?_
              refine AllReadyH.cons rfl (fun K hK => ?_) AllReadyH.nil
              rw [if_pos (by rfl)]
              refine Eq.mpr (store_sec (.tmp 8) (.tmp 99) ?h1 ?h2) ?_
              case h1 =>
                show decide (0 + 64 ≤ (rowOf ((u31.alloc (.cells (sec zeros) 26)).setRow (u1.heap.size) (sec f.sec)) (u31.heap.size)).size ∧ 0 < 64) = true
                refine @decide_eq_true _ _ ⟨?_, by decide⟩
                rw [hr, size_sec, length_zeros]
                exact Nat.le_refl _
              case h2 =>
                show plain (.agg (sec g.sec)) 64 = true
                simp [plain, size_sec, hgl, all_sec]
              have hst : putRow ((u31.alloc (.cells (sec zeros) 26)).setRow (u1.heap.size) (sec f.sec)) (.pointer (some ⟨(u31.heap.size), 0, none⟩)) (sec g.sec) = ((u31.alloc (.cells (sec zeros) 26)).setRow (u1.heap.size) (sec f.sec)).setRow (u31.heap.size) (sec g.sec) := by
                rw [putRow_mk, overrow_whole (by rw [hr, size_sec, size_sec, hgl, length_zeros])]
              have hPt : Pair w f g (((u31.alloc (.cells (sec zeros) 26)).setRow (u1.heap.size) (sec f.sec)).setRow (u31.heap.size) (sec g.sec)) := ⟨⟨hPs.below.os, hPs.below.tape, hPs.below.output, by simpa using hPs.below.size, fun i hi => (setRow_other _ _ _ _ (by omega)).trans (hPs.below.block i hi)⟩, (setRow_other _ _ _ _ (by omega)).trans hPs.one, (setRow_other _ _ _ _ (by omega)).trans hPs.two⟩
              have hA7 := (setRow_other ((u31.alloc (.cells (sec zeros) 26)).setRow (u1.heap.size) (sec f.sec)) (u31.heap.size) (u1.heap.size) (sec g.sec) (by omega)).trans hA6
              have hB7 := setRow_heap ((u31.alloc (.cells (sec zeros) 26)).setRow (u1.heap.size) (sec f.sec)) (u31.heap.size) _ (sec g.sec) _ _ hB6
              refine hK.out _ (putRow ((u31.alloc (.cells (sec zeros) 26)).setRow (u1.heap.size) (sec f.sec)) (.pointer (some ⟨(u31.heap.size), 0, none⟩)) (sec g.sec)) (by rw [hst]; exact ⟨hPt.one, hPt.two⟩) ?_
              rw [hst]
              intro hHeld
              clear hK K hst hr
              try simp only [Act.put, List.getElem_toArray, List.getElem_cons_zero, List.getElem_cons_succ, List.setIfInBounds_toArray, List.set_cons_zero, List.set_cons_succ]
              refine wpAnyH_done (by kernel_rfl) ?_ _
              go_wp2_with fail
              go_meet
              exact ⟨u1.heap.size, u31.heap.size, rfl, rfl, hA7, hB7, by omega, hPt, by omega, by omega⟩
            · skip
              go_simp
              have hb41 : Below (u1.alloc (.cells (sec zeros) 26)).heap.size (u1.alloc (.cells (sec zeros) 26)) ((u1.alloc (.cells (sec zeros) 26)).alloc (.cells (sec zeros) 26)) := (Below.refl _ _).alloc (Nat.le_refl _) _
              have P40 := P27.more hb41
              have hs43 : (u1.alloc (.cells (sec zeros) 26)).heap.size = u1.heap.size + 1 := by simp
              have hA42 : ((u1.alloc (.cells (sec zeros) 26)).alloc (.cells (sec zeros) 26)).heap[u1.heap.size + 1]? = some (.cells (sec zeros) 26 (0, 0)) := hs43 ▸ heap_alloc_new (u1.alloc (.cells (sec zeros) 26)) _
              have hA44 := (hb41.block _ (lt_of_block hA29)).trans hA29
              have hne : u1.heap.size < (u1.alloc (.cells (sec zeros) 26)).heap.size := lt_of_block hA29
              have hl45 := lt_of_block P27.two
              refine hK.out _ _ ⟨P40.one, P40.two⟩ (fun hHeld => ?_)
              clear hK K
              try simp only [Act.put, List.getElem_toArray, List.getElem_cons_zero, List.getElem_cons_succ, List.setIfInBounds_toArray, List.set_cons_zero, List.set_cons_succ]
              refine wpAnyH_ready (rs := [3]) (by kernel_rfl) (by simp) ?_
              refine AllReadyH.cons rfl (fun K hK => ?_) AllReadyH.nil
              rw [if_pos (by rfl)]
              go_simp
              go_at_call 9
              refine (rwrite_walk _ g hgd hge hgp).mono ?_
              rintro e1 u46 ⟨rfl, hb47⟩
              have P48 := P40.more hb47
              have hA49 := (hb47.block _ (lt_of_block hA44)).trans hA44
              have hA50 := (hb47.block _ (lt_of_block hA42)).trans hA42
              refine hK.out _ _ ⟨P48.one, P48.two⟩ (fun hHeld => ?_)
              clear hK K
              try simp only [Act.put, List.getElem_toArray, List.getElem_cons_zero, List.getElem_cons_succ, List.setIfInBounds_toArray, List.set_cons_zero, List.set_cons_succ]
              have hr := rowOf_of hA49
              refine wpAnyH_ready (rs := [6]) (by kernel_rfl) (by simp) ?_
              refine AllReadyH.cons rfl (fun K hK => ?_) AllReadyH.nil
              rw [if_pos (by rfl)]
              refine Eq.mpr (store_sec (.tmp 7) (.tmp 97) ?h1 ?h2) ?_
              case h1 =>
                show decide (0 + 64 ≤ (rowOf u46 (u1.heap.size)).size ∧ 0 < 64) = true
                refine @decide_eq_true _ _ ⟨?_, by decide⟩
                rw [hr, size_sec, length_zeros]
                exact Nat.le_refl _
              case h2 =>
                show plain (.agg (sec f.sec)) 64 = true
                simp [plain, size_sec, hfl, all_sec]
              have hst : putRow u46 (.pointer (some ⟨(u1.heap.size), 0, none⟩)) (sec f.sec) = u46.setRow (u1.heap.size) (sec f.sec) := by
                rw [putRow_mk, overrow_whole (by rw [hr, size_sec, size_sec, hfl, length_zeros])]
              have hPs : Pair w f g (u46.setRow (u1.heap.size) (sec f.sec)) := ⟨⟨P48.below.os, P48.below.tape, P48.below.output, by simpa using P48.below.size, fun i hi => (setRow_other _ _ _ _ (by omega)).trans (P48.below.block i hi)⟩, (setRow_other _ _ _ _ (by omega)).trans P48.one, (setRow_other _ _ _ _ (by omega)).trans P48.two⟩
              have hA6 := setRow_heap u46 (u1.heap.size) _ (sec f.sec) _ _ hA49
              have hB6 := (setRow_other u46 (u1.heap.size) (u1.heap.size + 1) (sec f.sec) (by omega)).trans hA50
              refine hK.out _ (putRow u46 (.pointer (some ⟨(u1.heap.size), 0, none⟩)) (sec f.sec)) (by rw [hst]; exact ⟨hPs.one, hPs.two⟩) ?_
              rw [hst]
              intro hHeld
              clear hK K hst hr
              try simp only [Act.put, List.getElem_toArray, List.getElem_cons_zero, List.getElem_cons_succ, List.setIfInBounds_toArray, List.set_cons_zero, List.set_cons_succ]
              have hr := rowOf_of hB6
              refine wpAnyH_ready (rs := [7]) (by kernel_rfl) (by simp) ?_
              refine AllReadyH.cons rfl (fun K hK => ?_) AllReadyH.nil
              rw [if_pos (by rfl)]
              refine Eq.mpr (store_sec (.tmp 8) (.tmp 99) ?h1 ?h2) ?_
              case h1 =>
                show decide (0 + 64 ≤ (rowOf (u46.setRow (u1.heap.size) (sec f.sec)) (u1.heap.size + 1)).size ∧ 0 < 64) = true
                refine @decide_eq_true _ _ ⟨?_, by decide⟩
                rw [hr, size_sec, length_zeros]
                exact Nat.le_refl _
              case h2 =>
                show plain (.agg (sec g.sec)) 64 = true
                simp [plain, size_sec, hgl, all_sec]
              have hst : putRow (u46.setRow (u1.heap.size) (sec f.sec)) (.pointer (some ⟨(u1.heap.size + 1), 0, none⟩)) (sec g.sec) = (u46.setRow (u1.heap.size) (sec f.sec)).setRow (u1.heap.size + 1) (sec g.sec) := by
                rw [putRow_mk, overrow_whole (by rw [hr, size_sec, size_sec, hgl, length_zeros])]
              have hPt : Pair w f g ((u46.setRow (u1.heap.size) (sec f.sec)).setRow (u1.heap.size + 1) (sec g.sec)) := ⟨⟨hPs.below.os, hPs.below.tape, hPs.below.output, by simpa using hPs.below.size, fun i hi => (setRow_other _ _ _ _ (by omega)).trans (hPs.below.block i hi)⟩, (setRow_other _ _ _ _ (by omega)).trans hPs.one, (setRow_other _ _ _ _ (by omega)).trans hPs.two⟩
              have hA7 := (setRow_other (u46.setRow (u1.heap.size) (sec f.sec)) (u1.heap.size + 1) (u1.heap.size) (sec g.sec) (by omega)).trans hA6
              have hB7 := setRow_heap (u46.setRow (u1.heap.size) (sec f.sec)) (u1.heap.size + 1) _ (sec g.sec) _ _ hB6
              refine hK.out _ (putRow (u46.setRow (u1.heap.size) (sec f.sec)) (.pointer (some ⟨(u1.heap.size + 1), 0, none⟩)) (sec g.sec)) (by rw [hst]; exact ⟨hPt.one, hPt.two⟩) ?_
              rw [hst]
              intro hHeld
              clear hK K hst hr
              try simp only [Act.put, List.getElem_toArray, List.getElem_cons_zero, List.getElem_cons_succ, List.setIfInBounds_toArray, List.set_cons_zero, List.set_cons_succ]
              refine wpAnyH_done (by kernel_rfl) ?_ _
              go_wp2_with fail
              go_meet
              exact ⟨u1.heap.size, u1.heap.size + 1, rfl, rfl, hA7, hB7, by omega, hPt, by omega, by omega⟩
          · skip
            go_simp
            have hb52 : Below u1.heap.size u1 (u1.alloc (.cells (sec zeros) 26)) := (Below.refl _ _).alloc (Nat.le_refl _) _
            have P51 := P3.more hb52
            have hA53 : (u1.alloc (.cells (sec zeros) 26)).heap[u1.heap.size]? = some (.cells (sec zeros) 26 (0, 0)) := heap_alloc_new _ _
            have hl54 := lt_of_block P3.two
            refine hK.out _ _ ⟨P51.one, P51.two⟩ (fun hHeld => ?_)
            clear hK K
            try simp only [Act.put, List.getElem_toArray, List.getElem_cons_zero, List.getElem_cons_succ, List.setIfInBounds_toArray, List.set_cons_zero, List.set_cons_succ]
            refine wpAnyH_ready (rs := [3, 4]) (by kernel_rfl) (by simp) ?_
            refine (AllReadyH.cons rfl (fun K hK => ?_) (AllReadyH.cons rfl (fun K hK => ?_) AllReadyH.nil))
            all_goals rw [if_pos (by rfl)]
            · skip
              go_simp
              go_at_call 9
              refine (rwrite_walk _ g hgd hge hgp).mono ?_
              rintro e1 u55 ⟨rfl, hb56⟩
              have P57 := P51.more hb56
              have hA58 := (hb56.block _ (lt_of_block hA53)).trans hA53
              refine hK.out _ _ ⟨P57.one, P57.two⟩ (fun hHeld => ?_)
              clear hK K
              try simp only [Act.put, List.getElem_toArray, List.getElem_cons_zero, List.getElem_cons_succ, List.setIfInBounds_toArray, List.set_cons_zero, List.set_cons_succ]
              refine wpAnyH_ready (rs := [4]) (by kernel_rfl) (by simp) ?_
              refine AllReadyH.cons rfl (fun K hK => ?_) AllReadyH.nil
              rw [if_pos (by rfl)]
              go_simp
              have hb60 : Below u55.heap.size u55 (u55.alloc (.cells (sec zeros) 26)) := (Below.refl _ _).alloc (Nat.le_refl _) _
              have P59 := P57.more hb60
              have hA61 : (u55.alloc (.cells (sec zeros) 26)).heap[u55.heap.size]? = some (.cells (sec zeros) 26 (0, 0)) := heap_alloc_new _ _
              have hA62 := (hb60.block _ (lt_of_block hA58)).trans hA58
              have hne : u1.heap.size < u55.heap.size := lt_of_block hA58
              have hl63 := lt_of_block P57.two
              refine hK.out _ _ ⟨P59.one, P59.two⟩ (fun hHeld => ?_)
              clear hK K
              try simp only [Act.put, List.getElem_toArray, List.getElem_cons_zero, List.getElem_cons_succ, List.setIfInBounds_toArray, List.set_cons_zero, List.set_cons_succ]
              have hr := rowOf_of hA61
              refine wpAnyH_ready (rs := [6]) (by kernel_rfl) (by simp) ?_
              refine AllReadyH.cons rfl (fun K hK => ?_) AllReadyH.nil
              rw [if_pos (by rfl)]
              refine Eq.mpr (store_sec (.tmp 7) (.tmp 97) ?h1 ?h2) ?_
              case h1 =>
                show decide (0 + 64 ≤ (rowOf (u55.alloc (.cells (sec zeros) 26)) (u55.heap.size)).size ∧ 0 < 64) = true
                refine @decide_eq_true _ _ ⟨?_, by decide⟩
                rw [hr, size_sec, length_zeros]
                exact Nat.le_refl _
              case h2 =>
                show plain (.agg (sec f.sec)) 64 = true
                simp [plain, size_sec, hfl, all_sec]
              have hst : putRow (u55.alloc (.cells (sec zeros) 26)) (.pointer (some ⟨(u55.heap.size), 0, none⟩)) (sec f.sec) = (u55.alloc (.cells (sec zeros) 26)).setRow (u55.heap.size) (sec f.sec) := by
                rw [putRow_mk, overrow_whole (by rw [hr, size_sec, size_sec, hfl, length_zeros])]
              have hPs : Pair w f g ((u55.alloc (.cells (sec zeros) 26)).setRow (u55.heap.size) (sec f.sec)) := ⟨⟨P59.below.os, P59.below.tape, P59.below.output, by simpa using P59.below.size, fun i hi => (setRow_other _ _ _ _ (by omega)).trans (P59.below.block i hi)⟩, (setRow_other _ _ _ _ (by omega)).trans P59.one, (setRow_other _ _ _ _ (by omega)).trans P59.two⟩
              have hA6 := setRow_heap (u55.alloc (.cells (sec zeros) 26)) (u55.heap.size) _ (sec f.sec) _ _ hA61
              have hB6 := (setRow_other (u55.alloc (.cells (sec zeros) 26)) (u55.heap.size) (u1.heap.size) (sec f.sec) (by omega)).trans hA62
              refine hK.out _ (putRow (u55.alloc (.cells (sec zeros) 26)) (.pointer (some ⟨(u55.heap.size), 0, none⟩)) (sec f.sec)) (by rw [hst]; exact ⟨hPs.one, hPs.two⟩) ?_
              rw [hst]
              intro hHeld
              clear hK K hst hr
              try simp only [Act.put, List.getElem_toArray, List.getElem_cons_zero, List.getElem_cons_succ, List.setIfInBounds_toArray, List.set_cons_zero, List.set_cons_succ]
              have hr := rowOf_of hB6
              refine wpAnyH_ready (rs := [7]) (by kernel_rfl) (by simp) ?_
              refine AllReadyH.cons rfl (fun K hK => ?_) AllReadyH.nil
              rw [if_pos (by rfl)]
              refine Eq.mpr (store_sec (.tmp 8) (.tmp 99) ?h1 ?h2) ?_
              case h1 =>
                show decide (0 + 64 ≤ (rowOf ((u55.alloc (.cells (sec zeros) 26)).setRow (u55.heap.size) (sec f.sec)) (u1.heap.size)).size ∧ 0 < 64) = true
                refine @decide_eq_true _ _ ⟨?_, by decide⟩
                rw [hr, size_sec, length_zeros]
                exact Nat.le_refl _
              case h2 =>
                show plain (.agg (sec g.sec)) 64 = true
                simp [plain, size_sec, hgl, all_sec]
              have hst : putRow ((u55.alloc (.cells (sec zeros) 26)).setRow (u55.heap.size) (sec f.sec)) (.pointer (some ⟨(u1.heap.size), 0, none⟩)) (sec g.sec) = ((u55.alloc (.cells (sec zeros) 26)).setRow (u55.heap.size) (sec f.sec)).setRow (u1.heap.size) (sec g.sec) := by
                rw [putRow_mk, overrow_whole (by rw [hr, size_sec, size_sec, hgl, length_zeros])]
              have hPt : Pair w f g (((u55.alloc (.cells (sec zeros) 26)).setRow (u55.heap.size) (sec f.sec)).setRow (u1.heap.size) (sec g.sec)) := ⟨⟨hPs.below.os, hPs.below.tape, hPs.below.output, by simpa using hPs.below.size, fun i hi => (setRow_other _ _ _ _ (by omega)).trans (hPs.below.block i hi)⟩, (setRow_other _ _ _ _ (by omega)).trans hPs.one, (setRow_other _ _ _ _ (by omega)).trans hPs.two⟩
              have hA7 := (setRow_other ((u55.alloc (.cells (sec zeros) 26)).setRow (u55.heap.size) (sec f.sec)) (u1.heap.size) (u55.heap.size) (sec g.sec) (by omega)).trans hA6
              have hB7 := setRow_heap ((u55.alloc (.cells (sec zeros) 26)).setRow (u55.heap.size) (sec f.sec)) (u1.heap.size) _ (sec g.sec) _ _ hB6
              refine hK.out _ (putRow ((u55.alloc (.cells (sec zeros) 26)).setRow (u55.heap.size) (sec f.sec)) (.pointer (some ⟨(u1.heap.size), 0, none⟩)) (sec g.sec)) (by rw [hst]; exact ⟨hPt.one, hPt.two⟩) ?_
              rw [hst]
              intro hHeld
              clear hK K hst hr
              try simp only [Act.put, List.getElem_toArray, List.getElem_cons_zero, List.getElem_cons_succ, List.setIfInBounds_toArray, List.set_cons_zero, List.set_cons_succ]
              refine wpAnyH_done (by kernel_rfl) ?_ _
              go_wp2_with fail
              go_meet
              exact ⟨u55.heap.size, u1.heap.size, rfl, rfl, hA7, hB7, by omega, hPt, by omega, by omega⟩
            · skip
              go_simp
              have hb65 : Below (u1.alloc (.cells (sec zeros) 26)).heap.size (u1.alloc (.cells (sec zeros) 26)) ((u1.alloc (.cells (sec zeros) 26)).alloc (.cells (sec zeros) 26)) := (Below.refl _ _).alloc (Nat.le_refl _) _
              have P64 := P51.more hb65
              have hs67 : (u1.alloc (.cells (sec zeros) 26)).heap.size = u1.heap.size + 1 := by simp
              have hA66 : ((u1.alloc (.cells (sec zeros) 26)).alloc (.cells (sec zeros) 26)).heap[u1.heap.size + 1]? = some (.cells (sec zeros) 26 (0, 0)) := hs67 ▸ heap_alloc_new (u1.alloc (.cells (sec zeros) 26)) _
              have hA68 := (hb65.block _ (lt_of_block hA53)).trans hA53
              have hne : u1.heap.size < (u1.alloc (.cells (sec zeros) 26)).heap.size := lt_of_block hA53
              have hl69 := lt_of_block P51.two
              refine hK.out _ _ ⟨P64.one, P64.two⟩ (fun hHeld => ?_)
              clear hK K
              try simp only [Act.put, List.getElem_toArray, List.getElem_cons_zero, List.getElem_cons_succ, List.setIfInBounds_toArray, List.set_cons_zero, List.set_cons_succ]
              refine wpAnyH_ready (rs := [3]) (by kernel_rfl) (by simp) ?_
              refine AllReadyH.cons rfl (fun K hK => ?_) AllReadyH.nil
              rw [if_pos (by rfl)]
              go_simp
              go_at_call 9
              refine (rwrite_walk _ g hgd hge hgp).mono ?_
              rintro e1 u70 ⟨rfl, hb71⟩
              have P72 := P64.more hb71
              have hA73 := (hb71.block _ (lt_of_block hA66)).trans hA66
              have hA74 := (hb71.block _ (lt_of_block hA68)).trans hA68
              refine hK.out _ _ ⟨P72.one, P72.two⟩ (fun hHeld => ?_)
              clear hK K
              try simp only [Act.put, List.getElem_toArray, List.getElem_cons_zero, List.getElem_cons_succ, List.setIfInBounds_toArray, List.set_cons_zero, List.set_cons_succ]
              have hr := rowOf_of hA73
              refine wpAnyH_ready (rs := [6]) (by kernel_rfl) (by simp) ?_
              refine AllReadyH.cons rfl (fun K hK => ?_) AllReadyH.nil
              rw [if_pos (by rfl)]
              refine Eq.mpr (store_sec (.tmp 7) (.tmp 97) ?h1 ?h2) ?_
              case h1 =>
                show decide (0 + 64 ≤ (rowOf u70 (u1.heap.size + 1)).size ∧ 0 < 64) = true
                refine @decide_eq_true _ _ ⟨?_, by decide⟩
                rw [hr, size_sec, length_zeros]
                exact Nat.le_refl _
              case h2 =>
                show plain (.agg (sec f.sec)) 64 = true
                simp [plain, size_sec, hfl, all_sec]
              have hst : putRow u70 (.pointer (some ⟨(u1.heap.size + 1), 0, none⟩)) (sec f.sec) = u70.setRow (u1.heap.size + 1) (sec f.sec) := by
                rw [putRow_mk, overrow_whole (by rw [hr, size_sec, size_sec, hfl, length_zeros])]
              have hPs : Pair w f g (u70.setRow (u1.heap.size + 1) (sec f.sec)) := ⟨⟨P72.below.os, P72.below.tape, P72.below.output, by simpa using P72.below.size, fun i hi => (setRow_other _ _ _ _ (by omega)).trans (P72.below.block i hi)⟩, (setRow_other _ _ _ _ (by omega)).trans P72.one, (setRow_other _ _ _ _ (by omega)).trans P72.two⟩
              have hA6 := setRow_heap u70 (u1.heap.size + 1) _ (sec f.sec) _ _ hA73
              have hB6 := (setRow_other u70 (u1.heap.size + 1) (u1.heap.size) (sec f.sec) (by omega)).trans hA74
              refine hK.out _ (putRow u70 (.pointer (some ⟨(u1.heap.size + 1), 0, none⟩)) (sec f.sec)) (by rw [hst]; exact ⟨hPs.one, hPs.two⟩) ?_
              rw [hst]
              intro hHeld
              clear hK K hst hr
              try simp only [Act.put, List.getElem_toArray, List.getElem_cons_zero, List.getElem_cons_succ, List.setIfInBounds_toArray, List.set_cons_zero, List.set_cons_succ]
              have hr := rowOf_of hB6
              refine wpAnyH_ready (rs := [7]) (by kernel_rfl) (by simp) ?_
              refine AllReadyH.cons rfl (fun K hK => ?_) AllReadyH.nil
              rw [if_pos (by rfl)]
              refine Eq.mpr (store_sec (.tmp 8) (.tmp 99) ?h1 ?h2) ?_
              case h1 =>
                show decide (0 + 64 ≤ (rowOf (u70.setRow (u1.heap.size + 1) (sec f.sec)) (u1.heap.size)).size ∧ 0 < 64) = true
                refine @decide_eq_true _ _ ⟨?_, by decide⟩
                rw [hr, size_sec, length_zeros]
                exact Nat.le_refl _
              case h2 =>
                show plain (.agg (sec g.sec)) 64 = true
                simp [plain, size_sec, hgl, all_sec]
              have hst : putRow (u70.setRow (u1.heap.size + 1) (sec f.sec)) (.pointer (some ⟨(u1.heap.size), 0, none⟩)) (sec g.sec) = (u70.setRow (u1.heap.size + 1) (sec f.sec)).setRow (u1.heap.size) (sec g.sec) := by
                rw [putRow_mk, overrow_whole (by rw [hr, size_sec, size_sec, hgl, length_zeros])]
              have hPt : Pair w f g ((u70.setRow (u1.heap.size + 1) (sec f.sec)).setRow (u1.heap.size) (sec g.sec)) := ⟨⟨hPs.below.os, hPs.below.tape, hPs.below.output, by simpa using hPs.below.size, fun i hi => (setRow_other _ _ _ _ (by omega)).trans (hPs.below.block i hi)⟩, (setRow_other _ _ _ _ (by omega)).trans hPs.one, (setRow_other _ _ _ _ (by omega)).trans hPs.two⟩
              have hA7 := (setRow_other (u70.setRow (u1.heap.size + 1) (sec f.sec)) (u1.heap.size) (u1.heap.size + 1) (sec g.sec) (by omega)).trans hA6
              have hB7 := setRow_heap (u70.setRow (u1.heap.size + 1) (sec f.sec)) (u1.heap.size) _ (sec g.sec) _ _ hB6
              refine hK.out _ (putRow (u70.setRow (u1.heap.size + 1) (sec f.sec)) (.pointer (some ⟨(u1.heap.size), 0, none⟩)) (sec g.sec)) (by rw [hst]; exact ⟨hPt.one, hPt.two⟩) ?_
              rw [hst]
              intro hHeld
              clear hK K hst hr
              try simp only [Act.put, List.getElem_toArray, List.getElem_cons_zero, List.getElem_cons_succ, List.setIfInBounds_toArray, List.set_cons_zero, List.set_cons_succ]
              refine wpAnyH_done (by kernel_rfl) ?_ _
              go_wp2_with fail
              go_meet
              exact ⟨u1.heap.size + 1, u1.heap.size, rfl, rfl, hA7, hB7, by omega, hPt, by omega, by omega⟩
        · skip
          go_simp
          have hb76 : Below wc.drew.heap.size wc.drew (wc.drew.alloc (.cells (sec zeros) 26)) := (Below.refl _ _).alloc (Nat.le_refl _) _
          have P75 := hdr.more hb76
          have hA77 : (wc.drew.alloc (.cells (sec zeros) 26)).heap[wc.drew.heap.size]? = some (.cells (sec zeros) 26 (0, 0)) := heap_alloc_new _ _
          have hl78 := lt_of_block hdr.two
          refine hK.out _ _ ⟨P75.one, P75.two⟩ (fun hHeld => ?_)
          clear hK K
          try simp only [Act.put, List.getElem_toArray, List.getElem_cons_zero, List.getElem_cons_succ, List.setIfInBounds_toArray, List.set_cons_zero, List.set_cons_succ]
          refine wpAnyH_ready (rs := [1, 5]) (by kernel_rfl) (by simp) ?_
          refine (AllReadyH.cons rfl (fun K hK => ?_) (AllReadyH.cons rfl (fun K hK => ?_) AllReadyH.nil))
          all_goals rw [if_pos (by rfl)]
          · skip
            go_simp
            go_at_call 9
            refine (rwrite_walk _ f hfd hfe hfp).mono ?_
            rintro e1 u79 ⟨rfl, hb80⟩
            have P81 := P75.more hb80
            have hA82 := (hb80.block _ (lt_of_block hA77)).trans hA77
            refine hK.out _ _ ⟨P81.one, P81.two⟩ (fun hHeld => ?_)
            clear hK K
            try simp only [Act.put, List.getElem_toArray, List.getElem_cons_zero, List.getElem_cons_succ, List.setIfInBounds_toArray, List.set_cons_zero, List.set_cons_succ]
            refine wpAnyH_ready (rs := [3, 5]) (by kernel_rfl) (by simp) ?_
            refine (AllReadyH.cons rfl (fun K hK => ?_) (AllReadyH.cons rfl (fun K hK => ?_) AllReadyH.nil))
            all_goals rw [if_pos (by rfl)]
            · skip
              go_simp
              go_at_call 9
              refine (rwrite_walk _ g hgd hge hgp).mono ?_
              rintro e1 u83 ⟨rfl, hb84⟩
              have P85 := P81.more hb84
              have hA86 := (hb84.block _ (lt_of_block hA82)).trans hA82
              refine hK.out _ _ ⟨P85.one, P85.two⟩ (fun hHeld => ?_)
              clear hK K
              try simp only [Act.put, List.getElem_toArray, List.getElem_cons_zero, List.getElem_cons_succ, List.setIfInBounds_toArray, List.set_cons_zero, List.set_cons_succ]
              refine wpAnyH_ready (rs := [5]) (by kernel_rfl) (by simp) ?_
              refine AllReadyH.cons rfl (fun K hK => ?_) AllReadyH.nil
              rw [if_pos (by rfl)]
              go_simp
              have hb88 : Below u83.heap.size u83 (u83.alloc (.cells (sec zeros) 26)) := (Below.refl _ _).alloc (Nat.le_refl _) _
              have P87 := P85.more hb88
              have hA89 : (u83.alloc (.cells (sec zeros) 26)).heap[u83.heap.size]? = some (.cells (sec zeros) 26 (0, 0)) := heap_alloc_new _ _
              have hA90 := (hb88.block _ (lt_of_block hA86)).trans hA86
              have hne : wc.drew.heap.size < u83.heap.size := lt_of_block hA86
              have hl91 := lt_of_block P85.two
              refine hK.out _ _ ⟨P87.one, P87.two⟩ (fun hHeld => ?_)
              clear hK K
              try simp only [Act.put, List.getElem_toArray, List.getElem_cons_zero, List.getElem_cons_succ, List.setIfInBounds_toArray, List.set_cons_zero, List.set_cons_succ]
              have hr := rowOf_of hA90
              refine wpAnyH_ready (rs := [6]) (by kernel_rfl) (by simp) ?_
              refine AllReadyH.cons rfl (fun K hK => ?_) AllReadyH.nil
              rw [if_pos (by rfl)]
              refine Eq.mpr (store_sec (.tmp 7) (.tmp 97) ?h1 ?h2) ?_
              case h1 =>
                show decide (0 + 64 ≤ (rowOf (u83.alloc (.cells (sec zeros) 26)) (wc.drew.heap.size)).size ∧ 0 < 64) = true
                refine @decide_eq_true _ _ ⟨?_, by decide⟩
                rw [hr, size_sec, length_zeros]
                exact Nat.le_refl _
              case h2 =>
                show plain (.agg (sec f.sec)) 64 = true
                simp [plain, size_sec, hfl, all_sec]
              have hst : putRow (u83.alloc (.cells (sec zeros) 26)) (.pointer (some ⟨(wc.drew.heap.size), 0, none⟩)) (sec f.sec) = (u83.alloc (.cells (sec zeros) 26)).setRow (wc.drew.heap.size) (sec f.sec) := by
                rw [putRow_mk, overrow_whole (by rw [hr, size_sec, size_sec, hfl, length_zeros])]
              have hPs : Pair w f g ((u83.alloc (.cells (sec zeros) 26)).setRow (wc.drew.heap.size) (sec f.sec)) := ⟨⟨P87.below.os, P87.below.tape, P87.below.output, by simpa using P87.below.size, fun i hi => (setRow_other _ _ _ _ (by omega)).trans (P87.below.block i hi)⟩, (setRow_other _ _ _ _ (by omega)).trans P87.one, (setRow_other _ _ _ _ (by omega)).trans P87.two⟩
              have hA6 := setRow_heap (u83.alloc (.cells (sec zeros) 26)) (wc.drew.heap.size) _ (sec f.sec) _ _ hA90
              have hB6 := (setRow_other (u83.alloc (.cells (sec zeros) 26)) (wc.drew.heap.size) (u83.heap.size) (sec f.sec) (by omega)).trans hA89
              refine hK.out _ (putRow (u83.alloc (.cells (sec zeros) 26)) (.pointer (some ⟨(wc.drew.heap.size), 0, none⟩)) (sec f.sec)) (by rw [hst]; exact ⟨hPs.one, hPs.two⟩) ?_
              rw [hst]
              intro hHeld
              clear hK K hst hr
              try simp only [Act.put, List.getElem_toArray, List.getElem_cons_zero, List.getElem_cons_succ, List.setIfInBounds_toArray, List.set_cons_zero, List.set_cons_succ]
              have hr := rowOf_of hB6
              refine wpAnyH_ready (rs := [7]) (by kernel_rfl) (by simp) ?_
              refine AllReadyH.cons rfl (fun K hK => ?_) AllReadyH.nil
              rw [if_pos (by rfl)]
              refine Eq.mpr (store_sec (.tmp 8) (.tmp 99) ?h1 ?h2) ?_
              case h1 =>
                show decide (0 + 64 ≤ (rowOf ((u83.alloc (.cells (sec zeros) 26)).setRow (wc.drew.heap.size) (sec f.sec)) (u83.heap.size)).size ∧ 0 < 64) = true
                refine @decide_eq_true _ _ ⟨?_, by decide⟩
                rw [hr, size_sec, length_zeros]
                exact Nat.le_refl _
              case h2 =>
                show plain (.agg (sec g.sec)) 64 = true
                simp [plain, size_sec, hgl, all_sec]
              have hst : putRow ((u83.alloc (.cells (sec zeros) 26)).setRow (wc.drew.heap.size) (sec f.sec)) (.pointer (some ⟨(u83.heap.size), 0, none⟩)) (sec g.sec) = ((u83.alloc (.cells (sec zeros) 26)).setRow (wc.drew.heap.size) (sec f.sec)).setRow (u83.heap.size) (sec g.sec) := by
                rw [putRow_mk, overrow_whole (by rw [hr, size_sec, size_sec, hgl, length_zeros])]
              have hPt : Pair w f g (((u83.alloc (.cells (sec zeros) 26)).setRow (wc.drew.heap.size) (sec f.sec)).setRow (u83.heap.size) (sec g.sec)) := ⟨⟨hPs.below.os, hPs.below.tape, hPs.below.output, by simpa using hPs.below.size, fun i hi => (setRow_other _ _ _ _ (by omega)).trans (hPs.below.block i hi)⟩, (setRow_other _ _ _ _ (by omega)).trans hPs.one, (setRow_other _ _ _ _ (by omega)).trans hPs.two⟩
              have hA7 := (setRow_other ((u83.alloc (.cells (sec zeros) 26)).setRow (wc.drew.heap.size) (sec f.sec)) (u83.heap.size) (wc.drew.heap.size) (sec g.sec) (by omega)).trans hA6
              have hB7 := setRow_heap ((u83.alloc (.cells (sec zeros) 26)).setRow (wc.drew.heap.size) (sec f.sec)) (u83.heap.size) _ (sec g.sec) _ _ hB6
              refine hK.out _ (putRow ((u83.alloc (.cells (sec zeros) 26)).setRow (wc.drew.heap.size) (sec f.sec)) (.pointer (some ⟨(u83.heap.size), 0, none⟩)) (sec g.sec)) (by rw [hst]; exact ⟨hPt.one, hPt.two⟩) ?_
              rw [hst]
              intro hHeld
              clear hK K hst hr
              try simp only [Act.put, List.getElem_toArray, List.getElem_cons_zero, List.getElem_cons_succ, List.setIfInBounds_toArray, List.set_cons_zero, List.set_cons_succ]
              refine wpAnyH_done (by kernel_rfl) ?_ _
              go_wp2_with fail
              go_meet
              exact ⟨wc.drew.heap.size, u83.heap.size, rfl, rfl, hA7, hB7, by omega, hPt, by omega, by omega⟩
            · skip
              go_simp
              have hb93 : Below u79.heap.size u79 (u79.alloc (.cells (sec zeros) 26)) := (Below.refl _ _).alloc (Nat.le_refl _) _
              have P92 := P81.more hb93
              have hA94 : (u79.alloc (.cells (sec zeros) 26)).heap[u79.heap.size]? = some (.cells (sec zeros) 26 (0, 0)) := heap_alloc_new _ _
              have hA95 := (hb93.block _ (lt_of_block hA82)).trans hA82
              have hne : wc.drew.heap.size < u79.heap.size := lt_of_block hA82
              have hl96 := lt_of_block P81.two
              refine hK.out _ _ ⟨P92.one, P92.two⟩ (fun hHeld => ?_)
              clear hK K
              try simp only [Act.put, List.getElem_toArray, List.getElem_cons_zero, List.getElem_cons_succ, List.setIfInBounds_toArray, List.set_cons_zero, List.set_cons_succ]
              refine wpAnyH_ready (rs := [3]) (by kernel_rfl) (by simp) ?_
              refine AllReadyH.cons rfl (fun K hK => ?_) AllReadyH.nil
              rw [if_pos (by rfl)]
              go_simp
              go_at_call 9
              refine (rwrite_walk _ g hgd hge hgp).mono ?_
              rintro e1 u97 ⟨rfl, hb98⟩
              have P99 := P92.more hb98
              have hA100 := (hb98.block _ (lt_of_block hA95)).trans hA95
              have hA101 := (hb98.block _ (lt_of_block hA94)).trans hA94
              refine hK.out _ _ ⟨P99.one, P99.two⟩ (fun hHeld => ?_)
              clear hK K
              try simp only [Act.put, List.getElem_toArray, List.getElem_cons_zero, List.getElem_cons_succ, List.setIfInBounds_toArray, List.set_cons_zero, List.set_cons_succ]
              have hr := rowOf_of hA100
              refine wpAnyH_ready (rs := [6]) (by kernel_rfl) (by simp) ?_
              refine AllReadyH.cons rfl (fun K hK => ?_) AllReadyH.nil
              rw [if_pos (by rfl)]
              refine Eq.mpr (store_sec (.tmp 7) (.tmp 97) ?h1 ?h2) ?_
              case h1 =>
                show decide (0 + 64 ≤ (rowOf u97 (wc.drew.heap.size)).size ∧ 0 < 64) = true
                refine @decide_eq_true _ _ ⟨?_, by decide⟩
                rw [hr, size_sec, length_zeros]
                exact Nat.le_refl _
              case h2 =>
                show plain (.agg (sec f.sec)) 64 = true
                simp [plain, size_sec, hfl, all_sec]
              have hst : putRow u97 (.pointer (some ⟨(wc.drew.heap.size), 0, none⟩)) (sec f.sec) = u97.setRow (wc.drew.heap.size) (sec f.sec) := by
                rw [putRow_mk, overrow_whole (by rw [hr, size_sec, size_sec, hfl, length_zeros])]
              have hPs : Pair w f g (u97.setRow (wc.drew.heap.size) (sec f.sec)) := ⟨⟨P99.below.os, P99.below.tape, P99.below.output, by simpa using P99.below.size, fun i hi => (setRow_other _ _ _ _ (by omega)).trans (P99.below.block i hi)⟩, (setRow_other _ _ _ _ (by omega)).trans P99.one, (setRow_other _ _ _ _ (by omega)).trans P99.two⟩
              have hA6 := setRow_heap u97 (wc.drew.heap.size) _ (sec f.sec) _ _ hA100
              have hB6 := (setRow_other u97 (wc.drew.heap.size) (u79.heap.size) (sec f.sec) (by omega)).trans hA101
              refine hK.out _ (putRow u97 (.pointer (some ⟨(wc.drew.heap.size), 0, none⟩)) (sec f.sec)) (by rw [hst]; exact ⟨hPs.one, hPs.two⟩) ?_
              rw [hst]
              intro hHeld
              clear hK K hst hr
              try simp only [Act.put, List.getElem_toArray, List.getElem_cons_zero, List.getElem_cons_succ, List.setIfInBounds_toArray, List.set_cons_zero, List.set_cons_succ]
              have hr := rowOf_of hB6
              refine wpAnyH_ready (rs := [7]) (by kernel_rfl) (by simp) ?_
              refine AllReadyH.cons rfl (fun K hK => ?_) AllReadyH.nil
              rw [if_pos (by rfl)]
              refine Eq.mpr (store_sec (.tmp 8) (.tmp 99) ?h1 ?h2) ?_
              case h1 =>
                show decide (0 + 64 ≤ (rowOf (u97.setRow (wc.drew.heap.size) (sec f.sec)) (u79.heap.size)).size ∧ 0 < 64) = true
                refine @decide_eq_true _ _ ⟨?_, by decide⟩
                rw [hr, size_sec, length_zeros]
                exact Nat.le_refl _
              case h2 =>
                show plain (.agg (sec g.sec)) 64 = true
                simp [plain, size_sec, hgl, all_sec]
              have hst : putRow (u97.setRow (wc.drew.heap.size) (sec f.sec)) (.pointer (some ⟨(u79.heap.size), 0, none⟩)) (sec g.sec) = (u97.setRow (wc.drew.heap.size) (sec f.sec)).setRow (u79.heap.size) (sec g.sec) := by
                rw [putRow_mk, overrow_whole (by rw [hr, size_sec, size_sec, hgl, length_zeros])]
              have hPt : Pair w f g ((u97.setRow (wc.drew.heap.size) (sec f.sec)).setRow (u79.heap.size) (sec g.sec)) := ⟨⟨hPs.below.os, hPs.below.tape, hPs.below.output, by simpa using hPs.below.size, fun i hi => (setRow_other _ _ _ _ (by omega)).trans (hPs.below.block i hi)⟩, (setRow_other _ _ _ _ (by omega)).trans hPs.one, (setRow_other _ _ _ _ (by omega)).trans hPs.two⟩
              have hA7 := (setRow_other (u97.setRow (wc.drew.heap.size) (sec f.sec)) (u79.heap.size) (wc.drew.heap.size) (sec g.sec) (by omega)).trans hA6
              have hB7 := setRow_heap (u97.setRow (wc.drew.heap.size) (sec f.sec)) (u79.heap.size) _ (sec g.sec) _ _ hB6
              refine hK.out _ (putRow (u97.setRow (wc.drew.heap.size) (sec f.sec)) (.pointer (some ⟨(u79.heap.size), 0, none⟩)) (sec g.sec)) (by rw [hst]; exact ⟨hPt.one, hPt.two⟩) ?_
              rw [hst]
              intro hHeld
              clear hK K hst hr
              try simp only [Act.put, List.getElem_toArray, List.getElem_cons_zero, List.getElem_cons_succ, List.setIfInBounds_toArray, List.set_cons_zero, List.set_cons_succ]
              refine wpAnyH_done (by kernel_rfl) ?_ _
              go_wp2_with fail
              go_meet
              exact ⟨wc.drew.heap.size, u79.heap.size, rfl, rfl, hA7, hB7, by omega, hPt, by omega, by omega⟩
          · skip
            go_simp
            have hb103 : Below (wc.drew.alloc (.cells (sec zeros) 26)).heap.size (wc.drew.alloc (.cells (sec zeros) 26)) ((wc.drew.alloc (.cells (sec zeros) 26)).alloc (.cells (sec zeros) 26)) := (Below.refl _ _).alloc (Nat.le_refl _) _
            have P102 := P75.more hb103
            have hs105 : (wc.drew.alloc (.cells (sec zeros) 26)).heap.size = wc.drew.heap.size + 1 := by simp
            have hA104 : ((wc.drew.alloc (.cells (sec zeros) 26)).alloc (.cells (sec zeros) 26)).heap[wc.drew.heap.size + 1]? = some (.cells (sec zeros) 26 (0, 0)) := hs105 ▸ heap_alloc_new (wc.drew.alloc (.cells (sec zeros) 26)) _
            have hA106 := (hb103.block _ (lt_of_block hA77)).trans hA77
            have hne : wc.drew.heap.size < (wc.drew.alloc (.cells (sec zeros) 26)).heap.size := lt_of_block hA77
            have hl107 := lt_of_block P75.two
            refine hK.out _ _ ⟨P102.one, P102.two⟩ (fun hHeld => ?_)
            clear hK K
            try simp only [Act.put, List.getElem_toArray, List.getElem_cons_zero, List.getElem_cons_succ, List.setIfInBounds_toArray, List.set_cons_zero, List.set_cons_succ]
            refine wpAnyH_ready (rs := [1]) (by kernel_rfl) (by simp) ?_
            refine AllReadyH.cons rfl (fun K hK => ?_) AllReadyH.nil
            rw [if_pos (by rfl)]
            go_simp
            go_at_call 9
            refine (rwrite_walk _ f hfd hfe hfp).mono ?_
            rintro e1 u108 ⟨rfl, hb109⟩
            have P110 := P102.more hb109
            have hA111 := (hb109.block _ (lt_of_block hA106)).trans hA106
            have hA112 := (hb109.block _ (lt_of_block hA104)).trans hA104
            refine hK.out _ _ ⟨P110.one, P110.two⟩ (fun hHeld => ?_)
            clear hK K
            try simp only [Act.put, List.getElem_toArray, List.getElem_cons_zero, List.getElem_cons_succ, List.setIfInBounds_toArray, List.set_cons_zero, List.set_cons_succ]
            refine wpAnyH_ready (rs := [3]) (by kernel_rfl) (by simp) ?_
            refine AllReadyH.cons rfl (fun K hK => ?_) AllReadyH.nil
            rw [if_pos (by rfl)]
            go_simp
            go_at_call 9
            refine (rwrite_walk _ g hgd hge hgp).mono ?_
            rintro e1 u113 ⟨rfl, hb114⟩
            have P115 := P110.more hb114
            have hA116 := (hb114.block _ (lt_of_block hA111)).trans hA111
            have hA117 := (hb114.block _ (lt_of_block hA112)).trans hA112
            refine hK.out _ _ ⟨P115.one, P115.two⟩ (fun hHeld => ?_)
            clear hK K
            try simp only [Act.put, List.getElem_toArray, List.getElem_cons_zero, List.getElem_cons_succ, List.setIfInBounds_toArray, List.set_cons_zero, List.set_cons_succ]
            have hr := rowOf_of hA116
            refine wpAnyH_ready (rs := [6]) (by kernel_rfl) (by simp) ?_
            refine AllReadyH.cons rfl (fun K hK => ?_) AllReadyH.nil
            rw [if_pos (by rfl)]
            refine Eq.mpr (store_sec (.tmp 7) (.tmp 97) ?h1 ?h2) ?_
            case h1 =>
              show decide (0 + 64 ≤ (rowOf u113 (wc.drew.heap.size)).size ∧ 0 < 64) = true
              refine @decide_eq_true _ _ ⟨?_, by decide⟩
              rw [hr, size_sec, length_zeros]
              exact Nat.le_refl _
            case h2 =>
              show plain (.agg (sec f.sec)) 64 = true
              simp [plain, size_sec, hfl, all_sec]
            have hst : putRow u113 (.pointer (some ⟨(wc.drew.heap.size), 0, none⟩)) (sec f.sec) = u113.setRow (wc.drew.heap.size) (sec f.sec) := by
              rw [putRow_mk, overrow_whole (by rw [hr, size_sec, size_sec, hfl, length_zeros])]
            have hPs : Pair w f g (u113.setRow (wc.drew.heap.size) (sec f.sec)) := ⟨⟨P115.below.os, P115.below.tape, P115.below.output, by simpa using P115.below.size, fun i hi => (setRow_other _ _ _ _ (by omega)).trans (P115.below.block i hi)⟩, (setRow_other _ _ _ _ (by omega)).trans P115.one, (setRow_other _ _ _ _ (by omega)).trans P115.two⟩
            have hA6 := setRow_heap u113 (wc.drew.heap.size) _ (sec f.sec) _ _ hA116
            have hB6 := (setRow_other u113 (wc.drew.heap.size) (wc.drew.heap.size + 1) (sec f.sec) (by omega)).trans hA117
            refine hK.out _ (putRow u113 (.pointer (some ⟨(wc.drew.heap.size), 0, none⟩)) (sec f.sec)) (by rw [hst]; exact ⟨hPs.one, hPs.two⟩) ?_
            rw [hst]
            intro hHeld
            clear hK K hst hr
            try simp only [Act.put, List.getElem_toArray, List.getElem_cons_zero, List.getElem_cons_succ, List.setIfInBounds_toArray, List.set_cons_zero, List.set_cons_succ]
            have hr := rowOf_of hB6
            refine wpAnyH_ready (rs := [7]) (by kernel_rfl) (by simp) ?_
            refine AllReadyH.cons rfl (fun K hK => ?_) AllReadyH.nil
            rw [if_pos (by rfl)]
            refine Eq.mpr (store_sec (.tmp 8) (.tmp 99) ?h1 ?h2) ?_
            case h1 =>
              show decide (0 + 64 ≤ (rowOf (u113.setRow (wc.drew.heap.size) (sec f.sec)) (wc.drew.heap.size + 1)).size ∧ 0 < 64) = true
              refine @decide_eq_true _ _ ⟨?_, by decide⟩
              rw [hr, size_sec, length_zeros]
              exact Nat.le_refl _
            case h2 =>
              show plain (.agg (sec g.sec)) 64 = true
              simp [plain, size_sec, hgl, all_sec]
            have hst : putRow (u113.setRow (wc.drew.heap.size) (sec f.sec)) (.pointer (some ⟨(wc.drew.heap.size + 1), 0, none⟩)) (sec g.sec) = (u113.setRow (wc.drew.heap.size) (sec f.sec)).setRow (wc.drew.heap.size + 1) (sec g.sec) := by
              rw [putRow_mk, overrow_whole (by rw [hr, size_sec, size_sec, hgl, length_zeros])]
            have hPt : Pair w f g ((u113.setRow (wc.drew.heap.size) (sec f.sec)).setRow (wc.drew.heap.size + 1) (sec g.sec)) := ⟨⟨hPs.below.os, hPs.below.tape, hPs.below.output, by simpa using hPs.below.size, fun i hi => (setRow_other _ _ _ _ (by omega)).trans (hPs.below.block i hi)⟩, (setRow_other _ _ _ _ (by omega)).trans hPs.one, (setRow_other _ _ _ _ (by omega)).trans hPs.two⟩
            have hA7 := (setRow_other (u113.setRow (wc.drew.heap.size) (sec f.sec)) (wc.drew.heap.size + 1) (wc.drew.heap.size) (sec g.sec) (by omega)).trans hA6
            have hB7 := setRow_heap (u113.setRow (wc.drew.heap.size) (sec f.sec)) (wc.drew.heap.size + 1) _ (sec g.sec) _ _ hB6
            refine hK.out _ (putRow (u113.setRow (wc.drew.heap.size) (sec f.sec)) (.pointer (some ⟨(wc.drew.heap.size + 1), 0, none⟩)) (sec g.sec)) (by rw [hst]; exact ⟨hPt.one, hPt.two⟩) ?_
            rw [hst]
            intro hHeld
            clear hK K hst hr
            try simp only [Act.put, List.getElem_toArray, List.getElem_cons_zero, List.getElem_cons_succ, List.setIfInBounds_toArray, List.set_cons_zero, List.set_cons_succ]
            refine wpAnyH_done (by kernel_rfl) ?_ _
            go_wp2_with fail
            go_meet
            exact ⟨wc.drew.heap.size, wc.drew.heap.size + 1, rfl, rfl, hA7, hB7, by omega, hPt, by omega, by omega⟩
        · skip
          go_simp
          have hb119 : Below wc.drew.heap.size wc.drew (wc.drew.alloc (.cells (sec zeros) 26)) := (Below.refl _ _).alloc (Nat.le_refl _) _
          have P118 := hdr.more hb119
          have hA120 : (wc.drew.alloc (.cells (sec zeros) 26)).heap[wc.drew.heap.size]? = some (.cells (sec zeros) 26 (0, 0)) := heap_alloc_new _ _
          have hl121 := lt_of_block hdr.two
          refine hK.out _ _ ⟨P118.one, P118.two⟩ (fun hHeld => ?_)
          clear hK K
          try simp only [Act.put, List.getElem_toArray, List.getElem_cons_zero, List.getElem_cons_succ, List.setIfInBounds_toArray, List.set_cons_zero, List.set_cons_succ]
          refine wpAnyH_ready (rs := [1, 4]) (by kernel_rfl) (by simp) ?_
          refine (AllReadyH.cons rfl (fun K hK => ?_) (AllReadyH.cons rfl (fun K hK => ?_) AllReadyH.nil))
          all_goals rw [if_pos (by rfl)]
          · skip
            go_simp
            go_at_call 9
            refine (rwrite_walk _ f hfd hfe hfp).mono ?_
            rintro e1 u122 ⟨rfl, hb123⟩
            have P124 := P118.more hb123
            have hA125 := (hb123.block _ (lt_of_block hA120)).trans hA120
            refine hK.out _ _ ⟨P124.one, P124.two⟩ (fun hHeld => ?_)
            clear hK K
            try simp only [Act.put, List.getElem_toArray, List.getElem_cons_zero, List.getElem_cons_succ, List.setIfInBounds_toArray, List.set_cons_zero, List.set_cons_succ]
            refine wpAnyH_ready (rs := [3, 4]) (by kernel_rfl) (by simp) ?_
            refine (AllReadyH.cons rfl (fun K hK => ?_) (AllReadyH.cons rfl (fun K hK => ?_) AllReadyH.nil))
            all_goals rw [if_pos (by rfl)]
            · skip
              go_simp
              go_at_call 9
              refine (rwrite_walk _ g hgd hge hgp).mono ?_
              rintro e1 u126 ⟨rfl, hb127⟩
              have P128 := P124.more hb127
              have hA129 := (hb127.block _ (lt_of_block hA125)).trans hA125
              refine hK.out _ _ ⟨P128.one, P128.two⟩ (fun hHeld => ?_)
              clear hK K
              try simp only [Act.put, List.getElem_toArray, List.getElem_cons_zero, List.getElem_cons_succ, List.setIfInBounds_toArray, List.set_cons_zero, List.set_cons_succ]
              refine wpAnyH_ready (rs := [4]) (by kernel_rfl) (by simp) ?_
              refine AllReadyH.cons rfl (fun K hK => ?_) AllReadyH.nil
              rw [if_pos (by rfl)]
              go_simp
              have hb131 : Below u126.heap.size u126 (u126.alloc (.cells (sec zeros) 26)) := (Below.refl _ _).alloc (Nat.le_refl _) _
              have P130 := P128.more hb131
              have hA132 : (u126.alloc (.cells (sec zeros) 26)).heap[u126.heap.size]? = some (.cells (sec zeros) 26 (0, 0)) := heap_alloc_new _ _
              have hA133 := (hb131.block _ (lt_of_block hA129)).trans hA129
              have hne : wc.drew.heap.size < u126.heap.size := lt_of_block hA129
              have hl134 := lt_of_block P128.two
              refine hK.out _ _ ⟨P130.one, P130.two⟩ (fun hHeld => ?_)
              clear hK K
              try simp only [Act.put, List.getElem_toArray, List.getElem_cons_zero, List.getElem_cons_succ, List.setIfInBounds_toArray, List.set_cons_zero, List.set_cons_succ]
              have hr := rowOf_of hA132
              refine wpAnyH_ready (rs := [6]) (by kernel_rfl) (by simp) ?_
              refine AllReadyH.cons rfl (fun K hK => ?_) AllReadyH.nil
              rw [if_pos (by rfl)]
              refine Eq.mpr (store_sec (.tmp 7) (.tmp 97) ?h1 ?h2) ?_
              case h1 =>
                show decide (0 + 64 ≤ (rowOf (u126.alloc (.cells (sec zeros) 26)) (u126.heap.size)).size ∧ 0 < 64) = true
                refine @decide_eq_true _ _ ⟨?_, by decide⟩
                rw [hr, size_sec, length_zeros]
                exact Nat.le_refl _
              case h2 =>
                show plain (.agg (sec f.sec)) 64 = true
                simp [plain, size_sec, hfl, all_sec]
              have hst : putRow (u126.alloc (.cells (sec zeros) 26)) (.pointer (some ⟨(u126.heap.size), 0, none⟩)) (sec f.sec) = (u126.alloc (.cells (sec zeros) 26)).setRow (u126.heap.size) (sec f.sec) := by
                rw [putRow_mk, overrow_whole (by rw [hr, size_sec, size_sec, hfl, length_zeros])]
              have hPs : Pair w f g ((u126.alloc (.cells (sec zeros) 26)).setRow (u126.heap.size) (sec f.sec)) := ⟨⟨P130.below.os, P130.below.tape, P130.below.output, by simpa using P130.below.size, fun i hi => (setRow_other _ _ _ _ (by omega)).trans (P130.below.block i hi)⟩, (setRow_other _ _ _ _ (by omega)).trans P130.one, (setRow_other _ _ _ _ (by omega)).trans P130.two⟩
              have hA6 := setRow_heap (u126.alloc (.cells (sec zeros) 26)) (u126.heap.size) _ (sec f.sec) _ _ hA132
              have hB6 := (setRow_other (u126.alloc (.cells (sec zeros) 26)) (u126.heap.size) (wc.drew.heap.size) (sec f.sec) (by omega)).trans hA133
              refine hK.out _ (putRow (u126.alloc (.cells (sec zeros) 26)) (.pointer (some ⟨(u126.heap.size), 0, none⟩)) (sec f.sec)) (by rw [hst]; exact ⟨hPs.one, hPs.two⟩) ?_
              rw [hst]
              intro hHeld
              clear hK K hst hr
              try simp only [Act.put, List.getElem_toArray, List.getElem_cons_zero, List.getElem_cons_succ, List.setIfInBounds_toArray, List.set_cons_zero, List.set_cons_succ]
              have hr := rowOf_of hB6
              refine wpAnyH_ready (rs := [7]) (by kernel_rfl) (by simp) ?_
              refine AllReadyH.cons rfl (fun K hK => ?_) AllReadyH.nil
              rw [if_pos (by rfl)]
              refine Eq.mpr (store_sec (.tmp 8) (.tmp 99) ?h1 ?h2) ?_
              case h1 =>
                show decide (0 + 64 ≤ (rowOf ((u126.alloc (.cells (sec zeros) 26)).setRow (u126.heap.size) (sec f.sec)) (wc.drew.heap.size)).size ∧ 0 < 64) = true
                refine @decide_eq_true _ _ ⟨?_, by decide⟩
                rw [hr, size_sec, length_zeros]
                exact Nat.le_refl _
              case h2 =>
                show plain (.agg (sec g.sec)) 64 = true
                simp [plain, size_sec, hgl, all_sec]
              have hst : putRow ((u126.alloc (.cells (sec zeros) 26)).setRow (u126.heap.size) (sec f.sec)) (.pointer (some ⟨(wc.drew.heap.size), 0, none⟩)) (sec g.sec) = ((u126.alloc (.cells (sec zeros) 26)).setRow (u126.heap.size) (sec f.sec)).setRow (wc.drew.heap.size) (sec g.sec) := by
                rw [putRow_mk, overrow_whole (by rw [hr, size_sec, size_sec, hgl, length_zeros])]
              have hPt : Pair w f g (((u126.alloc (.cells (sec zeros) 26)).setRow (u126.heap.size) (sec f.sec)).setRow (wc.drew.heap.size) (sec g.sec)) := ⟨⟨hPs.below.os, hPs.below.tape, hPs.below.output, by simpa using hPs.below.size, fun i hi => (setRow_other _ _ _ _ (by omega)).trans (hPs.below.block i hi)⟩, (setRow_other _ _ _ _ (by omega)).trans hPs.one, (setRow_other _ _ _ _ (by omega)).trans hPs.two⟩
              have hA7 := (setRow_other ((u126.alloc (.cells (sec zeros) 26)).setRow (u126.heap.size) (sec f.sec)) (wc.drew.heap.size) (u126.heap.size) (sec g.sec) (by omega)).trans hA6
              have hB7 := setRow_heap ((u126.alloc (.cells (sec zeros) 26)).setRow (u126.heap.size) (sec f.sec)) (wc.drew.heap.size) _ (sec g.sec) _ _ hB6
              refine hK.out _ (putRow ((u126.alloc (.cells (sec zeros) 26)).setRow (u126.heap.size) (sec f.sec)) (.pointer (some ⟨(wc.drew.heap.size), 0, none⟩)) (sec g.sec)) (by rw [hst]; exact ⟨hPt.one, hPt.two⟩) ?_
              rw [hst]
              intro hHeld
              clear hK K hst hr
              try simp only [Act.put, List.getElem_toArray, List.getElem_cons_zero, List.getElem_cons_succ, List.setIfInBounds_toArray, List.set_cons_zero, List.set_cons_succ]
              refine wpAnyH_done (by kernel_rfl) ?_ _
              go_wp2_with fail
              go_meet
              exact ⟨u126.heap.size, wc.drew.heap.size, rfl, rfl, hA7, hB7, by omega, hPt, by omega, by omega⟩
            · skip
              go_simp
              have hb136 : Below u122.heap.size u122 (u122.alloc (.cells (sec zeros) 26)) := (Below.refl _ _).alloc (Nat.le_refl _) _
              have P135 := P124.more hb136
              have hA137 : (u122.alloc (.cells (sec zeros) 26)).heap[u122.heap.size]? = some (.cells (sec zeros) 26 (0, 0)) := heap_alloc_new _ _
              have hA138 := (hb136.block _ (lt_of_block hA125)).trans hA125
              have hne : wc.drew.heap.size < u122.heap.size := lt_of_block hA125
              have hl139 := lt_of_block P124.two
              refine hK.out _ _ ⟨P135.one, P135.two⟩ (fun hHeld => ?_)
              clear hK K
              try simp only [Act.put, List.getElem_toArray, List.getElem_cons_zero, List.getElem_cons_succ, List.setIfInBounds_toArray, List.set_cons_zero, List.set_cons_succ]
              refine wpAnyH_ready (rs := [3]) (by kernel_rfl) (by simp) ?_
              refine AllReadyH.cons rfl (fun K hK => ?_) AllReadyH.nil
              rw [if_pos (by rfl)]
              go_simp
              go_at_call 9
              refine (rwrite_walk _ g hgd hge hgp).mono ?_
              rintro e1 u140 ⟨rfl, hb141⟩
              have P142 := P135.more hb141
              have hA143 := (hb141.block _ (lt_of_block hA137)).trans hA137
              have hA144 := (hb141.block _ (lt_of_block hA138)).trans hA138
              refine hK.out _ _ ⟨P142.one, P142.two⟩ (fun hHeld => ?_)
              clear hK K
              try simp only [Act.put, List.getElem_toArray, List.getElem_cons_zero, List.getElem_cons_succ, List.setIfInBounds_toArray, List.set_cons_zero, List.set_cons_succ]
              have hr := rowOf_of hA143
              refine wpAnyH_ready (rs := [6]) (by kernel_rfl) (by simp) ?_
              refine AllReadyH.cons rfl (fun K hK => ?_) AllReadyH.nil
              rw [if_pos (by rfl)]
              refine Eq.mpr (store_sec (.tmp 7) (.tmp 97) ?h1 ?h2) ?_
              case h1 =>
                show decide (0 + 64 ≤ (rowOf u140 (u122.heap.size)).size ∧ 0 < 64) = true
                refine @decide_eq_true _ _ ⟨?_, by decide⟩
                rw [hr, size_sec, length_zeros]
                exact Nat.le_refl _
              case h2 =>
                show plain (.agg (sec f.sec)) 64 = true
                simp [plain, size_sec, hfl, all_sec]
              have hst : putRow u140 (.pointer (some ⟨(u122.heap.size), 0, none⟩)) (sec f.sec) = u140.setRow (u122.heap.size) (sec f.sec) := by
                rw [putRow_mk, overrow_whole (by rw [hr, size_sec, size_sec, hfl, length_zeros])]
              have hPs : Pair w f g (u140.setRow (u122.heap.size) (sec f.sec)) := ⟨⟨P142.below.os, P142.below.tape, P142.below.output, by simpa using P142.below.size, fun i hi => (setRow_other _ _ _ _ (by omega)).trans (P142.below.block i hi)⟩, (setRow_other _ _ _ _ (by omega)).trans P142.one, (setRow_other _ _ _ _ (by omega)).trans P142.two⟩
              have hA6 := setRow_heap u140 (u122.heap.size) _ (sec f.sec) _ _ hA143
              have hB6 := (setRow_other u140 (u122.heap.size) (wc.drew.heap.size) (sec f.sec) (by omega)).trans hA144
              refine hK.out _ (putRow u140 (.pointer (some ⟨(u122.heap.size), 0, none⟩)) (sec f.sec)) (by rw [hst]; exact ⟨hPs.one, hPs.two⟩) ?_
              rw [hst]
              intro hHeld
              clear hK K hst hr
              try simp only [Act.put, List.getElem_toArray, List.getElem_cons_zero, List.getElem_cons_succ, List.setIfInBounds_toArray, List.set_cons_zero, List.set_cons_succ]
              have hr := rowOf_of hB6
              refine wpAnyH_ready (rs := [7]) (by kernel_rfl) (by simp) ?_
              refine AllReadyH.cons rfl (fun K hK => ?_) AllReadyH.nil
              rw [if_pos (by rfl)]
              refine Eq.mpr (store_sec (.tmp 8) (.tmp 99) ?h1 ?h2) ?_
              case h1 =>
                show decide (0 + 64 ≤ (rowOf (u140.setRow (u122.heap.size) (sec f.sec)) (wc.drew.heap.size)).size ∧ 0 < 64) = true
                refine @decide_eq_true _ _ ⟨?_, by decide⟩
                rw [hr, size_sec, length_zeros]
                exact Nat.le_refl _
              case h2 =>
                show plain (.agg (sec g.sec)) 64 = true
                simp [plain, size_sec, hgl, all_sec]
              have hst : putRow (u140.setRow (u122.heap.size) (sec f.sec)) (.pointer (some ⟨(wc.drew.heap.size), 0, none⟩)) (sec g.sec) = (u140.setRow (u122.heap.size) (sec f.sec)).setRow (wc.drew.heap.size) (sec g.sec) := by
                rw [putRow_mk, overrow_whole (by rw [hr, size_sec, size_sec, hgl, length_zeros])]
              have hPt : Pair w f g ((u140.setRow (u122.heap.size) (sec f.sec)).setRow (wc.drew.heap.size) (sec g.sec)) := ⟨⟨hPs.below.os, hPs.below.tape, hPs.below.output, by simpa using hPs.below.size, fun i hi => (setRow_other _ _ _ _ (by omega)).trans (hPs.below.block i hi)⟩, (setRow_other _ _ _ _ (by omega)).trans hPs.one, (setRow_other _ _ _ _ (by omega)).trans hPs.two⟩
              have hA7 := (setRow_other (u140.setRow (u122.heap.size) (sec f.sec)) (wc.drew.heap.size) (u122.heap.size) (sec g.sec) (by omega)).trans hA6
              have hB7 := setRow_heap (u140.setRow (u122.heap.size) (sec f.sec)) (wc.drew.heap.size) _ (sec g.sec) _ _ hB6
              refine hK.out _ (putRow (u140.setRow (u122.heap.size) (sec f.sec)) (.pointer (some ⟨(wc.drew.heap.size), 0, none⟩)) (sec g.sec)) (by rw [hst]; exact ⟨hPt.one, hPt.two⟩) ?_
              rw [hst]
              intro hHeld
              clear hK K hst hr
              try simp only [Act.put, List.getElem_toArray, List.getElem_cons_zero, List.getElem_cons_succ, List.setIfInBounds_toArray, List.set_cons_zero, List.set_cons_succ]
              refine wpAnyH_done (by kernel_rfl) ?_ _
              go_wp2_with fail
              go_meet
              exact ⟨u122.heap.size, wc.drew.heap.size, rfl, rfl, hA7, hB7, by omega, hPt, by omega, by omega⟩
          · skip
            go_simp
            have hb146 : Below (wc.drew.alloc (.cells (sec zeros) 26)).heap.size (wc.drew.alloc (.cells (sec zeros) 26)) ((wc.drew.alloc (.cells (sec zeros) 26)).alloc (.cells (sec zeros) 26)) := (Below.refl _ _).alloc (Nat.le_refl _) _
            have P145 := P118.more hb146
            have hs148 : (wc.drew.alloc (.cells (sec zeros) 26)).heap.size = wc.drew.heap.size + 1 := by simp
            have hA147 : ((wc.drew.alloc (.cells (sec zeros) 26)).alloc (.cells (sec zeros) 26)).heap[wc.drew.heap.size + 1]? = some (.cells (sec zeros) 26 (0, 0)) := hs148 ▸ heap_alloc_new (wc.drew.alloc (.cells (sec zeros) 26)) _
            have hA149 := (hb146.block _ (lt_of_block hA120)).trans hA120
            have hne : wc.drew.heap.size < (wc.drew.alloc (.cells (sec zeros) 26)).heap.size := lt_of_block hA120
            have hl150 := lt_of_block P118.two
            refine hK.out _ _ ⟨P145.one, P145.two⟩ (fun hHeld => ?_)
            clear hK K
            try simp only [Act.put, List.getElem_toArray, List.getElem_cons_zero, List.getElem_cons_succ, List.setIfInBounds_toArray, List.set_cons_zero, List.set_cons_succ]
            refine wpAnyH_ready (rs := [1]) (by kernel_rfl) (by simp) ?_
            refine AllReadyH.cons rfl (fun K hK => ?_) AllReadyH.nil
            rw [if_pos (by rfl)]
            go_simp
            go_at_call 9
            refine (rwrite_walk _ f hfd hfe hfp).mono ?_
            rintro e1 u151 ⟨rfl, hb152⟩
            have P153 := P145.more hb152
            have hA154 := (hb152.block _ (lt_of_block hA147)).trans hA147
            have hA155 := (hb152.block _ (lt_of_block hA149)).trans hA149
            refine hK.out _ _ ⟨P153.one, P153.two⟩ (fun hHeld => ?_)
            clear hK K
            try simp only [Act.put, List.getElem_toArray, List.getElem_cons_zero, List.getElem_cons_succ, List.setIfInBounds_toArray, List.set_cons_zero, List.set_cons_succ]
            refine wpAnyH_ready (rs := [3]) (by kernel_rfl) (by simp) ?_
            refine AllReadyH.cons rfl (fun K hK => ?_) AllReadyH.nil
            rw [if_pos (by rfl)]
            go_simp
            go_at_call 9
            refine (rwrite_walk _ g hgd hge hgp).mono ?_
            rintro e1 u156 ⟨rfl, hb157⟩
            have P158 := P153.more hb157
            have hA159 := (hb157.block _ (lt_of_block hA154)).trans hA154
            have hA160 := (hb157.block _ (lt_of_block hA155)).trans hA155
            refine hK.out _ _ ⟨P158.one, P158.two⟩ (fun hHeld => ?_)
            clear hK K
            try simp only [Act.put, List.getElem_toArray, List.getElem_cons_zero, List.getElem_cons_succ, List.setIfInBounds_toArray, List.set_cons_zero, List.set_cons_succ]
            have hr := rowOf_of hA159
            refine wpAnyH_ready (rs := [6]) (by kernel_rfl) (by simp) ?_
            refine AllReadyH.cons rfl (fun K hK => ?_) AllReadyH.nil
            rw [if_pos (by rfl)]
            refine Eq.mpr (store_sec (.tmp 7) (.tmp 97) ?h1 ?h2) ?_
            case h1 =>
              show decide (0 + 64 ≤ (rowOf u156 (wc.drew.heap.size + 1)).size ∧ 0 < 64) = true
              refine @decide_eq_true _ _ ⟨?_, by decide⟩
              rw [hr, size_sec, length_zeros]
              exact Nat.le_refl _
            case h2 =>
              show plain (.agg (sec f.sec)) 64 = true
              simp [plain, size_sec, hfl, all_sec]
            have hst : putRow u156 (.pointer (some ⟨(wc.drew.heap.size + 1), 0, none⟩)) (sec f.sec) = u156.setRow (wc.drew.heap.size + 1) (sec f.sec) := by
              rw [putRow_mk, overrow_whole (by rw [hr, size_sec, size_sec, hfl, length_zeros])]
            have hPs : Pair w f g (u156.setRow (wc.drew.heap.size + 1) (sec f.sec)) := ⟨⟨P158.below.os, P158.below.tape, P158.below.output, by simpa using P158.below.size, fun i hi => (setRow_other _ _ _ _ (by omega)).trans (P158.below.block i hi)⟩, (setRow_other _ _ _ _ (by omega)).trans P158.one, (setRow_other _ _ _ _ (by omega)).trans P158.two⟩
            have hA6 := setRow_heap u156 (wc.drew.heap.size + 1) _ (sec f.sec) _ _ hA159
            have hB6 := (setRow_other u156 (wc.drew.heap.size + 1) (wc.drew.heap.size) (sec f.sec) (by omega)).trans hA160
            refine hK.out _ (putRow u156 (.pointer (some ⟨(wc.drew.heap.size + 1), 0, none⟩)) (sec f.sec)) (by rw [hst]; exact ⟨hPs.one, hPs.two⟩) ?_
            rw [hst]
            intro hHeld
            clear hK K hst hr
            try simp only [Act.put, List.getElem_toArray, List.getElem_cons_zero, List.getElem_cons_succ, List.setIfInBounds_toArray, List.set_cons_zero, List.set_cons_succ]
            have hr := rowOf_of hB6
            refine wpAnyH_ready (rs := [7]) (by kernel_rfl) (by simp) ?_
            refine AllReadyH.cons rfl (fun K hK => ?_) AllReadyH.nil
            rw [if_pos (by rfl)]
            refine Eq.mpr (store_sec (.tmp 8) (.tmp 99) ?h1 ?h2) ?_
            case h1 =>
              show decide (0 + 64 ≤ (rowOf (u156.setRow (wc.drew.heap.size + 1) (sec f.sec)) (wc.drew.heap.size)).size ∧ 0 < 64) = true
              refine @decide_eq_true _ _ ⟨?_, by decide⟩
              rw [hr, size_sec, length_zeros]
              exact Nat.le_refl _
            case h2 =>
              show plain (.agg (sec g.sec)) 64 = true
              simp [plain, size_sec, hgl, all_sec]
            have hst : putRow (u156.setRow (wc.drew.heap.size + 1) (sec f.sec)) (.pointer (some ⟨(wc.drew.heap.size), 0, none⟩)) (sec g.sec) = (u156.setRow (wc.drew.heap.size + 1) (sec f.sec)).setRow (wc.drew.heap.size) (sec g.sec) := by
              rw [putRow_mk, overrow_whole (by rw [hr, size_sec, size_sec, hgl, length_zeros])]
            have hPt : Pair w f g ((u156.setRow (wc.drew.heap.size + 1) (sec f.sec)).setRow (wc.drew.heap.size) (sec g.sec)) := ⟨⟨hPs.below.os, hPs.below.tape, hPs.below.output, by simpa using hPs.below.size, fun i hi => (setRow_other _ _ _ _ (by omega)).trans (hPs.below.block i hi)⟩, (setRow_other _ _ _ _ (by omega)).trans hPs.one, (setRow_other _ _ _ _ (by omega)).trans hPs.two⟩
            have hA7 := (setRow_other (u156.setRow (wc.drew.heap.size + 1) (sec f.sec)) (wc.drew.heap.size) (wc.drew.heap.size + 1) (sec g.sec) (by omega)).trans hA6
            have hB7 := setRow_heap (u156.setRow (wc.drew.heap.size + 1) (sec f.sec)) (wc.drew.heap.size) _ (sec g.sec) _ _ hB6
            refine hK.out _ (putRow (u156.setRow (wc.drew.heap.size + 1) (sec f.sec)) (.pointer (some ⟨(wc.drew.heap.size), 0, none⟩)) (sec g.sec)) (by rw [hst]; exact ⟨hPt.one, hPt.two⟩) ?_
            rw [hst]
            intro hHeld
            clear hK K hst hr
            try simp only [Act.put, List.getElem_toArray, List.getElem_cons_zero, List.getElem_cons_succ, List.setIfInBounds_toArray, List.set_cons_zero, List.set_cons_succ]
            refine wpAnyH_done (by kernel_rfl) ?_ _
            go_wp2_with fail
            go_meet
            exact ⟨wc.drew.heap.size + 1, wc.drew.heap.size, rfl, rfl, hA7, hB7, by omega, hPt, by omega, by omega⟩
    case rest =>
      obtain ⟨A, B, rfl, rfl, hA, hB, hAB, hP2, hlA, hlB⟩ := hcut
      clear hP1' hfe hge hfp hgp
      have hT : Tor w f g A B wc := ⟨hA, hB, hAB, hP2, hlA, hlB⟩
      have hT' := Lib.hid hT
      have hrA := rowOf_of hA
      clear hT hA hB hAB hP2 hlA hlB
      obtain ⟨m, hm, hm64⟩ : ∃ m : Nat, imin front 64 = (m : Int) ∧ m ≤ 64 := by
        by_cases h : (64 : Int) < front
        · exact ⟨64, by unfold imin; rw [if_pos h]; rfl, by omega⟩
        · exact ⟨front.toNat, by unfold imin; rw [if_neg h]; omega, by omega⟩
      have hfw : IntKind.i64.wrap front = front := by simp [IntKind.wrap, IntKind.bits, IntKind.signed]; omega
      have hm1 : ¬ (64 : Int) < m := by omega
      have hsl := fun W => slice_front W B m hm64
      go_upto_region 7 with fail
      have hT3 := hT'.out.more ((Below.refl wc.heap.size wc).alloc (Nat.le_refl _) (.cells (sec f.sec) 26))
      have hC : (wc.alloc (.cells (sec f.sec) 26)).heap[wc.heap.size]? = some (.cells (sec f.sec) 26 (0, 0)) := heap_alloc_new _ _
      have hlC : w.heap.size + 1 < wc.heap.size := Nat.lt_trans hT'.out.la (lt_of_block hT'.out.a)
      have hCB : B ≠ wc.heap.size := Nat.ne_of_lt (lt_of_block hT'.out.b)
      have hCA : A ≠ wc.heap.size := Nat.ne_of_lt (lt_of_block hT'.out.a)
      have hT3' := Lib.hid hT3
      have hC' := Lib.hid hC
      generalize wc.alloc _ = W3 at *
      generalize wc.heap.size = C at *
      clear hT' hrA hT3 hC
      have hr3 := rowOf_of hC'.out
      have hr4 := rowOf_of hT3'.out.b
      refine wp_region_still_tail 5 (by kernel_rfl) (by kernel_rfl) ?_
      change wpStill _ _ (World.drew W3) (fun a' => wpList _ _ _ _ a' (World.drew W3)) _ _
      simp only [List.take_succ_cons, List.take_zero, List.drop_succ_cons, List.drop_zero]
      iterate 4 still_step
      refine wpStill_step (fun K hK => ?_)
      go_simp
      refine hK _ ?_
      clear hK K
      refine wpStill_nil ?_
      refine wpList_copy rfl (.tmp 101) (.tmp 105) 28 28 rfl (E := 5) Try.underlying28 (fun _ => by kernel_rfl) C 0 64 64 B 0 m 64 m (by rfl) (by rfl) (Nat.min_eq_left hm64) (by rw [rowOf_drew, hr3, size_sec, hfl]; omega) (by rw [rowOf_drew, hr4, size_sec, hgl]; omega) (by rw [rowOf_drew, hr3, size_sec, hfl]; omega) (by rw [rowOf_drew, hr4, size_sec, hgl]; omega) (by rw [rowOf_drew, hr4]; exact all_sec _) ?_
      rw [rowOf_drew, rowOf_drew, hr3, hr4, torn_row hfl hgl hm64, setRow_drew]
      have hT4 : Tor3 w f g A B C (torn f.sec g.sec m) (W3.setRow C (sec (torn f.sec g.sec m))).drew := (hT3'.out.set hC'.out hCA hCB hlC).more (Below.refl _ _).drew
      have hT4' := Lib.hid hT4
      have hs' := Lib.hid (torn_isSec hGf'.out.isSec hGg'.out.isSec hm64)
      have hcs' := Lib.hid (torn_cases hGf'.out hGg'.out hne0'.out hm64)
      have hrx : readFr (torn f.sec g.sec m) = if (parseFr (torn f.sec g.sec m)).2 = true then parseFr (torn f.sec g.sec m) else (Fr.none, false) := rfl
      have hrx' := Lib.hid hrx
      clear hT4 hrx hT3' hC' hCA hCB hlC hr3 hr4 hsl hm hm1
      generalize torn f.sec g.sec m = s at *
      generalize (W3.setRow C (sec s)).drew = W4 at *
      have hr5 := rowOf_of hT4'.out.c
      have hsz := hs'.out.len
      go_upto_region 9 with (go_at_call 10; refine (rread_walk _ s hs'.out).mono ?_; rintro e w5 ⟨rfl, hb5⟩)
      have hT6 : Tor3 w f g A B C s (w5.alloc (.cells (readFr s).1.cells 23)) := (hT4'.out.more hb5).more ((Below.refl _ _).alloc (Nat.le_refl _) _)
      have hX : (w5.alloc (.cells (readFr s).1.cells 23)).heap[w5.heap.size]? = some (.cells (readFr s).1.cells 23 (0, 0)) := heap_alloc_new _ _
      have hlX : w.heap.size + 1 < w5.heap.size := Nat.lt_of_lt_of_le (Nat.lt_trans hT4'.out.lc (lt_of_block hT4'.out.c)) hb5.size
      have hCX : C ≠ w5.heap.size := Nat.ne_of_lt (Nat.lt_of_lt_of_le (lt_of_block hT4'.out.c) hb5.size)
      have hT6' := Lib.hid hT6
      have hX' := Lib.hid hX
      have hlX' := Lib.hid hlX
      have hCX' := Lib.hid hCX
      clear hT6 hX hT4' hb5 hrx' hr5 hlX hCX
      generalize w5.alloc _ = W6 at *
      generalize w5.heap.size = X at *
      go_cut [11, 107, 109, 110, 111, 134] (fun o _ _ _ _ v wx => o = .bool (readFr s).2 ∧ v = .bool false ∧ Tor3 w f g A B C s wx ∧ wx.heap[X]? = some (.cells (readFr s).1.cells 23 (0, 0)))
      case first =>
        have hQC := row_quiet hsz hT6'.out.c
        have hQA := row_quiet hfl hT6'.out.tor.a
        have hQB := row_quiet hgl hT6'.out.tor.b
        have hQ1 : ∀ u, (∃ n, u = W6.drewN n) → 0 + 4 ≤ (rowOf u (w.heap.size + 1)).size ∧ 0 < 4 ∧ cut (rowOf u (w.heap.size + 1)) 0 4 = .agg g.cells := fun u hu => row_quiet4 hu hT6'.out.tor.pair.two
        rcases hcs'.out with hc1 | hc2 | hc3
        · obtain ⟨hp, hsg⟩ := hc1
          have hr : readFr s = (Fr.none, false) := by unfold readFr; rw [if_neg (by simp [hp])]
          rw [hr] at hX' ⊢
          dsimp only at hX' ⊢
          have hQX : ∀ u, (∃ n, u = W6.drewN n) → 0 + 4 ≤ (rowOf u X).size ∧ 0 < 4 ∧ cut (rowOf u X) 0 4 = .agg _ := fun u hu => row_quiet4 hu hX'.out
          refine wp_region_quiet_lit (by kernel_rfl) (by kernel_rfl) ?_
          iterate 12 (go_big_quiet_step (fail))
          refine BigFrame.wpQuiet_want (by rfl) (fun K hK => ?_)
          refine quiet_load ag_sec (.tmp 9) C 0 (sec s) rfl hQC ?_
          go_simp
          refine hK _ ?_
          clear hK K
          refine BigFrame.wpQuiet_want (by rfl) (fun K hK => ?_)
          refine quiet_load ag_sec (.tmp 8) B 0 (sec g.sec) rfl hQB ?_
          go_simp
          refine hK _ ?_
          clear hK K
          refine BigFrame.wpQuiet_want (by rfl) (fun K hK => ?_)
          refine quiet_eql (.tmp 124) (.tmp 125) s g.sec rfl rfl hsz hgl ?_
          rw [decide_eq_false hsg]
          go_simp
          refine hK _ ?_
          clear hK K
          repeat (go_big_quiet_step (fail))
          refine wpQuiet_nil ?_
          intro _ hw'
          obtain ⟨nq, hw''⟩ := hw'
          subst hw''
          have hb9 : Below W6.heap.size W6 (W6.drewN nq) := below_drewN (Below.refl _ _) nq
          go_wp2_with fail
          go_meet
          exact ⟨by rw [hr], rfl, hT6'.out.more hb9, by rw [hr]; exact (hb9.block _ (lt_of_block hX'.out)).trans hX'.out⟩
        · obtain ⟨rfl, hse, hfg⟩ := hc2
          have hr : readFr f.sec = (f, true) := by unfold readFr; rw [parse_sec hGf'.out]; rfl
          rw [hr] at hX' ⊢
          dsimp only at hX' ⊢
          have hQX : ∀ u, (∃ n, u = W6.drewN n) → 0 + 4 ≤ (rowOf u X).size ∧ 0 < 4 ∧ cut (rowOf u X) 0 4 = .agg _ := fun u hu => row_quiet4 hu hX'.out
          refine wp_region_quiet_lit (by kernel_rfl) (by kernel_rfl) ?_
          iterate 2 (go_big_quiet_step (fail))
          refine BigFrame.wpQuiet_want (by rfl) (fun K hK => ?_)
          refine quiet_load ag_sec (.tmp 9) C 0 (sec f.sec) rfl hQC ?_
          go_simp
          refine hK _ ?_
          clear hK K
          refine BigFrame.wpQuiet_want (by rfl) (fun K hK => ?_)
          refine quiet_load ag_sec (.tmp 7) A 0 (sec f.sec) rfl hQA ?_
          go_simp
          refine hK _ ?_
          clear hK K
          refine BigFrame.wpQuiet_want (by rfl) (fun K hK => ?_)
          refine quiet_neq (.tmp 114) (.tmp 115) f.sec f.sec rfl rfl hfl hfl ?_
          rw [decide_eq_true rfl]
          go_simp
          refine hK _ ?_
          clear hK K
          iterate 2 (go_big_quiet_step (fail))
          iterate 3 (go_big_quiet_step (fail))
          iterate 2 (go_big_quiet_step (fail))
          refine BigFrame.wpQuiet_want (by rfl) (fun K hK => ?_)
          refine quiet_load ag_sec (.tmp 9) C 0 (sec f.sec) rfl hQC ?_
          go_simp
          refine hK _ ?_
          clear hK K
          refine BigFrame.wpQuiet_want (by rfl) (fun K hK => ?_)
          refine quiet_load ag_sec (.tmp 8) B 0 (sec g.sec) rfl hQB ?_
          go_simp
          refine hK _ ?_
          clear hK K
          refine BigFrame.wpQuiet_want (by rfl) (fun K hK => ?_)
          refine quiet_eql (.tmp 124) (.tmp 125) f.sec g.sec rfl rfl hfl hgl ?_
          rw [decide_eq_false hse]
          go_simp
          refine hK _ ?_
          clear hK K
          iterate 2 (go_big_quiet_step (fail))
          refine BigFrame.wpQuiet_want (by rfl) (fun K hK => ?_)
          refine quiet_load ag_rf (.tmp 10) X 0 f.cells rfl hQX ?_
          go_simp
          refine hK _ ?_
          clear hK K
          refine BigFrame.wpQuiet_want (by rfl) (fun K hK => ?_)
          refine quiet_load ag_rf (.tmp 4) (w.heap.size + 1) 0 g.cells rfl hQ1 ?_
          go_simp
          refine hK _ ?_
          clear hK K
          refine BigFrame.wpQuiet_want (by rfl) (fun K hK => ?_)
          refine quiet_eql_fr (.tmp 129) (.tmp 130) f g rfl rfl  ?_
          rw [sameFr_ne hfg]
          go_simp
          refine hK _ ?_
          clear hK K
          repeat (go_big_quiet_step (fail))
          refine wpQuiet_nil ?_
          intro _ hw'
          obtain ⟨nq, hw''⟩ := hw'
          subst hw''
          have hb9 : Below W6.heap.size W6 (W6.drewN nq) := below_drewN (Below.refl _ _) nq
          go_wp2_with fail
          go_meet
          exact ⟨by rw [hr], rfl, hT6'.out.more hb9, by rw [hr]; exact (hb9.block _ (lt_of_block hX'.out)).trans hX'.out⟩
        · obtain ⟨rfl, hse⟩ := hc3
          have hr : readFr g.sec = (g, true) := by unfold readFr; rw [parse_sec hGg'.out]; rfl
          rw [hr] at hX' ⊢
          dsimp only at hX' ⊢
          have hQX : ∀ u, (∃ n, u = W6.drewN n) → 0 + 4 ≤ (rowOf u X).size ∧ 0 < 4 ∧ cut (rowOf u X) 0 4 = .agg _ := fun u hu => row_quiet4 hu hX'.out
          refine wp_region_quiet_lit (by kernel_rfl) (by kernel_rfl) ?_
          iterate 2 (go_big_quiet_step (fail))
          refine BigFrame.wpQuiet_want (by rfl) (fun K hK => ?_)
          refine quiet_load ag_sec (.tmp 9) C 0 (sec g.sec) rfl hQC ?_
          go_simp
          refine hK _ ?_
          clear hK K
          refine BigFrame.wpQuiet_want (by rfl) (fun K hK => ?_)
          refine quiet_load ag_sec (.tmp 7) A 0 (sec f.sec) rfl hQA ?_
          go_simp
          refine hK _ ?_
          clear hK K
          refine BigFrame.wpQuiet_want (by rfl) (fun K hK => ?_)
          refine quiet_neq (.tmp 114) (.tmp 115) g.sec f.sec rfl rfl hgl hfl ?_
          rw [decide_eq_false (Ne.symm hse)]
          go_simp
          refine hK _ ?_
          clear hK K
          iterate 2 (go_big_quiet_step (fail))
          refine BigFrame.wpQuiet_want (by rfl) (fun K hK => ?_)
          refine quiet_load ag_sec (.tmp 9) C 0 (sec g.sec) rfl hQC ?_
          go_simp
          refine hK _ ?_
          clear hK K
          refine BigFrame.wpQuiet_want (by rfl) (fun K hK => ?_)
          refine quiet_load ag_sec (.tmp 8) B 0 (sec g.sec) rfl hQB ?_
          go_simp
          refine hK _ ?_
          clear hK K
          refine BigFrame.wpQuiet_want (by rfl) (fun K hK => ?_)
          refine quiet_neq (.tmp 119) (.tmp 120) g.sec g.sec rfl rfl hgl hgl ?_
          rw [decide_eq_true rfl]
          go_simp
          refine hK _ ?_
          clear hK K
          iterate 2 (go_big_quiet_step (fail))
          refine BigFrame.wpQuiet_want (by rfl) (fun K hK => ?_)
          refine quiet_load ag_sec (.tmp 9) C 0 (sec g.sec) rfl hQC ?_
          go_simp
          refine hK _ ?_
          clear hK K
          refine BigFrame.wpQuiet_want (by rfl) (fun K hK => ?_)
          refine quiet_load ag_sec (.tmp 8) B 0 (sec g.sec) rfl hQB ?_
          go_simp
          refine hK _ ?_
          clear hK K
          refine BigFrame.wpQuiet_want (by rfl) (fun K hK => ?_)
          refine quiet_eql (.tmp 124) (.tmp 125) g.sec g.sec rfl rfl hgl hgl ?_
          rw [decide_eq_true rfl]
          go_simp
          refine hK _ ?_
          clear hK K
          iterate 2 (go_big_quiet_step (fail))
          refine BigFrame.wpQuiet_want (by rfl) (fun K hK => ?_)
          refine quiet_load ag_rf (.tmp 10) X 0 g.cells rfl hQX ?_
          go_simp
          refine hK _ ?_
          clear hK K
          refine BigFrame.wpQuiet_want (by rfl) (fun K hK => ?_)
          refine quiet_load ag_rf (.tmp 4) (w.heap.size + 1) 0 g.cells rfl hQ1 ?_
          go_simp
          refine hK _ ?_
          clear hK K
          refine BigFrame.wpQuiet_want (by rfl) (fun K hK => ?_)
          refine quiet_eql_fr (.tmp 129) (.tmp 130) g g rfl rfl  ?_
          rw [sameFr_self]
          go_simp
          refine hK _ ?_
          clear hK K
          repeat (go_big_quiet_step (fail))
          refine wpQuiet_nil ?_
          intro _ hw'
          obtain ⟨nq, hw''⟩ := hw'
          subst hw''
          have hb9 : Below W6.heap.size W6 (W6.drewN nq) := below_drewN (Below.refl _ _) nq
          go_wp2_with fail
          go_meet
          exact ⟨by rw [hr], rfl, hT6'.out.more hb9, by rw [hr]; exact (hb9.block _ (lt_of_block hX'.out)).trans hX'.out⟩
      case rest =>
        obtain ⟨rfl, rfl, hT9, hX9⟩ := hcut
        have hT9' := Lib.hid hT9
        have hX9' := Lib.hid hX9
        have hmk : ∀ u, (Instr.makeSlice 31 (.int .i64 8) (.int .i64 8)).run Try.prog u = .ok (.slice (some ⟨u.heap.size, 0, none⟩) 8 8) (u.alloc (.cells (flatD (List.replicate 8 zeros)).toArray 26)) := fun u => make_secs 8 (by omega) u
        clear hT9 hX9 hT6' hX'
        go_upto_region 12 with fail
        have hb9 : Below wc.heap.size wc (wc.alloc (.cells (flatD (List.replicate 8 zeros)).toArray 26)) := (Below.refl _ _).alloc (Nat.le_refl _) _
        have hS : (wc.alloc (.cells (flatD (List.replicate 8 zeros)).toArray 26)).heap[wc.heap.size]? = some (.cells (flatD (List.replicate 8 zeros)).toArray 26 (0, 0)) := heap_alloc_new _ _
        have hTS := Lib.hid (hT9'.out.more hb9)
        have hXS := Lib.hid ((hb9.block _ (lt_of_block hX9'.out)).trans hX9'.out)
        have hlS : w.heap.size + 1 < wc.heap.size := Nat.lt_trans hT9'.out.lc (lt_of_block hT9'.out.c)
        have hCS : C ≠ wc.heap.size := Nat.ne_of_lt (lt_of_block hT9'.out.c)
        have hAS : A ≠ wc.heap.size := Nat.ne_of_lt (lt_of_block hT9'.out.tor.a)
        have hBS : B ≠ wc.heap.size := Nat.ne_of_lt (lt_of_block hT9'.out.tor.b)
        have hXne : X ≠ wc.heap.size := Nat.ne_of_lt (lt_of_block hX9'.out)
        have hS' := Lib.hid hS
        clear hb9 hT9' hX9' hmk hS
        rw [show flatD [zeros, zeros, zeros, zeros, zeros, zeros, zeros, zeros] = flatD (List.replicate 8 zeros) from rfl]
        generalize wc.alloc _ = W9 at *
        generalize wc.heap.size = S at *
        have hdr := (hTS.out.more (Below.refl _ _).drew).c
        have hun := Try.underlying26
        have hi64 := info_sec s hsz
        refine wp_region_held_drew (S := fun u => u.heap[C]? = some (.cells (sec s) 26 (0, 0))) (by kernel_rfl) hdr (fun hHeld => ?_)
        refine wpAnyH_take (i := 0) (v := .slice (some ⟨S, 0, none⟩) 8 8) rfl (by kernel_rfl) (by kernel_rfl) (by kernel_rfl) (fun _ _ _ h => h) (Or.inl ⟨by rfl, by intro u hu; (try dsimp only at hu); go_simp⟩) hHeld ?_
        try simp only [Act.put, List.getElem_toArray, List.getElem_cons_zero, List.getElem_cons_succ, List.setIfInBounds_toArray, List.set_cons_zero, List.set_cons_succ]
        refine wpAnyH_take (i := 1) (v := .slice (some ⟨S, 0, none⟩) 8 8) rfl (by kernel_rfl) (by kernel_rfl) (by kernel_rfl) (fun _ _ _ h => h) (Or.inl ⟨by rfl, by intro u hu; (try dsimp only at hu); go_simp⟩) hHeld ?_
        try simp only [Act.put, List.getElem_toArray, List.getElem_cons_zero, List.getElem_cons_succ, List.setIfInBounds_toArray, List.set_cons_zero, List.set_cons_succ]
        refine wpAnyH_take (i := 2) (v := .agg #[.int .i64 1, .int .i64 0, .int .i64 3, .string ⟨#[0]⟩]) rfl (by kernel_rfl) (by kernel_rfl) (by kernel_rfl) (fun _ _ _ h => h) (Or.inl ⟨by rfl, by intro u hu; (try dsimp only at hu); go_simp⟩) hHeld ?_
        try simp only [Act.put, List.getElem_toArray, List.getElem_cons_zero, List.getElem_cons_succ, List.setIfInBounds_toArray, List.set_cons_zero, List.set_cons_succ]
        refine wpAnyH_take (i := 4) (v := .agg (u8s s).toArray) rfl (by kernel_rfl) (by kernel_rfl) (by kernel_rfl) (fun _ _ _ h => h) (yieldsIf_load_mid (by rfl) _ _ rfl _ _ rfl (u8s s) _ (fun _ h => rangeAt_whole h) hun rfl hi64) hHeld ?_
        try simp only [Act.put, List.getElem_toArray, List.getElem_cons_zero, List.getElem_cons_succ, List.setIfInBounds_toArray, List.set_cons_zero, List.set_cons_succ]
        refine wpAnyH_ready (rs := [3]) (by kernel_rfl) (by simp) ?_
        refine AllReadyH.cons rfl (fun K hK => ?_) AllReadyH.nil
        rw [if_pos (by rfl)]
        go_simp
        go_at_call 9
        refine (rwrite_walk _ f0 (by decide) (by decide) (by decide)).mono ?_
        rintro e1 u1 ⟨rfl, hb2⟩
        have hdb : Below W9.heap.size W9 u1 := (Below.refl _ _).drew.trans hb2
        have hT2 := Lib.hid (hTS.out.more hdb)
        have hX2 := Lib.hid ((hdb.block _ (lt_of_block hXS.out)).trans hXS.out)
        have hS2 := (hdb.block _ (lt_of_block hS'.out)).trans hS'.out
        refine hK.out _ _ hT2.out.c (fun hHeld => ?_)
        clear hK K
        try simp only [Act.put, List.getElem_toArray, List.getElem_cons_zero, List.getElem_cons_succ, List.setIfInBounds_toArray, List.set_cons_zero, List.set_cons_succ]
        have hf0 : f0.sec.length = 64 := Fr.length_sec _ (by decide)
        have hr := rowOf_of hS2
        refine wpAnyH_take (i := 5) (v := .pointer (some ⟨S, 0, none⟩)) rfl (by kernel_rfl) (by kernel_rfl) (by kernel_rfl) (fun _ _ _ h => h) (Or.inl ⟨by rfl, by intro u hu; (try dsimp only at hu); go_simp⟩) hHeld ?_
        try simp only [Act.put, List.getElem_toArray, List.getElem_cons_zero, List.getElem_cons_succ, List.setIfInBounds_toArray, List.set_cons_zero, List.set_cons_succ]
        refine wpAnyH_ready (rs := [6]) (by kernel_rfl) (by simp) ?_
        refine AllReadyH.cons rfl (fun K hK => ?_) AllReadyH.nil
        rw [if_pos (by rfl)]
        refine Eq.mpr (store_sec (.tmp 141) (.tmp 139) ?h1 ?h2) ?_
        case h1 =>
          show decide (0 + 64 ≤ (rowOf u1 S).size ∧ 0 < 64) = true
          refine @decide_eq_true _ _ ⟨?_, by decide⟩
          rw [hr, size_eight]
          omega
        case h2 =>
          show plain (.agg (sec f0.sec)) 64 = true
          simp [plain, size_sec, hf0, all_sec]
        have hst : putRow u1 (.pointer (some ⟨S, 0, none⟩)) (sec f0.sec) = u1.setRow S (flatD ((List.replicate 8 zeros).set 0 f0.sec)).toArray := by
          rw [putRow_mk, hr, fill_one]
        have hT3 := hT2.out.other (flatD ((List.replicate 8 zeros).set 0 f0.sec)).toArray hAS hBS hCS hlS
        have hX3 := (setRow_other u1 S X (flatD ((List.replicate 8 zeros).set 0 f0.sec)).toArray hXne).trans hX2.out
        have hS3 := setRow_heap u1 S _ (flatD ((List.replicate 8 zeros).set 0 f0.sec)).toArray _ _ hS2
        refine hK.out _ (putRow u1 (.pointer (some ⟨S, 0, none⟩)) (sec f0.sec)) (by rw [hst]; exact hT3.c) ?_
        rw [hst]
        intro hHeld
        clear hK K hst hr
        try simp only [Act.put, List.getElem_toArray, List.getElem_cons_zero, List.getElem_cons_succ, List.setIfInBounds_toArray, List.set_cons_zero, List.set_cons_succ]
        generalize u1.setRow S _ = U at *
        have hr := rowOf_of hS3
        refine wpAnyH_take (i := 7) (v := .pointer (some ⟨S, 128, none⟩)) rfl (by kernel_rfl) (by kernel_rfl) (by kernel_rfl) (fun _ _ _ h => h) (Or.inl ⟨by rfl, by intro u hu; (try dsimp only at hu); go_simp⟩) hHeld ?_
        try simp only [Act.put, List.getElem_toArray, List.getElem_cons_zero, List.getElem_cons_succ, List.setIfInBounds_toArray, List.set_cons_zero, List.set_cons_succ]
        refine wpAnyH_ready (rs := [8]) (by kernel_rfl) (by simp) ?_
        refine AllReadyH.cons rfl (fun K hK => ?_) AllReadyH.nil
        rw [if_pos (by rfl)]
        refine Eq.mpr (store_sec (.tmp 142) (.tmp 140) ?h1 ?h2) ?_
        case h1 =>
          show decide (128 + 64 ≤ (rowOf U S).size ∧ 0 < 64) = true
          refine @decide_eq_true _ _ ⟨?_, by decide⟩
          rw [hr, size_one]
          omega
        case h2 =>
          show plain (.agg (sec s)) 64 = true
          simp [plain, size_sec, hsz, all_sec]
        have hst : putRow U (.pointer (some ⟨S, 128, none⟩)) (sec s) = U.setRow S (flatD (tornSecs s)).toArray := by
          rw [putRow_mk, hr, fill_two hsz]
        have hT4 := hT3.other (flatD (tornSecs s)).toArray hAS hBS hCS hlS
        have hX4 := (setRow_other U S X (flatD (tornSecs s)).toArray hXne).trans hX3
        have hS4 := setRow_heap U S _ (flatD (tornSecs s)).toArray _ _ hS3
        refine hK.out _ (putRow U (.pointer (some ⟨S, 128, none⟩)) (sec s)) (by rw [hst]; exact hT4.c) ?_
        rw [hst]
        intro hHeld
        clear hK K hst hr
        try simp only [Act.put, List.getElem_toArray, List.getElem_cons_zero, List.getElem_cons_succ, List.setIfInBounds_toArray, List.set_cons_zero, List.set_cons_succ]
        refine wpAnyH_done (by kernel_rfl) ?_ _
        have hT' := Lib.hid hT4
        have hX' := Lib.hid hX4
        have hS' := Lib.hid hS4
        have hrc' := Lib.hid (torn_recs s)
        clear hT2 hT3 hT4 hX2 hX3 hX4 hS2 hS3 hS4 hHeld hTS hXS hdb hb2 hdr hCX'
        generalize U.setRow S _ = W at *
        have hgr' : Hid ((parseFr s).2 = true → (parseFr s).1.epoch < 4294967295) := by
          intro hp
          rcases hcs'.out with ⟨h, _⟩ | ⟨h, _⟩ | ⟨h, _⟩
          · rw [h] at hp; cases hp
          · rw [h, parse_sec hGf'.out]; exact hfe9'.out
          · rw [h, parse_sec hGg'.out]; exact hge9'.out
        have hls' := Lib.hid (torn_lens hs'.out)
        clear hcs' hGf' hGg' hfe9' hge9' hfl hgl hfd hgd hf0 hun hi64 hsz hne0'
        go_upto_region 16 with (go_at_call 11; refine (filled_walk _ S 8 (tornSecs s) (show 1 ≤ 8 by omega) (show 8 ≤ 40 by omega) hls'.out hS'.out).mono ?_; rintro e w3 ⟨D, gb, pv, rfl, hd3, hb3, hl3⟩)
        go_upto_region 17 with (go_at_call 12; refine (torn_open hs'.out hgr'.out hd3).mono ?_; rintro e w4 ⟨L, rv, cap, rfl, hst4, hk4⟩)
        have hb4 : Below W.heap.size W w4 := hb3.trans (hk4.below W.heap.size hb3.size hl3)
        have hP4 := hT'.out.tor.pair.more hb4
        have hX4 := (hb4.block _ (lt_of_block hX'.out)).trans hX'.out
        have hend' := Lib.hid hP4.below
        have hst' := Lib.hid hst4
        clear hb3 hl3 hd3 hk4 hb4 hP4 hT' hX' hS' hls' hs' hgr' hst4
        rw [hrc'.out] at hst' ⊢
        clear hrc'
        generalize readFr s = r at *
        obtain ⟨x, ok⟩ := r
        dsimp only at hX4 hst' ⊢
        obtain ⟨z0, z1, z2, z3⟩ := box_facts hX4
        clear hX4
        by_cases hq : ok = true ∧ x.pos = 0 ∧ x.kind = 3
        · obtain ⟨rfl, hq1, hq2⟩ := hq
          rw [if_pos ⟨rfl, hq1, hq2⟩] at hst' ⊢
          rw [hq1] at z1
          rw [hq2] at z2
          obtain ⟨ao, cap', he, hcell⟩ := hst'.out
          obtain ⟨b, o, hb, hc0⟩ := hcell 0 (by simp)
          have hrv : rv = some ⟨b, o, none⟩ := by rw [← hb]; injection he
          rw [hrv]
          have hc1 : w4.cell? ⟨b, o, none⟩ = some (.string x.data) := hc0
          clear hst' he hcell hc0 hb hrv hq1 hq2
          go_upto_region 20 with fail
          go_quiet (fail)
          go_wp2_with fail
          go_ret
          exact ⟨rfl, below_drewN hend'.out nq⟩
        · have hne : (if ok = true ∧ x.pos = 0 ∧ x.kind = 3 then [x.data] else []).length = 0 := by rw [if_neg hq]; rfl
          rw [hne]
          clear hne hst'
          cases ok
          · clear hq
            go_upto_region 20 with fail
            go_quiet (fail)
            go_wp2_with fail
            go_ret
            exact ⟨rfl, below_drewN hend'.out nq⟩
          · by_cases hq1 : x.pos = 0
            · have hq2 : (x.kind == 3) = false := by simp; exact fun h => hq ⟨rfl, hq1, h⟩
              rw [hq1] at z1
              clear hq hq1
              go_upto_region 20 with fail
              go_quiet (fail)
              go_wp2_with fail
              go_ret
              exact ⟨rfl, below_drewN hend'.out nq⟩
            · have hq2 : (x.pos == 0) = false := by simp; exact hq1
              clear hq hq1
              go_upto_region 20 with fail
              go_quiet (fail)
              go_wp2_with fail
              go_ret
              exact ⟨rfl, below_drewN hend'.out nq⟩
end Go.Proofs.Ytlhnhhjpjkgogaa.wl
