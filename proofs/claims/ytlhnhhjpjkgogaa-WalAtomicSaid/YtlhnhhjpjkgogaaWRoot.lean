/- The walk of root. -/
import Derived.Test.YtlhnhhjpjkgogaaWOps
import Derived.Deep.DeepCutAuto
import Derived.Deep.RegionLaw
namespace Go.Proofs.Ytlhnhhjpjkgogaa.wl
open Go.RowKit Go.Proofs.Ytlhnhhjpjkgogaa.agg Go.Proofs.Ytlhnhhjpjkgogaa.dk
set_option linter.unusedSimpArgs false
set_option linter.unusedVariables false

/-- The frame of a superblock. -/
def rootFr (epoch area : Int) : Fr := ⟨epoch, 0, 3, strOf [area]⟩
/-- A superblock is written, and the disk flushed. -/
def rootSt (st : St) (block epoch area : Int) : St × Int :=
  if (st.write block (rootFr epoch area).sec).2 = 0 then (st.write block (rootFr epoch area).sec).1.flush else st.write block (rootFr epoch area).sec
def RootEnd (w : World) (L D g : Nat) (pv : Value) (l : Lg) (z : St × Int) (e : Ending) (w' : World) : Prop :=
  ∃ pv', e = .returned (.int .i64 z.2) ∧ LogIn w' L D g pv' z.1 l ∧ Kept (lfoot L D g pv) w w' ∧ Fresh w pv pv'

set_option maxRecDepth 100000 in
set_option maxHeartbeats 2000000 in
theorem root_walk {w : World} {L D g : Nat} {pv : Value} {st : St} {l : Lg} (h : LogIn w L D g pv st l) (area : Int) (ha : area = 0 ∨ area = 1) (hpl : st.pend.length < 900000) :
    Calls Try.prog 46 #[.pointer (some ⟨L, 0, none⟩), .int .i64 area] w (RootEnd w L D g pv l (rootSt st l.block l.epoch area)) := by
  obtain ⟨c0, c1, c2, c3, c4, c5⟩ := h.cell
  have hh := Lib.hid h
  have hL := h.lt L (.inl rfl)
  have hcv : ∀ (W : World) (X : Nat), W.cell? ⟨X, 0, none⟩ = some (.int .u8 area) → (convert 28 9 (.slice (some ⟨X, 0, none⟩) 1 1)).run Try.prog W = .ok (.string (strOf [area])) W := by
    intro W X hc
    have hx : ∀ i, i < 1 → W.cell? ⟨X, 0 + i, none⟩ = some (.int .u8 (([area] : List Int).getD i 0)) := by
      intro i hi
      obtain rfl : i = 0 := by omega
      simpa using hc
    exact run_convert_bytes_arg W 28 5 Try.underlying28 Try.underlying5 X 0 1 1 [area] rfl hx 9 Try.underlying9
  have hd1 : (strOf [area]).size = 1 := by rw [size_strOf]; rfl
  have hd1' := Lib.hid hd1
  generalize hd : strOf [area] = d at hcv
  have hd' := Lib.hid hd
  have ha' := Lib.hid ha
  have hub : IntKind.u8.wrap area = area := by rcases ha with rfl | rfl <;> rfl
  obtain ⟨epoch, block, ar, fin, failed⟩ := l
  simp only at c1 c2
  clear h hd hd1 ha c3 c4 c5
  go_enter Try.func46, Try.ntmps46
  go_upto_region 1 with fail
  go_cut [5] (fun s wx => ∃ B : Nat, s = .pointer (some ⟨B, 0, none⟩) ∧ wx.heap[B]? = some (.cells #[.int .i64 epoch, .int .i64 0, .int .i64 3, .string d] 87 (0, 0)) ∧ Below w.heap.size w wx ∧ w.heap.size ≤ B)
  case first =>
    go_region_law (fail)
    all_goals
      go_wp2_with fail
      go_meet
      first
        | exact ⟨w.heap.size + 1, rfl, heap_alloc2_new w _ _, (((Below.refl _ w).alloc (Nat.le_refl _) _).alloc (by simp) _).drew, by omega⟩
        | exact ⟨w.heap.size, rfl, heap_alloc2_old w _ _, (((Below.refl _ w).alloc (Nat.le_refl _) _).alloc (by simp) _).drew, Nat.le_refl _⟩
  case rest =>
    obtain ⟨B, rfl, hbx, hb, hB⟩ := hcut
    have hz : Hid ((rootFr epoch area).cells = #[.int .i64 epoch, .int .i64 0, .int .i64 3, .string d]) := by
      unfold rootFr
      rw [hd'.out]
      exact rfl
    rw [← hz.out] at hbx
    have hl1 := hh.out.below hb
    have hs50 : (rootFr epoch area).data.size ≤ 50 := by
      show (strOf [area]).size ≤ 50
      rw [hd1'.out]
      omega
    have hbx' := Lib.hid hbx
    have hl3 := Lib.hid hl1
    have huf := Try.underlying87
    have hBf : ¬ foot D g pv B := fun e => by have := hh.out.lt _ (.inr e); omega
    clear hbx hl1 hcv c0 c1 c2 hub
    have hf' : Hid (rootFr epoch area = rootFr epoch area) := rfl
    generalize hf : rootFr epoch area = f at hbx' hs50
    have hfe := Lib.hid hf
    clear hf hf'
    have hfl := f.length_sec hs50
    have hfl' := Lib.hid hfl
    have hb' := Lib.hid hb
    clear hfl hb
    go_wp2_with fail
    refine wp_region_held_drew (S := fun u => u.heap[B]? = some (.cells f.cells 87 (0, 0)) ∧ u.cell? ⟨L, 0, none⟩ = some (.pointer (some ⟨D, 0, none⟩)) ∧ u.cell? ⟨L, 2, none⟩ = some (.int .i64 block)) (by kernel_rfl) ?hS (fun hHeld => ?_)
    case hS => exact ⟨hbx'.out, hl3.out.drew.cell.1, hl3.out.drew.cell.2.2.1⟩
    refine wpAnyH_take (i := 0) (v := .pointer (some ⟨L, 0, none⟩)) rfl (by kernel_rfl) (by kernel_rfl) (by kernel_rfl) (fun _ _ _ h => h) (Or.inl ⟨by rfl, by intro u hu; (try dsimp only at hu); go_simp⟩) hHeld ?_
    try simp only [Act.put, List.getElem_toArray, List.getElem_cons_zero, List.getElem_cons_succ, List.setIfInBounds_toArray, List.set_cons_zero, List.set_cons_succ]
    refine wpAnyH_take (i := 1) (v := .pointer (some ⟨L, 0, none⟩)) rfl (by kernel_rfl) (by kernel_rfl) (by kernel_rfl) (fun _ _ _ h => h) (Or.inl ⟨by rfl, by intro u hu; (try dsimp only at hu); go_simp⟩) hHeld ?_
    try simp only [Act.put, List.getElem_toArray, List.getElem_cons_zero, List.getElem_cons_succ, List.setIfInBounds_toArray, List.set_cons_zero, List.set_cons_succ]
    refine wpAnyH_take (i := 2) (v := .pointer (some ⟨L, 0, none⟩)) rfl (by kernel_rfl) (by kernel_rfl) (by kernel_rfl) (fun _ _ _ h => h) (Or.inl ⟨by rfl, by intro u hu; (try dsimp only at hu); go_simp⟩) hHeld ?_
    try simp only [Act.put, List.getElem_toArray, List.getElem_cons_zero, List.getElem_cons_succ, List.setIfInBounds_toArray, List.set_cons_zero, List.set_cons_succ]
    refine wpAnyH_take (i := 3) (v := .pointer (some ⟨D, 0, none⟩)) rfl (by kernel_rfl) (by kernel_rfl) (by kernel_rfl) (fun _ _ _ h => h) (Or.inl ⟨by rfl, by intro u hu; (try dsimp only at hu); go_simp⟩) hHeld ?_
    try simp only [Act.put, List.getElem_toArray, List.getElem_cons_zero, List.getElem_cons_succ, List.setIfInBounds_toArray, List.set_cons_zero, List.set_cons_succ]
    refine wpAnyH_take (i := 4) (v := .pointer (some ⟨L, 0, none⟩)) rfl (by kernel_rfl) (by kernel_rfl) (by kernel_rfl) (fun _ _ _ h => h) (Or.inl ⟨by rfl, by intro u hu; (try dsimp only at hu); go_simp⟩) hHeld ?_
    try simp only [Act.put, List.getElem_toArray, List.getElem_cons_zero, List.getElem_cons_succ, List.setIfInBounds_toArray, List.set_cons_zero, List.set_cons_succ]
    refine wpAnyH_take (i := 5) (v := .pointer (some ⟨L, 0, none⟩)) rfl (by kernel_rfl) (by kernel_rfl) (by kernel_rfl) (fun _ _ _ h => h) (Or.inl ⟨by rfl, by intro u hu; (try dsimp only at hu); go_simp⟩) hHeld ?_
    try simp only [Act.put, List.getElem_toArray, List.getElem_cons_zero, List.getElem_cons_succ, List.setIfInBounds_toArray, List.set_cons_zero, List.set_cons_succ]
    refine wpAnyH_take (i := 6) (v := .pointer (some ⟨L, 2, none⟩)) rfl (by kernel_rfl) (by kernel_rfl) (by kernel_rfl) (fun _ _ _ h => h) (Or.inl ⟨by rfl, by intro u hu; (try dsimp only at hu); go_simp⟩) hHeld ?_
    try simp only [Act.put, List.getElem_toArray, List.getElem_cons_zero, List.getElem_cons_succ, List.setIfInBounds_toArray, List.set_cons_zero, List.set_cons_succ]
    refine wpAnyH_take (i := 7) (v := .int .i64 block) rfl (by kernel_rfl) (by kernel_rfl) (by kernel_rfl) (fun _ _ _ h => h) (Or.inl ⟨by rfl, by intro u hu; (try dsimp only at hu); go_simp⟩) hHeld ?_
    try simp only [Act.put, List.getElem_toArray, List.getElem_cons_zero, List.getElem_cons_succ, List.setIfInBounds_toArray, List.set_cons_zero, List.set_cons_succ]
    refine wpAnyH_take (i := 8) (v := .agg f.cells.toList.toArray) rfl (by kernel_rfl) (by kernel_rfl) (by kernel_rfl) (fun _ _ _ h => h) (yieldsIf_load_mid (by rfl) _ _ rfl _ _ rfl f.cells.toList _ (fun _ h => rangeAt_whole h.1) huf rfl (info_fr f)) hHeld ?_
    try simp only [Act.put, List.getElem_toArray, List.getElem_cons_zero, List.getElem_cons_succ, List.setIfInBounds_toArray, List.set_cons_zero, List.set_cons_succ]
    refine wpAnyH_ready (rs := [9]) (by kernel_rfl) (by simp) ?_
    refine AllReadyH.cons rfl (fun K hK => ?_) AllReadyH.nil
    rw [if_pos (by rfl)]
    go_simp
    go_at_call 65
    refine (sector_walk _ f hs50).mono ?_
    rintro e2 u2 ⟨rfl, hb2⟩
    have hl4 := hl3.out.drew.below hb2
    have hx4 : u2.heap[B]? = some (.cells f.cells 87 (0, 0)) := (hb2.block _ (lt_of_block hbx'.out)).trans hbx'.out
    refine hK.out _ _ ⟨hx4, hl4.cell.1, hl4.cell.2.2.1⟩ (fun hHeld => ?_)
    clear hK K
    try simp only [Act.put, List.getElem_toArray, List.getElem_cons_zero, List.getElem_cons_succ, List.setIfInBounds_toArray, List.set_cons_zero, List.set_cons_succ]
    refine wpAnyH_ready (rs := [10]) (by kernel_rfl) (by simp) ?_
    refine AllReadyH.cons rfl (fun K hK => ?_) AllReadyH.nil
    rw [if_pos (by rfl)]
    go_simp
    go_at_call 41
    refine (write_any _ hl4.disk block f.sec hfl'.out (by omega)).mono ?_
    rintro e3 u3 ⟨rfl, pv3, hd3, hk3, hf3⟩
    have hl5 := hl4.turn hd3 hk3 hf3
    have hx5 : u3.heap[B]? = some (.cells f.cells 87 (0, 0)) := (hk3.block _ (lt_of_block hx4) hBf).trans hx4
    refine hK.out _ _ ⟨hx5, hl5.cell.1, hl5.cell.2.2.1⟩ (fun hHeld => ?_)
    clear hK K
    try simp only [Act.put, List.getElem_toArray, List.getElem_cons_zero, List.getElem_cons_succ, List.setIfInBounds_toArray, List.set_cons_zero, List.set_cons_succ]
    refine wpAnyH_take (i := 11) (v := .int .i64 (st.write block f.sec).2) rfl (by kernel_rfl) (by kernel_rfl) (by kernel_rfl) (fun _ _ _ h => h) (Or.inl ⟨by rfl, by intro u hu; (try dsimp only at hu); go_simp⟩) hHeld ?_
    try simp only [Act.put, List.getElem_toArray, List.getElem_cons_zero, List.getElem_cons_succ, List.setIfInBounds_toArray, List.set_cons_zero, List.set_cons_succ]
    refine wpAnyH_done (by kernel_rfl) ?_ _
    have hkw : Kept (lfoot L D g pv) w u3 := ((Kept.of_below hb'.out).trans (Kept.of_below ((Below.refl _ wc).drew.trans hb2))).trans (lkept hk3)
    have hfw : Fresh w pv pv3 := fun i hi => by
      rcases hf3 i hi with e | e
      · exact .inl e
      · refine .inr (Nat.le_trans hb'.out.size (Nat.le_trans ?_ e))
        have := hb2.size
        simpa using this
    have hpl3 : (st.write block f.sec).1.pend.length < 1000000 := by have := write_pend st block f.sec; omega
    have hkw' := Lib.hid hkw
    have hfw' := Lib.hid hfw
    have hl6 := Lib.hid hl5
    obtain ⟨d0, d1, d2, d3, d4, d5⟩ := hl5.cell
    clear hHeld hx5 hx4 hkw hfw d1 d2 d3 d4 d5 hl5 hk3 hf3
    by_cases he : (st.write block f.sec).2 = 0
    · have hall : Hid (rootSt st block epoch area = (st.write block f.sec).1.flush) := by
        unfold rootSt
        rw [hfe.out, if_pos he]
        exact rfl
      rw [he]
      clear he
      go_wp2_with (go_at_call 42; refine (flush_any _ hl6.out.disk hpl3).mono ?_; rintro e4 u4 ⟨rfl, pv4, hd4, hk4, hf4⟩)
      go_ret
      refine ⟨pv4, by rw [hall.out]; rfl, by rw [hall.out]; exact hl6.out.turn hd4 hk4 hf4, lkept_trans hkw'.out hfw'.out (lkept hk4), fresh_trans hfw'.out hkw'.out.size hf4⟩
    · have hall : Hid (rootSt st block epoch area = st.write block f.sec) := by
        unfold rootSt
        rw [hfe.out, if_neg he]
        exact rfl
      have hne : ((st.write block f.sec).2 == 0) = false := by simpa using he
      clear he
      generalize hz1 : st.write block f.sec = z at *
      go_wp2_with fail
      go_ret
      exact ⟨pv3, by rw [hall.out]; rfl, by rw [hall.out]; exact hl6.out, hkw'.out, hfw'.out⟩
end Go.Proofs.Ytlhnhhjpjkgogaa.wl
