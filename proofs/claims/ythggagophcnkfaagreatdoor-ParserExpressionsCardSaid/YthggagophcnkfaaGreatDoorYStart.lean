/- The walk of the reference parser's start. -/
import Derived.Test.YthggagophcnkfaaGreatDoorTk
import Derived.Test.YthggagophcnkfaaGreatDoorM45
namespace Go.Proofs.YthggagophcnkfaaGreatDoor.py
open Go.RowKit Go.Proofs.YthggagophcnkfaaGreatDoor.agg Go.Proofs.YthggagophcnkfaaGreatDoor.sx Go.Proofs.YthggagophcnkfaaGreatDoor.lx Go.Proofs.YthggagophcnkfaaGreatDoor.px
set_option linter.unusedSimpArgs false
set_option linter.unusedVariables false
set_option maxRecDepth 100000 in
set_option maxHeartbeats 4000000 in
theorem start_walk (w : World) (T : ByteArray) (hT : T.size ≤ 4096) : Calls Tryz.prog 31 #[.string T] w (StartEnd w T) := by
 have hS := Lib.hid (rscan_walk w T hT)
 have hN := toks_len' T
 have hNum := Lib.hid (fun (W : World) (t : ByteArray) (ht : t.size ≤ 4096) => rnumber_walk W t ht)
 go_enter Tryz.func31, Tryz.ntmps31
 obtain ⟨L, hL⟩ : ∃ L, toks T = L := ⟨_, rfl⟩
 have hLp : 0 < L.length := by
  obtain ⟨init, e, h1, _⟩ := toks_split T
  rw [← hL, h1]; simp
 have hrg : Hid (∀ t ∈ L, t.kind ≤ 5 ∧ t.at_ ≤ t.to ∧ t.to ≤ T.size) := by
  obtain ⟨init, e, h1, _, _, _, h2, _⟩ := toks_split T
  rw [← hL, h1]
  exact h2
 have hL' := Lib.hid hL
 unfold ScanEnd2 at hS
 rw [hL] at hS hN
 clear hL
 go_upto_region 2 with (first
  | (go_at_call 14; refine hS.out.mono ?_; rintro e w1 ⟨v, rfl, hr, hb⟩; obtain ⟨g, cap, rfl⟩ : ∃ g cap, v = .slice (some ⟨g, 0, none⟩) L.length cap := row_some hr hLp; have hr' := Lib.hid hr; have hb' := Lib.hid hb; clear hr hb))
 go_wp2
 have hsat : Hid (SAt w1.heap.size ((w1.alloc (.cells #[.string T, .slice none 0 0, .int .i64 0, .int .i64 0, .slice none 0 0, .int .i64 (-1)] 70)).alloc (.cells #[] 34)) w1.heap.size T (.slice none 0 0) (.slice (some ⟨w1.heap.size + 1, 0, none⟩) 0 0) [] []) := by
  refine ⟨(Below.heap_alloc _ _ _ (by simp)).trans (heap_alloc_new _ _), World.ownsRow_nil _ _ _ _, ?_⟩
  have h1 := World.ownsRow_lit (e := 34) (size := 4) (base := w1.heap.size) (w1.alloc (.cells #[.string T, .slice none 0 0, .int .i64 0, .int .i64 0, .slice none 0 0, .int .i64 (-1)] 70)) #[] 0 (by simp) (by decide) rfl
  rw [World.size_alloc] at h1
  exact h1
 have hbel : Hid (Below w1.heap.size w1 ((w1.alloc (.cells #[.string T, .slice none 0 0, .int .i64 0, .int .i64 0, .slice none 0 0, .int .i64 (-1)] 70)).alloc (.cells #[] 34))) := ((Below.refl _ _).alloc (Nat.le_refl _) _).alloc (by simp) _
 go_loopw [7, 8] (fun lvs i wr => ∃ (j : Nat) (tv : Value) (lg lcap : Nat), j ≤ L.length ∧ i = .int .i64 j ∧ lvs = .slice (some ⟨lg, 0, none⟩) ((L.take j).flatMap (lexDg T)).length lcap ∧ SAt w1.heap.size wr w1.heap.size T tv lvs ((L.take j).filter (fun t => t.kind != 5)) ((L.take j).flatMap (lexDg T)) ∧ Below w1.heap.size w1 wr) (fun _ i wr => L.length - (intOf i).toNat)
 case atStart => exact ⟨0, _, _, _, by omega, rfl, rfl, by simpa using hsat.out, hbel.out⟩
 case round =>
  obtain ⟨j, tv, lg, lcap, hj, rfl, rfl, hba, hbe⟩ := hrel
  have hba' := Lib.hid hba
  have hbe' := Lib.hid hbe
  clear hba hbe hsat hbel
  by_cases hlt : j < L.length
  ·obtain ⟨t, ht⟩ : ∃ t, L[j] = t := ⟨_, rfl⟩
   have hmt := hrg.out t (ht ▸ List.getElem_mem hlt)
   obtain ⟨o, ho⟩ : ∃ o, w1.heap[g]? = o := ⟨_, rfl⟩
   have hg1 : w1.heap.size ≤ w1.heap.size := Nat.le_refl _
   have hgl : g < w1.heap.size := (hr'.out.lt g rfl).2
   have hog : Hid (wr.heap[g]? = o) := (hbe'.out.block g hgl).trans ho
   have hoc : Hid (∀ u : World, u.heap[g]? = o → ∀ q v, t.cells.toList[q]? = some v → u.cell? ⟨g, j * 4 + q, none⟩ = some v) := fun u hu q v hv =>
    (World.cell?_of_block (w := w1) (w' := u) (a := ⟨g, _, none⟩) (hu.trans ho.symm)).trans (tokV_cell (L := L) hr'.out hlt (by rw [ht]; exact hv))
   have y := hoc.out wr hog.out
   have y0 := y 0 _ rfl
   have y1 := y 1 _ rfl
   have y2 := y 2 _ rfl
   have y3 := y 3 _ rfl
   simp only [Nat.add_zero] at y0
   have htk : Hid (L.take (j + 1) = L.take j ++ [t]) := by
    rw [← ht]
    exact List.take_succ_eq_append_getElem hlt
   have hdl : ((L.take j).flatMap (lexDg T)).length ≤ 5000 := by
    have h1 := lexDgs_len T (L.take j)
    have h2 : (L.take j).length ≤ j := List.length_take_le _ _
    omega
   obtain ⟨hk5, hat, hto⟩ := hmt
   have ho' := Lib.hid ho
   clear y ht ho
   have hlx : Hid (lexDg T t = if t.kind = 5 then [⟨1, t.at_, t.to, ⟨#[]⟩⟩] else if t.kind = 3 then (if numberB (T.extract t.at_ t.to).data.toList then [] else [⟨2, t.at_, t.to, ⟨#[]⟩⟩]) else if t.kind = 1 then (if 16 < t.to - t.at_ then [⟨3, t.at_, t.to, ⟨#[]⟩⟩] else []) else []) := rfl
   have hds : Hid ((L.take (j + 1)).flatMap (lexDg T) = (L.take j).flatMap (lexDg T) ++ lexDg T t) := Lib.hid (by rw [htk.out, List.flatMap_append]; simp)
   have hks : Hid ((L.take (j + 1)).filter (fun t => t.kind != 5) = (L.take j).filter (fun t => t.kind != 5) ++ (if t.kind = 5 then [] else [t])) := by
    unfold Hid
    rw [htk.out, List.filter_append]
    by_cases h5 : t.kind = 5
    ·rw [if_pos h5, List.filter_cons_of_neg (by rw [h5]; decide), List.filter_nil]
    ·rw [if_neg h5, List.filter_cons_of_pos (by simpa using h5), List.filter_nil]
   have hklen : ((L.take j).filter (fun t => t.kind != 5)).length ≤ 5000 := by
    have h1 := List.length_filter_le (fun t : Tok => t.kind != 5) (L.take j)
    have h2 : (L.take j).length ≤ j := List.length_take_le _ _
    omega
   generalize (L.take j).flatMap (lexDg T) = ds at *
   generalize (L.take j).filter (fun t => t.kind != 5) = ks at *
   generalize lexDg T t = dt at *
   have hnum := Lib.hid (fun (W : World) => hNum.out W (T.extract t.at_ t.to) (by rw [ByteArray.size_extract]; omega))
   obtain ⟨wd, hwd⟩ : ∃ wd, T.extract t.at_ t.to = wd := ⟨_, rfl⟩
   have hws : wd.size ≤ t.to - t.at_ ∧ t.to - t.at_ ≤ wd.size := by rw [← hwd, ByteArray.size_extract]; omega
   obtain ⟨nb, hnb⟩ : ∃ nb, numberB (T.extract t.at_ t.to).data.toList = nb := ⟨_, rfl⟩
   rw [hnb] at hlx hnum
   rw [hwd] at hnum
   clear hnb
   obtain ⟨tq, tf, ta, te⟩ := t
   simp only [Tok.cells] at *
   go_upto_region 7 with fail
   go_region
   clear hwd
   go_upto_block 2 with (first
    | (go_at_call 77; refine (hnum.out _).mono ?_; rintro e w2 ⟨nn, rfl, hb2⟩; have hb2' := Lib.hid hb2; clear hb2))
   have hba2 := Lib.hid (hba'.out.below ((Below.refl _ _).drew.trans hb2'.out))
   have hbe2 := Lib.hid (hbe'.out.trans (((Below.refl _ _).drew.trans hb2'.out).mono hbe'.out.size))
   have hog2 : Hid (w2.heap[g]? = o) := (hb2'.out.block g (Nat.lt_of_lt_of_le hgl hbe'.out.size)).trans hog.out
   have y := hoc.out w2 hog2.out
   have y0 := y 0 _ rfl
   have y1 := y 1 _ rfl
   have y2 := y 2 _ rfl
   have y3 := y 3 _ rfl
   simp only [Nat.add_zero] at y0
   have hgz : w1.heap.size ≤ w2.heap.size := hbe2.out.size
   clear hnum hNum hba' hbe' hb2' hog y hS hrg
   go_cut [10] from 22 to 110 (fun c V => ∃ code : Int, c = .int .i64 code ∧ 0 ≤ code ∧ code ≤ 3 ∧ Hid (dt = if code = 0 then [] else [⟨code, ta, te, ⟨#[]⟩⟩]) ∧ w2 = V)
   case first =>
    by_cases k5 : tq = 5
    ·subst k5
     rw [if_pos rfl] at hlx
     go_wp2_with fail
     go_meet
     case rel => exact ⟨1, rfl, by decide, by decide, hlx, by first | rfl | trivial⟩
    ·have hki : ((tq : Int) == 5) = false := by simp; omega
     rw [if_neg k5] at hlx
     by_cases k3 : tq = 3
     ·subst k3
      rw [if_pos rfl] at hlx
      cases nb with
      | true =>
       go_wp2_with fail
       go_meet
       case rel => exact ⟨0, rfl, by decide, by decide, hlx, by first | rfl | trivial⟩
      | false =>
       go_wp2_with fail
       go_meet
       case rel => exact ⟨2, rfl, by decide, by decide, hlx, by first | rfl | trivial⟩
     ·have hki3 : ((tq : Int) == 3) = false := by simp; omega
      rw [if_neg k3] at hlx
      by_cases k1 : tq = 1
      ·subst k1
       rw [if_pos rfl] at hlx
       by_cases h16 : 16 < te - ta
       ·rw [if_pos h16] at hlx
        have h17 : 16 < wd.size := by omega
        clear h16
        go_wp2_with fail
        go_meet
        case rel => exact ⟨3, rfl, by decide, by decide, hlx, by first | rfl | trivial⟩
       ·rw [if_neg h16] at hlx
        have h17 : ¬ 16 < wd.size := by omega
        clear h16
        go_wp2_with fail
        go_meet
        case rel => exact ⟨0, rfl, by decide, by decide, hlx, by first | rfl | trivial⟩
      ·have hki1 : ((tq : Int) == 1) = false := by simp; omega
       rw [if_neg k1] at hlx
       go_wp2_with fail
       go_meet
       case rel => exact ⟨0, rfl, by decide, by decide, hlx, by first | rfl | trivial⟩
   case rest =>
    obtain ⟨code, rfl, hc0, hc3, hdt, rfl⟩ := hcut
    clear hlx
    go_upto_if 76 with fail
    go_cut [7] from 22 to 110 (fun lvs V => ∃ lg2 lcap2 : Nat, lvs = .slice (some ⟨lg2, 0, none⟩) (ds ++ dt).length lcap2 ∧ SAt w1.heap.size V w1.heap.size T tv lvs ks (ds ++ dt) ∧ Below w1.heap.size w1 V)
    case first =>
     by_cases hcz : code = 0
     ·subst hcz
      have hd0 : dt = [] := by rw [hdt.out]; rfl
      subst hd0
      go_wp2_with fail
      go_meet
      case rel => exact ⟨lg, lcap, by simp, by simpa using hba2.out, hbe2.out⟩
     ·have hcn : (code != 0) = true := by simpa using hcz
      have hd1 : dt = [Dg.mk code ta te ⟨#[]⟩] := by rw [hdt.out, if_neg hcz]
      subst hd1
      obtain ⟨i0, hi, hz0, hz1, hz2⟩ := info_parts info_dg
      go_upto_region 16 with fail
      have hownD : w2.drew.ownsRow w1.heap.size 34 4 (.slice (some ⟨lg, 0, none⟩) ds.length lcap) ds.length (dgV ds) := hba2.out.list.drew
      have hbeD := Lib.hid (((Below.refl w2.heap.size w2).drew).alloc (Nat.le_refl _) (.cells (Dg.mk code ta te ⟨#[]⟩).cells 34))
      go_region_law (refine step_append_mine rfl (.tmp 77) (.tmp 90) 26 rfl w1.heap.size 34 i0 _ 4 40 Tryz.underlying26 hi hz0 hz1 hz2 (by decide) (.slice (some ⟨lg, 0, none⟩) ds.length lcap) _ _ rfl (hownD.alloc _) ⟨w2.drew.heap.size, 0, none⟩ 1 1 (Dg.mk code ta te ⟨#[]⟩).cells.toList rfl rfl (by omega) (cells_new w2.drew (Dg.mk code ta te ⟨#[]⟩).cells _) (dg_one _) (by unfold maxLen; omega) (by omega) (by simp; omega) ?_; intro g' cap' w' hown' hgrow hnew)
      all_goals
       have q1 := Lib.hid (hba2.out.dg hbeD.out hgrow hown')
       have q2 := Lib.hid (own_grow hba2.out.list hbe2.out hbeD.out hgz hgrow)
       clear hown' hgrow hnew
       go_wp2_with fail
       go_meet
       case rel => exact ⟨g', cap', by rw [List.length_append]; rfl, by first | exact q1.out | (rw [List.length_append]; exact q1.out), q2.out⟩
    case rest =>
     obtain ⟨lg2, lcap2, rfl, hba3, hbe3⟩ := hcut
     have hV := Lib.hid hba3
     have hbV := Lib.hid hbe3
     have hog3 : Hid (wc.heap[g]? = o) := (hbe3.block g hgl).trans ho'.out
     have y := hoc.out wc hog3.out
     have y0 := y 0 _ rfl
     simp only [Nat.add_zero] at y0
     clear y y1 y2 y3
     by_cases k5 : tq = 5
     ·subst k5
      clear hba3 hbe3
      go_wp2_with fail
      go_roundw
      case rel => exact ⟨j + 1, tv, lg2, lcap2, by omega, by go_num, by rw [hds.out], by rw [hds.out, hks.out, if_pos rfl, List.append_nil]; exact hV.out, hbV.out⟩
      case measure => simp [intOf]; omega
     ·have hki : ((tq : Int) != 5) = true := by rw [bne_iff_ne]; omega
      go_upto_region 18 with fail
      obtain ⟨i0, hi, hz0, hz1, hz2⟩ := info_parts tokInfo
      obtain ⟨c1, _⟩ := hba3.cell
      have hown := hba3.toks
      have hown0 := hba3.toks
      have hn := hba3.ne.1
      have hPb := lt_of_block hba3.box
      have hgw : g < wc.heap.size := Nat.lt_of_lt_of_le hgl hbe3.size
      have hn3 : tv.ownBlock ≠ some g := fun e => by have := (hown0.lt g e).1; omega
      have hgP : g ≠ w1.heap.size := by omega
      have hal : ∀ o', (wc.alloc o').drew.heap[g]? = o := fun o' => (((Below.refl _ wc).alloc (Nat.le_refl _) o').block g hgw).trans hog3.out
      have c1a : ∀ o', (wc.alloc o').drew.cell? ⟨w1.heap.size, 1, none⟩ = some tv := fun o' => (((Below.refl _ wc).alloc (Nat.le_refl _) o').cell (p := ⟨w1.heap.size, 1, none⟩) hPb).trans c1
      have c1d : wc.drew.cell? ⟨w1.heap.size, 1, none⟩ = some tv := c1
      have hz : wc.drew.heap.size = wc.heap.size := rfl
      clear hba3 hbe3 y0
      refine wp_region_held_drew (S := fun u => u.heap[g]? = o) (by kernel_rfl) hog3.out (fun hHeld => ?_)
      refine tk (i := 0) (v := .pointer (some ⟨w1.heap.size, 0, none⟩)) rfl hHeld ?_
      try simp only [Act.put, kA, kB, kC, kD, kE, kF]
      refine tk (i := 1) (v := .pointer (some ⟨w1.heap.size, 0, none⟩)) rfl hHeld ?_
      try simp only [Act.put, kA, kB, kC, kD, kE, kF]
      refine tk (i := 2) (v := .pointer (some ⟨w1.heap.size, 0, none⟩)) rfl hHeld ?_
      try simp only [Act.put, kA, kB, kC, kD, kE, kF]
      refine tk (i := 3) (v := .pointer (some ⟨w1.heap.size, 1, none⟩)) rfl hHeld ?_
      try simp only [Act.put, kA, kB, kC, kD, kE, kF]
      refine tk (i := 5) (v := .slice (some ⟨g, 0, none⟩) L.length cap) rfl hHeld ?_
      try simp only [Act.put, kA, kB, kC, kD, kE, kF]
      refine tk (i := 6) (v := .int .i64 j) rfl hHeld ?_
      try simp only [Act.put, kA, kB, kC, kD, kE, kF]
      refine tk (i := 7) (v := .pointer (some ⟨g, j * 4, none⟩)) rfl hHeld ?_
      try simp only [Act.put, kA, kB, kC, kD, kE, kF]
      refine tk (i := 8) (v := .agg #[.int .i64 tq, .int .i64 tf, .int .i64 ta, .int .i64 te]) (hy := yieldsIf_load_mid (by rfl) _ _ rfl _ _ rfl [.int .i64 tq, .int .i64 tf, .int .i64 ta, .int .i64 te] _ (fun _ h => hoc.out _ h) Tryz.underlying39 rfl info_tk) rfl hHeld ?_
      try simp only [Act.put, kA, kB, kC, kD, kE, kF]
      refine wpAnyH_ready (rs := [4, 9]) (by kernel_rfl) (by simp) ?_
      refine AllReadyH.cons rfl (fun K hK => ?_) (AllReadyH.cons rfl (fun K hK => ?_) AllReadyH.nil)
      ·rw [if_pos (by rfl)]
       go_simp
       refine hK.out _ _ hHeld (fun hHeld => ?_)
       clear hK K
       try simp only [Act.put, kA, kB, kC, kD, kE, kF]
       refine wpAnyH_ready (rs := [9]) (by kernel_rfl) (by simp) ?_
       refine AllReadyH.cons rfl (fun K hK => ?_) AllReadyH.nil
       rw [if_pos (by rfl)]
       go_simp
       refine hK.out _ _ (hal _) (fun hHeld => ?_)
       clear hK K
       try simp only [Act.put, kA, kB, kC, kD, kE, kF]
       refine wpAnyH_ready (rs := [10]) (by kernel_rfl) (by simp) ?_
       refine AllReadyH.cons rfl (fun K hK => ?_) AllReadyH.nil
       rw [if_pos (by rfl)]
       refine wp_append_mine (.tmp 102) (.tmp 107) 35 rfl w1.heap.size 39 i0 _ 4 32 Tryz.underlying35 hi hz0 hz1 hz2 (by decide) tv _ _ rfl ((hown.alloc _).drew) ⟨wc.heap.size, 0, none⟩ 1 1 (Tok.mk tq tf ta te).cells.toList rfl rfl (by omega) (cells_new wc (Tok.mk tq tf ta te).cells _) (tok_one _) (by unfold maxLen; omega) (by omega) (by simp; omega) ?_
       intro g' cap' w' hown' hgrow hnew
       have hkW : ∀ k, k < wc.heap.size → tv.ownBlock ≠ some k → w'.heap[k]? = wc.heap[k]? := fun k hk h2 => (hgrow.block k (by simp; omega) (fun e => h2 e.symm)).trans (((Below.refl _ wc).alloc (Nat.le_refl _) _).block k hk)
       have hbx' : w'.heap[w1.heap.size]? = some (.cells (pcells T tv (.slice none 0 0) 0 0 (-1)) 70 (0, 0)) := (hkW _ hPb hn).trans hV.out.box
       have hgx' : w'.heap[g]? = o := (hkW _ hgw hn3).trans hog3.out
       refine hK.out _ _ hgx' (fun hHeld => ?_)
       clear hK K
       try simp only [Act.put, kA, kB, kC, kD, kE, kF]
       refine tk (i := 11) (v := .pointer (some ⟨w1.heap.size, 0, none⟩)) rfl hHeld ?_
       try simp only [Act.put, kA, kB, kC, kD, kE, kF]
       refine tk (i := 12) (v := .pointer (some ⟨w1.heap.size, 1, none⟩)) rfl hHeld ?_
       try simp only [Act.put, kA, kB, kC, kD, kE, kF]
       have c1' : w'.cell? ⟨w1.heap.size, 1, none⟩ = some tv := (cell_of_row _ _ _ _ _ _ hbx').trans rfl
       have f1' : w'.frozen? ⟨w1.heap.size, 1, none⟩ = false := by simp [World.frozen?, hbx']
       refine wpAnyH_ready (rs := [13]) (by kernel_rfl) (by simp) ?_
       refine AllReadyH.cons rfl (fun K hK => ?_) AllReadyH.nil
       rw [if_pos (by rfl)]
       go_simp
       refine hK.out _ _ ((heap_setCell_other _ _ _ _ (fun e => hgP e)).trans hgx') (fun hHeld => ?_)
       clear hK K
       try simp only [Act.put, kA, kB, kC, kD, kE, kF]
       refine wpAnyH_done (by kernel_rfl) ?_ _
       clear hHeld
       have q1 := Lib.hid (hV.out.tk (t := Tok.mk tq tf ta te) ((Below.refl _ wc).alloc (Nat.le_refl _) _).drew hgrow hown' hnew)
       have q2 := Lib.hid (Below.setCell (own_grow hown0 hbV.out ((Below.refl _ wc).alloc (Nat.le_refl _) _).drew hbV.out.size hgrow) (show w1.heap.size ≤ (⟨w1.heap.size, 1, none⟩ : Addr).block from Nat.le_refl _) (.slice (some ⟨g', 0, none⟩) (ks.length + 1) cap'))
       clear hkW hbx' hgx' c1' f1' hown' hgrow hnew
       go_wp2
       go_roundw
       case rel => exact ⟨j + 1, _, lg2, lcap2, by omega, by go_num, by rw [hds.out, List.length_append], by rw [hds.out, hks.out, if_neg k5]; have q := q1.out; rw [List.length_append] at q; exact q, q2.out⟩
       case measure => simp [intOf]; omega
      ·rw [if_pos (by rfl)]
       go_simp
       refine hK.out _ _ (hal _) (fun hHeld => ?_)
       clear hK K
       try simp only [Act.put, kA, kB, kC, kD, kE, kF]
       refine wpAnyH_ready (rs := [4]) (by kernel_rfl) (by simp) ?_
       refine AllReadyH.cons rfl (fun K hK => ?_) AllReadyH.nil
       rw [if_pos (by rfl)]
       go_simp
       refine hK.out _ _ hHeld (fun hHeld => ?_)
       clear hK K
       try simp only [Act.put, kA, kB, kC, kD, kE, kF]
       refine wpAnyH_ready (rs := [10]) (by kernel_rfl) (by simp) ?_
       refine AllReadyH.cons rfl (fun K hK => ?_) AllReadyH.nil
       rw [if_pos (by rfl)]
       refine wp_append_mine (.tmp 102) (.tmp 107) 35 rfl w1.heap.size 39 i0 _ 4 32 Tryz.underlying35 hi hz0 hz1 hz2 (by decide) tv _ _ rfl ((hown.alloc _).drew) ⟨wc.heap.size, 0, none⟩ 1 1 (Tok.mk tq tf ta te).cells.toList rfl rfl (by omega) (cells_new wc (Tok.mk tq tf ta te).cells _) (tok_one _) (by unfold maxLen; omega) (by omega) (by simp; omega) ?_
       intro g' cap' w' hown' hgrow hnew
       have hkW : ∀ k, k < wc.heap.size → tv.ownBlock ≠ some k → w'.heap[k]? = wc.heap[k]? := fun k hk h2 => (hgrow.block k (by simp; omega) (fun e => h2 e.symm)).trans (((Below.refl _ wc).alloc (Nat.le_refl _) _).block k hk)
       have hbx' : w'.heap[w1.heap.size]? = some (.cells (pcells T tv (.slice none 0 0) 0 0 (-1)) 70 (0, 0)) := (hkW _ hPb hn).trans hV.out.box
       have hgx' : w'.heap[g]? = o := (hkW _ hgw hn3).trans hog3.out
       refine hK.out _ _ hgx' (fun hHeld => ?_)
       clear hK K
       try simp only [Act.put, kA, kB, kC, kD, kE, kF]
       refine tk (i := 11) (v := .pointer (some ⟨w1.heap.size, 0, none⟩)) rfl hHeld ?_
       try simp only [Act.put, kA, kB, kC, kD, kE, kF]
       refine tk (i := 12) (v := .pointer (some ⟨w1.heap.size, 1, none⟩)) rfl hHeld ?_
       try simp only [Act.put, kA, kB, kC, kD, kE, kF]
       have c1' : w'.cell? ⟨w1.heap.size, 1, none⟩ = some tv := (cell_of_row _ _ _ _ _ _ hbx').trans rfl
       have f1' : w'.frozen? ⟨w1.heap.size, 1, none⟩ = false := by simp [World.frozen?, hbx']
       refine wpAnyH_ready (rs := [13]) (by kernel_rfl) (by simp) ?_
       refine AllReadyH.cons rfl (fun K hK => ?_) AllReadyH.nil
       rw [if_pos (by rfl)]
       go_simp
       refine hK.out _ _ ((heap_setCell_other _ _ _ _ (fun e => hgP e)).trans hgx') (fun hHeld => ?_)
       clear hK K
       try simp only [Act.put, kA, kB, kC, kD, kE, kF]
       refine wpAnyH_done (by kernel_rfl) ?_ _
       clear hHeld
       have q1 := Lib.hid (hV.out.tk (t := Tok.mk tq tf ta te) ((Below.refl _ wc).alloc (Nat.le_refl _) _).drew hgrow hown' hnew)
       have q2 := Lib.hid (Below.setCell (own_grow hown0 hbV.out ((Below.refl _ wc).alloc (Nat.le_refl _) _).drew hbV.out.size hgrow) (show w1.heap.size ≤ (⟨w1.heap.size, 1, none⟩ : Addr).block from Nat.le_refl _) (.slice (some ⟨g', 0, none⟩) (ks.length + 1) cap'))
       clear hkW hbx' hgx' c1' f1' hown' hgrow hnew
       go_wp2
       go_roundw
       case rel => exact ⟨j + 1, _, lg2, lcap2, by omega, by go_num, by rw [hds.out, List.length_append], by rw [hds.out, hks.out, if_neg k5]; have q := q1.out; rw [List.length_append] at q; exact q, q2.out⟩
       case measure => simp [intOf]; omega
  ·obtain rfl : j = L.length := by omega
   have e0 : L.take L.length = L := List.take_length
   rw [e0] at hba' ⊢
   go_wp2
   go_ret2
   have hq := hba'.out
   have hkept : kept T = L.filter (fun t => t.kind != 5) := by unfold kept; rw [hL'.out]
   have hbt : ∀ b, tokBlock tv = some b → tv.ownBlock = some b := fun b hb => by
    rcases hq.toks.2 with ⟨rfl, _⟩ | ⟨g2, c2, cur, rfl, _⟩
    ·simp [tokBlock] at hb
    ·simpa [tokBlock, Value.ownBlock] using hb
   have hok := srcR_ok T hT
   have hpos : 0 < (kept T).length := hok.pos
   rw [hkept] at hpos
   have hti : TokIn wr tv (kept T) := by rw [hkept]; exact (TokIn_of_row hq.toks hpos).1
   obtain ⟨n1, n2, n3⟩ := hq.ne
   refine ⟨w1.heap.size, tv, _, rfl, ⟨hq.box, hti, fun b hb => ⟨fun e => n1 (by rw [hbt b hb, e]), by simp [Value.ownBlock]⟩, World.ownsRow_nil _ _ _ _, by simp [Value.ownBlock], hok, ⟨hok.pos, by simp, by simp⟩, by simp [Src.last], by simp [Src.found]⟩, by rw [hL'.out]; exact ownsRow_base hq.list hb'.out.size, hb'.out.size, n2, fun b hb => ⟨Nat.le_trans hb'.out.size (hq.toks.lt b (hbt b hb)).1, n3 b (hbt b hb)⟩, hb'.out.trans (hbe'.out.mono hb'.out.size)⟩
end Go.Proofs.YthggagophcnkfaaGreatDoor.py
