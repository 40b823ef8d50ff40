/- The walk of Do where a checkpoint is made and nothing fails. -/
import Derived.Test.YtlhnhhjpjkgogaaWDoBase
import Derived.Deep.RegionLaw
import Derived.Lib.QuietBelow
import Derived.BigRegion
namespace Go.Proofs.Ytlhnhhjpjkgogaa.wl
open Go.RowKit Go.Proofs.Ytlhnhhjpjkgogaa.agg Go.Proofs.Ytlhnhhjpjkgogaa.dk
set_option linter.unusedSimpArgs false
set_option linter.unusedVariables false

set_option maxRecDepth 100000 in
set_option maxHeartbeats 4000000 in
theorem do_check {w W : World} {Q L D g n S a b e t P : Nat} {R1 R2 : List ByteArray} (h : SyAt w Q L D g n S a b e t R1 R2 P W) (hP : P ≤ 400000) (x : ActW) (hx : StrsUnder w.heap.size w x.rv x.recs) (hx2 : ∃ ao cap, x.svv = .slice ao x.sv.length cap) (h6 : x.recs.length ≤ 6) (h300 : ∀ r ∈ x.recs, r.size ≤ 300) (hk0 : x.kind = 2) (he : e + 1 < 256) :
    Calls Try.prog 31 #[.pointer (some ⟨Q, 0, none⟩), .agg x.cells] W (DoEnd w Q L D g n S e (R1.length + R2.length + 6) P) := by
  obtain ⟨pv, st, X, cv, mv, nv, fl, hp⟩ := h
  obtain ⟨ro, rc, hrv, _⟩ := id hx
  obtain ⟨so, sc, hsv⟩ := hx2
  have hbz : Below W.heap.size W (W.alloc (.cells x.cells 49)) := (Below.refl _ _).alloc (Nat.le_refl _) _
  have hbox : (W.alloc (.cells x.cells 49)).heap[W.heap.size]? = some (.cells x.cells 49 (0, 0)) := heap_alloc_new _ _
  have y0 : (W.alloc (.cells x.cells 49)).cell? ⟨W.heap.size, 0, none⟩ = some (.int .i64 2) := (cell_of_row _ _ _ _ _ _ hbox).trans (by rw [← hk0]; rfl)
  have y1 : (W.alloc (.cells x.cells 49)).cell? ⟨W.heap.size, 1, none⟩ = some (.slice ro x.recs.length rc) := (cell_of_row _ _ _ _ _ _ hbox).trans (by rw [← hrv]; rfl)
  have hp1 := hp.quiet hbz
  have hp1' := Lib.hid hp1
  have hx' := Lib.hid (hrv ▸ hx)
  obtain ⟨d0, d1, d2, d3, d4⟩ := hp1.cell
  have he0 : Hid (Calls Try.prog 29 #[.pointer (some ⟨L, 0, none⟩)] (W.alloc (.cells x.cells 49)) fun e w' => e = .returned (.int .i64 0) ∧ (W.alloc (.cells x.cells 49)) = w') := errL hp1.log
  have hu : x.cells = #[.int .i64 x.kind, .slice ro x.recs.length rc, .slice so x.sv.length sc, .int .i64 x.n] := by unfold ActW.cells; rw [hrv, hsv]
  have hZb : Hid (∀ q, lfoot L D g pv q → q ≠ W.heap.size) := fun q hq e1 => by have := hp.log.lt q hq; omega
  have hQZ : Q ≠ W.heap.size := fun e1 => by have := lt_of_block hp.box; omega
  have hbox' : Hid ((W.alloc (.cells x.cells 49)).heap[W.heap.size]? = some (.cells #[.int .i64 2, .slice ro x.recs.length rc, .slice so x.sv.length sc, .int .i64 x.n] 49 (0, 0))) := by rw [hbox, hu, hk0]; exact rfl
  have hu' : Hid ((W.alloc (.cells x.cells 49)) = W.alloc (.cells #[.int .i64 2, .slice ro x.recs.length rc, .slice so x.sv.length sc, .int .i64 x.n] 49)) := by rw [hu, hk0]; exact rfl
  rw [hu, hk0]
  have hr65 : ∀ r ∈ x.recs, r.size ≤ 65536 := fun r hr => by have := h300 r hr; omega
  have hX8 : 8 ≤ X.length := by rw [hp1.sess.len]; exact hp1.sess.n8.1
  have hSX : S = (X.length - 2) / 2 := by rw [hp1.sess.len]; exact hp1.sess.hS
  have ha := hp1.sess.ha
  have hb := hp1.sess.hb
  have hC : Hid (∀ W', Below (W.alloc (.cells x.cells 49)).heap.size (W.alloc (.cells x.cells 49)) W' → Calls Try.prog 23 #[.pointer (some ⟨L, 0, none⟩), .slice ro x.recs.length rc] W' (LogEnd W' L D g pv (checkLg st ⟨e, b, a, t, 0⟩ x.recs))) := fun W' hW' =>
    check_walk (hp1.quiet hW').log (B := w.heap.size) (hp1.quiet hW').below.size hp1.live _ x.recs (hx'.out.below (hp1.quiet hW').below) hr65 (by omega) (by rcases ha with rfl | rfl <;> simp) (by rcases hb with rfl | rfl <;> simp) ⟨by simp only; omega, by simp only; omega⟩ (by have := hp1.pend; omega)
  have hmv := Lib.hid hp1.more
  have hsec := Lib.hid hp1.sess.n8
  have hSn : S = (n - 2) / 2 := hp1.sess.hS
  have hSn' := Lib.hid hSn
  have hdl : Hid (st.dur.length = n) := by have h1 := hp1.fine.len; have h2 := hp1.sess.len; exact (show st.dur.length = n by rw [h1, h2])
  have hfine := Lib.hid hp1.fine
  have hr65' := Lib.hid hr65
  have hSX' := Lib.hid hSX
  clear hp hbz hbox hp1 hx hrv hsv hu hk0 d0 d2 d3 d4 hr65 hSX hSn h300
  by_cases hfit : needN x.recs ≤ S
  · obtain ⟨st', p1, p2, p3⟩ := check_fine (e := e) (b := b) (t := t) hfine.out hX8 hSX'.out ha hb (by omega) x.recs hfit
    rw [p1] at hC
    have p2' := Lib.hid p2
    have hdl2 : Hid (st'.dur.length = n) := by have h1 := p2.len; unfold checkX at h1; rw [List.length_set, laidF_len] at h1; exact (show st'.dur.length = n by rw [h1, hp1'.out.sess.len])
    have p3' := Lib.hid p3
    clear p1 p2 p3
    go_enter Try.func31, Try.ntmps31
    go_upto_region 1 with fail
    rw [← hu'.out]
    generalize W.alloc (.cells x.cells 49) = W1 at *
    generalize W.heap.size = Z at *
    clear hu'
    go_wp2_with (first | (go_at_call 29; refine he0.out.mono ?_; rintro e9 _ ⟨rfl, rfl⟩))
    go_region_law (first | (go_simp; go_at_call 23; refine (hC.out _ (by repeat (first | exact Below.refl _ _ | apply bl_drew))).mono ?_; rintro e9 u1 ⟨pv1, rfl, hl1, hk1, hf1⟩))
    all_goals
      obtain ⟨f1, f2, f3, f4, f5, f6, f7, f8⟩ := (hp1'.out.quiet (by repeat (first | exact Below.refl _ _ | apply bl_drew))).turn hl1 hk1 hf1
      have hZ1 := kept_block hk1 (by repeat (first | exact Below.refl _ _ | apply bl_drew)) hbox'.out (fun e1 => hZb.out Z e1 rfl)
      have z1 : u1.cell? ⟨Z, 1, none⟩ = some (.slice ro x.recs.length rc) := (cell_of_row _ _ _ _ _ _ hZ1).trans rfl
      have z2 : u1.cell? ⟨Q, 0, none⟩ = some (.pointer (some ⟨D, 0, none⟩)) := (cell_of_row _ _ _ _ _ _ f2).trans rfl
      have hxs := (hx'.out.below f8).mono f8.size
      have hNn : needN x.recs ≤ 1000 := by have := hsec.out; have h2 := hSn'.out; omega
      have hn1 := hsec.out.1
      have hn2 := hsec.out.2
      have hneed : Hid (∀ u, Below u1.heap.size u1 u → Calls Try.prog 18 #[.slice ro x.recs.length rc] u fun e w' => e = .returned (.int .i64 (needN x.recs)) ∧ Below u.heap.size u w') :=
        fun u hb => need_walk u _ x.recs ((hxs.below hb).mono hb.size) hr65'.out (by omega)
      have hsecs : Hid (∀ u, Below u1.heap.size u1 u → Calls Try.prog 52 #[.pointer (some ⟨D, 0, none⟩)] u fun e w' => e = .returned (.int .i64 n) ∧ Below u.heap.size u w') :=
        fun u hb => (sectors_any u (hl1.below hb).disk).mono (fun _ _ h => by obtain ⟨rfl, rfl⟩ := h; exact ⟨by rw [hdl2.out], Below.refl _ _⟩)
      have hsize : Hid (∀ u, Below u1.heap.size u1 u → Calls Try.prog 16 #[.int .i64 n] u fun e w' => e = .returned (.int .i64 S) ∧ Below u.heap.size u w') :=
        fun u hb => (rsize_any u n (by omega) (by omega)).mono (fun _ _ h => by obtain ⟨rfl, rfl⟩ := h; exact ⟨by rw [hSn'.out], Below.refl _ _⟩)
      have k1 := cell_regrown z1
      have k2 := cell_regrown z2
      have cN : ∀ d os, Calls Try.prog 18 #[.slice ro x.recs.length rc] (Sort.grow (redrawn u1 d) os) fun e w'' => e = .returned (.int .i64 (needN x.recs)) ∧ ∃ p : Regrown, w'' = Sort.grow (redrawn u1 p.d) p.os := fun d os => Calls.regrown_of (hneed.out _ (below_regrown u1 d os))
      have cS : ∀ d os, Calls Try.prog 52 #[.pointer (some ⟨D, 0, none⟩)] (Sort.grow (redrawn u1 d) os) fun e w'' => e = .returned (.int .i64 n) ∧ ∃ p : Regrown, w'' = Sort.grow (redrawn u1 p.d) p.os := fun d os => Calls.regrown_of (hsecs.out _ (below_regrown u1 d os))
      have cZ : ∀ d os, Calls Try.prog 16 #[.int .i64 n] (Sort.grow (redrawn u1 d) os) fun e w'' => e = .returned (.int .i64 S) ∧ ∃ p : Regrown, w'' = Sort.grow (redrawn u1 p.d) p.os := fun d os => Calls.regrown_of (hsize.out _ (below_regrown u1 d os))
      have f1' := Lib.hid f1
      have f2' := Lib.hid f2
      have f3' := Lib.hid f3
      have f8' := Lib.hid f8
      have hl1' := Lib.hid hl1
      have hxs' := Lib.hid hxs
      have hfitN : ¬ (S : Int) < (needN x.recs : Int) := by omega
      have hfit' := Lib.hid hfit
      have hSn1 := Lib.hid hSn'
      clear f1 f2 f3 f4 f5 f6 f7 f8 hl1 hk1 hf1 hxs hC he0 y0 y1 d1 hZ1 hneed hsecs hsize hmv
      generalize hNd : needN x.recs = N at *
      have hNd' := Lib.hid hNd
      clear hNd
      go_upto_region 35 with fail
      refine wp_region_quiet_below (by kernel_rfl) (by kernel_rfl) ?_
      repeat (go_big_quiet_step ((first | (go_at_call 18; exact cN _ _) | (go_at_call 52; exact cS _ _) | (go_at_call 16; exact cZ _ _))))
      refine wpQuiet_nil ?_
      intro _ hw'
      obtain ⟨⟨dq, osq⟩, hw''⟩ := hw'
      subst hw''
      have hbq := Lib.hid (below_regrown u1 dq osq)
      clear k1 k2 cN cS cZ
      have hbox2 := (hbq.out.block Q (lt_of_block f2'.out)).trans f2'.out
      obtain ⟨m1, m2, m3, m4⟩ := world_cells hbox2
      have hZ2 : (Sort.grow (redrawn u1 dq) osq).cell? ⟨Z, 1, none⟩ = some (.slice ro x.recs.length rc) := (World.cell?_of_block (hbq.out.block Z (World.block_lt_of_cell? u1 _ z1))).trans z1
      have hbox2' := Lib.hid hbox2
      clear hbox2 z1 z2
      generalize Sort.grow (redrawn u1 dq) osq = u2 at *
      go_wp2_with fail
      go_ret
      refine ⟨rfl, 1 - a, 1 - b, e + 1, N, x.recs, [], Nat.le_refl _, by simp only [List.length_nil]; omega, ?_⟩
      have e1 : ((e + 1 : Nat) : Int) = (e : Int) + 1 := by omega
      have hsC : Sess n S (1 - a) (1 - b) ((e + 1 : Nat) : Int) x.recs (checkX X S a b e x.recs) := by
        have h1 := hp1'.out.sess.check x.recs (by rw [hNd'.out]; exact hfit'.out) (by omega)
        unfold checkX
        rw [e1]
        exact h1
      obtain ⟨b1, _, b3, _⟩ := setcells_box (cv' := .slice ro x.recs.length rc) (mv' := .slice none 0 0) hbox2'.out
      have hQ1 := lt_of_block f2'.out
      have hin : StrsIn u2 (.slice ro x.recs.length rc) x.recs ∧ (0 < x.recs.length → ∀ q, sBlock (.slice ro x.recs.length rc) = some q → q < w.heap.size) := under_in (hx'.out.below (f8'.out.trans (hbq.out.mono f8'.out.size)))
      have hfin := settle (P := P) (hl1'.out.below hbq.out) f1'.out hp1'.out.boxQ f3'.out p2'.out hsC hNd'.out.symm (by rw [p3'.out]; exact Nat.zero_le _) hin.1 (fun h0 q hq => by
        have g1 := hin.2 h0 q hq
        have g2 := hp1'.out.boxQ
        have g3 := f8'.out.size
        have g4 := hbq.out.size
        exact ⟨by omega, fun e1 => by have := f1'.out q e1; omega, by omega⟩) (f8'.out.trans (hbq.out.mono f8'.out.size)) b3 b1
      exact ⟨_, _, _, _, _, _, _, hfin⟩
  · rw [check_full (e := e) (b := b) (a := a) (t := t) hfine.out hX8 hSX'.out x.recs hfit] at hC
    go_enter Try.func31, Try.ntmps31
    go_upto_region 1 with fail
    rw [← hu'.out]
    generalize W.alloc (.cells x.cells 49) = W1 at *
    generalize W.heap.size = Z at *
    clear hu'
    go_wp2_with (first | (go_at_call 29; refine he0.out.mono ?_; rintro e9 _ ⟨rfl, rfl⟩))
    go_region_law (first | (go_simp; go_at_call 23; refine (hC.out _ (by repeat (first | exact Below.refl _ _ | apply bl_drew))).mono ?_; rintro e9 u1 ⟨pv1, rfl, hl1, hk1, hf1⟩))
    all_goals
      obtain ⟨f1, f2, f3, f4, f5, f6, f7, f8⟩ := (hp1'.out.quiet (by repeat (first | exact Below.refl _ _ | apply bl_drew))).turn hl1 hk1 hf1
      have hq1 : Hid (SyPart w Q L D g n S a b e t R1 R2 P u1 pv1 st X cv mv nv fl) := ⟨hl1, f1, f2, hp1'.out.boxQ, f3, hp1'.out.fine, hp1'.out.sess, hp1'.out.ht, hp1'.out.pend, f4, f5, f6, hp1'.out.moreQ, f7, f8⟩
      have hZ1 := kept_block hk1 (by repeat (first | exact Below.refl _ _ | apply bl_drew)) hbox'.out (fun e1 => hZb.out Z e1 rfl)
      have z1 : u1.cell? ⟨Z, 1, none⟩ = some (.slice ro x.recs.length rc) := (cell_of_row _ _ _ _ _ _ hZ1).trans rfl
      have z2 : u1.cell? ⟨Q, 0, none⟩ = some (.pointer (some ⟨D, 0, none⟩)) := (cell_of_row _ _ _ _ _ _ f2).trans rfl
      have hxs := (hx'.out.below f8).mono f8.size
      have hNn : needN x.recs ≤ 10000 := by have := needN_le x.recs hr65'.out; omega
      have hn1 := hsec.out.1
      have hn2 := hsec.out.2
      have hneed : Hid (∀ u, Below u1.heap.size u1 u → Calls Try.prog 18 #[.slice ro x.recs.length rc] u fun e w' => e = .returned (.int .i64 (needN x.recs)) ∧ Below u.heap.size u w') :=
        fun u hb => need_walk u _ x.recs ((hxs.below hb).mono hb.size) hr65'.out (by omega)
      have hsecs : Hid (∀ u, Below u1.heap.size u1 u → Calls Try.prog 52 #[.pointer (some ⟨D, 0, none⟩)] u fun e w' => e = .returned (.int .i64 n) ∧ Below u.heap.size u w') :=
        fun u hb => (sectors_any u (hl1.below hb).disk).mono (fun _ _ h => by obtain ⟨rfl, rfl⟩ := h; exact ⟨by rw [hdl.out], Below.refl _ _⟩)
      have hsize : Hid (∀ u, Below u1.heap.size u1 u → Calls Try.prog 16 #[.int .i64 n] u fun e w' => e = .returned (.int .i64 S) ∧ Below u.heap.size u w') :=
        fun u hb => (rsize_any u n (by omega) (by omega)).mono (fun _ _ h => by obtain ⟨rfl, rfl⟩ := h; exact ⟨by rw [hSn'.out], Below.refl _ _⟩)
      have k1 := cell_regrown z1
      have k2 := cell_regrown z2
      have cN : ∀ d os, Calls Try.prog 18 #[.slice ro x.recs.length rc] (Sort.grow (redrawn u1 d) os) fun e w'' => e = .returned (.int .i64 (needN x.recs)) ∧ ∃ p : Regrown, w'' = Sort.grow (redrawn u1 p.d) p.os := fun d os => Calls.regrown_of (hneed.out _ (below_regrown u1 d os))
      have cS : ∀ d os, Calls Try.prog 52 #[.pointer (some ⟨D, 0, none⟩)] (Sort.grow (redrawn u1 d) os) fun e w'' => e = .returned (.int .i64 n) ∧ ∃ p : Regrown, w'' = Sort.grow (redrawn u1 p.d) p.os := fun d os => Calls.regrown_of (hsecs.out _ (below_regrown u1 d os))
      have cZ : ∀ d os, Calls Try.prog 16 #[.int .i64 n] (Sort.grow (redrawn u1 d) os) fun e w'' => e = .returned (.int .i64 S) ∧ ∃ p : Regrown, w'' = Sort.grow (redrawn u1 p.d) p.os := fun d os => Calls.regrown_of (hsize.out _ (below_regrown u1 d os))
      have hfitN : (S : Int) < (needN x.recs : Int) := by omega
      have hSn1 := Lib.hid hSn'
      clear f1 f2 f3 f4 f5 f6 f7 f8 hl1 hk1 hf1 hxs hC he0 y0 y1 d1 hZ1 hneed hsecs hsize hmv
      generalize hNd : needN x.recs = N at *
      have hNd' := Lib.hid hNd
      clear hNd
      go_upto_region 35 with fail
      refine wp_region_quiet_below (by kernel_rfl) (by kernel_rfl) ?_
      repeat (go_big_quiet_step ((first | (go_at_call 18; exact cN _ _) | (go_at_call 52; exact cS _ _) | (go_at_call 16; exact cZ _ _))))
      refine wpQuiet_nil ?_
      intro _ hw'
      obtain ⟨⟨dq, osq⟩, hw''⟩ := hw'
      subst hw''
      have hbq := Lib.hid (below_regrown u1 dq osq)
      clear k1 k2 cN cS cZ
      have hq2 := Lib.hid (hq1.out.quiet hbq.out)
      clear z1 z2
      generalize Sort.grow (redrawn u1 dq) osq = u2 at *
      go_wp2_with fail
      go_ret
      exact ⟨rfl, a, b, e, t, R1, R2, by omega, by omega, _, _, _, _, _, _, _, hq2.out⟩
end Go.Proofs.Ytlhnhhjpjkgogaa.wl
