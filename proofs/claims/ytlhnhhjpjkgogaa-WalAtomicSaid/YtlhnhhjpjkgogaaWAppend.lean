/- The walks of Append and Sync. -/
import Derived.Test.YtlhnhhjpjkgogaaWOps
namespace Go.Proofs.Ytlhnhhjpjkgogaa.wl
open Go.RowKit Go.Proofs.Ytlhnhhjpjkgogaa.agg Go.Proofs.Ytlhnhhjpjkgogaa.dk
set_option linter.unusedSimpArgs false
set_option linter.unusedVariables false

/-- Sync, as a value: the disk, the log, the error. -/
def syncLg (st : St) (l : Lg) : St × Lg × Int :=
  if l.failed ≠ 0 then (st, l, 9) else (st.flush.1, if st.flush.2 = 0 then l else { l with failed := st.flush.2 }, st.flush.2)
/-- Append, as a value. -/
def appendLg (st : St) (l : Lg) (r : ByteArray) : St × Lg × Int :=
  if l.failed ≠ 0 then (st, l, 9)
  else if 65536 < r.size ∨ sizeOf' st - l.fin < nfr r then (st, l, 8)
  else
    ((writes st (placed st l.area (framesOf r l.epoch l.fin))).1,
      if (writes st (placed st l.area (framesOf r l.epoch l.fin))).2 = 0 then { l with fin := l.fin + nfr r } else { l with failed := (writes st (placed st l.area (framesOf r l.epoch l.fin))).2 },
      (writes st (placed st l.area (framesOf r l.epoch l.fin))).2)
def LogEnd (w : World) (L D g : Nat) (pv : Value) (z : St × Lg × Int) (e : Ending) (w' : World) : Prop :=
  ∃ pv', e = .returned (.int .i64 z.2.2) ∧ LogIn w' L D g pv' z.1 z.2.1 ∧ Kept (lfoot L D g pv) w w' ∧ Fresh w pv pv'

set_option maxRecDepth 100000 in
set_option maxHeartbeats 1000000 in
theorem sync_walk {w : World} {L D g : Nat} {pv : Value} {st : St} {l : Lg} (h : LogIn w L D g pv st l) (hpl : st.pend.length < 1000000) :
    Calls Try.prog 21 #[.pointer (some ⟨L, 0, none⟩)] w (LogEnd w L D g pv (syncLg st l)) := by
  obtain ⟨c0, c1, c2, c3, c4, c5⟩ := h.cell
  have hh := Lib.hid h
  clear h c1 c2 c3 c4
  by_cases hf : l.failed = 0
  · have hall : Hid (syncLg st l = (st.flush.1, if st.flush.2 = 0 then l else { l with failed := st.flush.2 }, st.flush.2)) := by
      unfold syncLg
      rw [if_neg (by simp [hf])]
      exact rfl
    rw [hf] at c5
    have hf' := Lib.hid hf
    clear hf
    go_enter Try.func21, Try.ntmps21
    go_wp2_with (first
      | (go_at_call 42; refine (flush_any _ hh.out.disk hpl).mono ?_; rintro e4 u4 ⟨rfl, pv4, hd4, hk4, hf4⟩; have hl4 := Lib.hid (hh.out.turn hd4 hk4 hf4); have hk4' := Lib.hid hk4; have hf4' := Lib.hid hf4; clear hk4 hf4 hd4)
      | (go_at_call 48; refine (fail_any hl4.out _).mono ?_; rintro e5 u5 ⟨rfl, hl5, hk5⟩))
    go_ret
    exact ⟨pv4, by rw [hall.out]; rfl, by rw [hall.out]; exact hl5, lkept_trans (lkept hk4'.out) hf4'.out hk5, hf4'.out⟩
  · have hall : Hid (syncLg st l = (st, l, 9)) := by
      unfold syncLg
      rw [if_pos hf]
      exact rfl
    have hne : (l.failed == 0) = false := by simpa using hf
    clear hf
    generalize l.failed = fl at *
    go_enter Try.func21, Try.ntmps21
    go_wp2
    go_ret
    exact ⟨pv, by rw [hall.out]; rfl, by rw [hall.out]; exact hh.out, Kept.refl _ _, fresh_same _ _⟩

set_option maxRecDepth 100000 in
set_option maxHeartbeats 2000000 in
theorem append_walk {w : World} {L D g : Nat} {pv : Value} {st : St} {l : Lg} (h : LogIn w L D g pv st l) (r : ByteArray) (hr : r.size ≤ 9223372036854775807) (ha : l.area = 0 ∨ l.area = 1) (hfn : 0 ≤ l.fin ∧ l.fin ≤ 900000) (hpl : st.pend.length < 900000) :
    Calls Try.prog 17 #[.pointer (some ⟨L, 0, none⟩), .string r] w (LogEnd w L D g pv (appendLg st l r)) := by
  obtain ⟨c0, c1, c2, c3, c4, c5⟩ := h.cell
  have hh := Lib.hid h
  have hsr := size_rng h.disk
  clear h c1 c2 c3 c4
  by_cases hf : l.failed = 0
  · by_cases hbig : 65536 < r.size
    · have hall : Hid (appendLg st l r = (st, l, 8)) := by
        unfold appendLg
        rw [if_neg (by simp [hf]), if_pos (.inl hbig)]
        exact rfl
      have hb1 : (65536 : Int) < r.size := by omega
      rw [hf] at c5
      clear hf hbig
      go_enter Try.func17, Try.ntmps17
      go_wp2
      go_ret
      exact ⟨pv, by rw [hall.out]; rfl, by rw [hall.out]; exact hh.out, Kept.refl _ _, fresh_same _ _⟩
    · have hb1 : ¬ (65536 : Int) < r.size := by omega
      have hr2 : r.size ≤ 65536 := by omega
      by_cases hroom : sizeOf' st - l.fin < nfr r
      · have hall : Hid (appendLg st l r = (st, l, 8)) := by
          unfold appendLg
          rw [if_neg (by simp [hf]), if_pos (.inr hroom)]
          exact rfl
        rw [hf] at c5
        clear hf
        generalize hz : sizeOf' st - l.fin = z at *
        have hz' := Lib.hid hz
        clear hz
        go_enter Try.func17, Try.ntmps17
        go_wp2_with (first
          | (go_at_call 19; refine (nsec_any _ r hr2).mono ?_; rintro e1 u1 ⟨rfl, hb2⟩)
          | (go_at_call 28; refine (free_any (hh.out.below hb2) ⟨hfn.1, by omega⟩).mono ?_; rintro e2 u2 ⟨rfl, hb3⟩; rw [hz'.out]))
        go_ret
        exact ⟨pv, by rw [hall.out]; rfl, by rw [hall.out]; exact (hh.out.below hb2).below hb3, (Kept.of_below hb2).trans (Kept.of_below hb3), fresh_same _ _⟩
      · have hall : Hid (appendLg st l r = ((writes st (placed st l.area (framesOf r l.epoch l.fin))).1,
            if (writes st (placed st l.area (framesOf r l.epoch l.fin))).2 = 0 then { l with fin := l.fin + nfr r } else { l with failed := (writes st (placed st l.area (framesOf r l.epoch l.fin))).2 },
            (writes st (placed st l.area (framesOf r l.epoch l.fin))).2)) := by
          unfold appendLg
          rw [if_neg (by simp [hf]), if_neg (by omega)]
          exact rfl
        have hn4 : nfr r ≤ 1311 := by unfold nfr; omega
        rw [hf] at c5
        have hf' := Lib.hid hf
        clear hf
        generalize hz : sizeOf' st - l.fin = z at *
        have hz' := Lib.hid hz
        clear hz
        go_enter Try.func17, Try.ntmps17
        go_wp2_with (first
          | (go_at_call 19; refine (nsec_any _ r hr2).mono ?_; rintro e1 u1 ⟨rfl, hb2⟩)
          | (go_at_call 28; refine (free_any (hh.out.below hb2) ⟨hfn.1, by omega⟩).mono ?_; rintro e2 u2 ⟨rfl, hb3⟩; rw [hz'.out]))
        have hl3 := Lib.hid ((hh.out.below hb2).below hb3)
        have hk3 := Lib.hid (show Kept (lfoot L D g pv) w u2 from (Kept.of_below hb2).trans (Kept.of_below hb3))
        clear hb2 hb3
        refine wp_region_held_drew (S := fun u => u.cell? ⟨L, 3, none⟩ = some (.int .i64 l.area) ∧ u.cell? ⟨L, 4, none⟩ = some (.int .i64 l.fin)) (by kernel_rfl) ?hS (fun hHeld => ?_)
        case hS => exact ⟨hl3.out.drew.cell.2.2.2.1, hl3.out.drew.cell.2.2.2.2.1⟩
        refine wpAnyH_take (i := 0) (v := .pointer (some ⟨L, 0, none⟩)) rfl (by kernel_rfl) (by kernel_rfl) (by kernel_rfl) (fun _ _ _ h => h) (Or.inl ⟨by rfl, by intro u hu; (try dsimp only at hu); go_simp⟩) hHeld ?_
        try simp only [Act.put, List.getElem_toArray, List.getElem_cons_zero, List.getElem_cons_succ, List.setIfInBounds_toArray, List.set_cons_zero, List.set_cons_succ]
        refine wpAnyH_take (i := 1) (v := .pointer (some ⟨L, 0, none⟩)) rfl (by kernel_rfl) (by kernel_rfl) (by kernel_rfl) (fun _ _ _ h => h) (Or.inl ⟨by rfl, by intro u hu; (try dsimp only at hu); go_simp⟩) hHeld ?_
        try simp only [Act.put, List.getElem_toArray, List.getElem_cons_zero, List.getElem_cons_succ, List.setIfInBounds_toArray, List.set_cons_zero, List.set_cons_succ]
        refine wpAnyH_take (i := 2) (v := .pointer (some ⟨L, 0, none⟩)) rfl (by kernel_rfl) (by kernel_rfl) (by kernel_rfl) (fun _ _ _ h => h) (Or.inl ⟨by rfl, by intro u hu; (try dsimp only at hu); go_simp⟩) hHeld ?_
        try simp only [Act.put, List.getElem_toArray, List.getElem_cons_zero, List.getElem_cons_succ, List.setIfInBounds_toArray, List.set_cons_zero, List.set_cons_succ]
        refine wpAnyH_take (i := 3) (v := .pointer (some ⟨L, 3, none⟩)) rfl (by kernel_rfl) (by kernel_rfl) (by kernel_rfl) (fun _ _ _ h => h) (Or.inl ⟨by rfl, by intro u hu; (try dsimp only at hu); go_simp⟩) hHeld ?_
        try simp only [Act.put, List.getElem_toArray, List.getElem_cons_zero, List.getElem_cons_succ, List.setIfInBounds_toArray, List.set_cons_zero, List.set_cons_succ]
        refine wpAnyH_take (i := 4) (v := .int .i64 l.area) rfl (by kernel_rfl) (by kernel_rfl) (by kernel_rfl) (fun _ _ _ h => h) (Or.inl ⟨by rfl, by intro u hu; (try dsimp only at hu); go_simp⟩) hHeld ?_
        try simp only [Act.put, List.getElem_toArray, List.getElem_cons_zero, List.getElem_cons_succ, List.setIfInBounds_toArray, List.set_cons_zero, List.set_cons_succ]
        refine wpAnyH_take (i := 5) (v := .pointer (some ⟨L, 0, none⟩)) rfl (by kernel_rfl) (by kernel_rfl) (by kernel_rfl) (fun _ _ _ h => h) (Or.inl ⟨by rfl, by intro u hu; (try dsimp only at hu); go_simp⟩) hHeld ?_
        try simp only [Act.put, List.getElem_toArray, List.getElem_cons_zero, List.getElem_cons_succ, List.setIfInBounds_toArray, List.set_cons_zero, List.set_cons_succ]
        refine wpAnyH_take (i := 6) (v := .pointer (some ⟨L, 0, none⟩)) rfl (by kernel_rfl) (by kernel_rfl) (by kernel_rfl) (fun _ _ _ h => h) (Or.inl ⟨by rfl, by intro u hu; (try dsimp only at hu); go_simp⟩) hHeld ?_
        try simp only [Act.put, List.getElem_toArray, List.getElem_cons_zero, List.getElem_cons_succ, List.setIfInBounds_toArray, List.set_cons_zero, List.set_cons_succ]
        refine wpAnyH_take (i := 7) (v := .pointer (some ⟨L, 4, none⟩)) rfl (by kernel_rfl) (by kernel_rfl) (by kernel_rfl) (fun _ _ _ h => h) (Or.inl ⟨by rfl, by intro u hu; (try dsimp only at hu); go_simp⟩) hHeld ?_
        try simp only [Act.put, List.getElem_toArray, List.getElem_cons_zero, List.getElem_cons_succ, List.setIfInBounds_toArray, List.set_cons_zero, List.set_cons_succ]
        refine wpAnyH_take (i := 8) (v := .int .i64 l.fin) rfl (by kernel_rfl) (by kernel_rfl) (by kernel_rfl) (fun _ _ _ h => h) (Or.inl ⟨by rfl, by intro u hu; (try dsimp only at hu); go_simp⟩) hHeld ?_
        try simp only [Act.put, List.getElem_toArray, List.getElem_cons_zero, List.getElem_cons_succ, List.setIfInBounds_toArray, List.set_cons_zero, List.set_cons_succ]
        refine wpAnyH_take (i := 9) (v := .string r) rfl (by kernel_rfl) (by kernel_rfl) (by kernel_rfl) (fun _ _ _ h => h) (Or.inl ⟨by rfl, by intro u hu; (try dsimp only at hu); go_simp⟩) hHeld ?_
        try simp only [Act.put, List.getElem_toArray, List.getElem_cons_zero, List.getElem_cons_succ, List.setIfInBounds_toArray, List.set_cons_zero, List.set_cons_succ]
        refine wpAnyH_ready (rs := [10]) (by kernel_rfl) (by simp) ?_
        refine AllReadyH.cons rfl (fun K hK => ?_) AllReadyH.nil
        rw [if_pos (by rfl)]
        go_simp
        go_at_call 47
        refine (write_walk hl3.out.drew l.area l.fin ha hfn r hr2 hpl).mono ?_
        rintro e3 u3 ⟨pv3, rfl, hl4, hk4, hf4⟩
        generalize hzz : writes st (placed st l.area (framesOf r l.epoch l.fin)) = zz at *
        refine hK.out _ _ ⟨hl4.cell.2.2.2.1, hl4.cell.2.2.2.2.1⟩ (fun hHeld => ?_)
        clear hK K
        try simp only [Act.put, List.getElem_toArray, List.getElem_cons_zero, List.getElem_cons_succ, List.setIfInBounds_toArray, List.set_cons_zero, List.set_cons_succ]
        generalize he0 : (if zz.2 = 0 then l.fin + (nfr r : Int) else l.fin) = e0 at *
        have he0' := Lib.hid he0
        have hzz' := Lib.hid hzz
        clear he0 hzz
        refine wpAnyH_take (i := 11) (v := .tuple #[.int .i64 e0, .int .i64 zz.2]) rfl (by kernel_rfl) (by kernel_rfl) (by kernel_rfl) (fun _ _ _ h => h) (Or.inl ⟨by rfl, by intro u hu; (try dsimp only at hu); go_simp⟩) hHeld ?_
        try simp only [Act.put, List.getElem_toArray, List.getElem_cons_zero, List.getElem_cons_succ, List.setIfInBounds_toArray, List.set_cons_zero, List.set_cons_succ]
        refine wpAnyH_take (i := 12) (v := .int .i64 e0) rfl (by kernel_rfl) (by kernel_rfl) (by kernel_rfl) (fun _ _ _ h => h) (Or.inl ⟨by rfl, by intro u hu; (try dsimp only at hu); go_simp⟩) hHeld ?_
        try simp only [Act.put, List.getElem_toArray, List.getElem_cons_zero, List.getElem_cons_succ, List.setIfInBounds_toArray, List.set_cons_zero, List.set_cons_succ]
        refine wpAnyH_take (i := 13) (v := .int .i64 zz.2) rfl (by kernel_rfl) (by kernel_rfl) (by kernel_rfl) (fun _ _ _ h => h) (Or.inl ⟨by rfl, by intro u hu; (try dsimp only at hu); go_simp⟩) hHeld ?_
        try simp only [Act.put, List.getElem_toArray, List.getElem_cons_zero, List.getElem_cons_succ, List.setIfInBounds_toArray, List.set_cons_zero, List.set_cons_succ]
        refine wpAnyH_take (i := 14) (v := .int .i64 e0) rfl (by kernel_rfl) (by kernel_rfl) (by kernel_rfl) (fun _ _ _ h => h) (Or.inl ⟨by rfl, by intro u hu; (try dsimp only at hu); go_simp⟩) hHeld ?_
        try simp only [Act.put, List.getElem_toArray, List.getElem_cons_zero, List.getElem_cons_succ, List.setIfInBounds_toArray, List.set_cons_zero, List.set_cons_succ]
        refine wpAnyH_take (i := 15) (v := .int .i64 zz.2) rfl (by kernel_rfl) (by kernel_rfl) (by kernel_rfl) (fun _ _ _ h => h) (Or.inl ⟨by rfl, by intro u hu; (try dsimp only at hu); go_simp⟩) hHeld ?_
        try simp only [Act.put, List.getElem_toArray, List.getElem_cons_zero, List.getElem_cons_succ, List.setIfInBounds_toArray, List.set_cons_zero, List.set_cons_succ]
        refine wpAnyH_done (by kernel_rfl) ?_ _
        have hl5 := hl4.put 4 (.int .i64 e0) (l' := { l with fin := e0 }) rfl
        obtain ⟨d0, d1, d2, d3, d4, d5⟩ := hl4.cell
        have fr4 := hl4.free 4
        have hl6 := Lib.hid hl5
        have hk5 := Lib.hid (lkept_trans hk3.out (fresh_same _ _) ((Kept.drew (F := lfoot L D g pv) u2).trans hk4))
        have hf5 : Hid (Fresh w pv pv3) := fun i hi => by
          rcases hf4 i hi with e | e
          · exact .inl e
          · exact .inr (Nat.le_trans hk3.out.size e)
        clear hl5 hl4 hHeld hk4 hf4 d0 d1 d2 d3 d5
        go_wp2_with (go_at_call 48; refine (fail_any hl6.out zz.2).mono ?_; rintro e5 u5 ⟨rfl, hl7, hk7⟩)
        go_ret
        refine ⟨pv3, by rw [hall.out]; rfl, ?_, ?_, hf5.out⟩
        · rw [hall.out]
          have e9 : (if zz.2 = 0 then { l with fin := e0 } else { ({ l with fin := e0 } : Lg) with failed := zz.2 }) = (if zz.2 = 0 then { l with fin := l.fin + (nfr r : Int) } else { l with failed := zz.2 }) := by
            rw [← he0'.out]
            by_cases h0 : zz.2 = 0
            · simp [h0]
            · simp [h0]
          rw [← e9]
          exact hl7
        · exact lkept_trans hk5.out hf5.out ((Kept.setCell (F := lfoot L D g pv3) u3 (a := ⟨L, 4, none⟩) (.inl rfl) _).trans hk7)
  · have hall : Hid (appendLg st l r = (st, l, 9)) := by
      unfold appendLg
      rw [if_pos hf]
      exact rfl
    have hne : (l.failed == 0) = false := by simpa using hf
    clear hf
    generalize l.failed = fl at *
    go_enter Try.func17, Try.ntmps17
    go_wp2
    go_ret
    exact ⟨pv, by rw [hall.out]; rfl, by rw [hall.out]; exact hh.out, Kept.refl _ _, fresh_same _ _⟩
end Go.Proofs.Ytlhnhhjpjkgogaa.wl
