/- The walk of slices.Contains on diagnostics. -/
import Derived.Test.YthggagophcnkfaaGreatDoorM12
namespace Go.Proofs.YthggagophcnkfaaGreatDoor.px
open Go.RowKit Go.Proofs.YthggagophcnkfaaGreatDoor.agg Go.Proofs.YthggagophcnkfaaGreatDoor.sx Go.Proofs.YthggagophcnkfaaGreatDoor.lx Go.Proofs.YthggagophcnkfaaGreatDoor.so
set_option linter.unusedSimpArgs false
set_option linter.unusedVariables false

set_option maxRecDepth 100000 in
set_option maxHeartbeats 2000000 in
theorem indexDg_walk (w : World) (v : Value) (l : List Dg) (d : Dg) (h : DgsIn w v l) (hl : l.length < 1000000) (hd : d ∈ l) :
    Calls Tryz.prog 42 #[v, .agg #[.int .i64 d.code, .int .i64 d.at_, .int .i64 d.to, .string d.text]] w fun e w' => (∃ r : Nat, e = .returned (.int .i64 r)) ∧ Below w.heap.size w w' := by
  have hh := Lib.hid h
  obtain ⟨ao, ca, rfl, hc⟩ := h
  have hd' := Lib.hid hd
  clear hc hd
  go_enter Tryz.func42, Tryz.ntmps42
  go_wp2_with fail
  have hb0 : Hid (Below w.heap.size w (w.alloc (.cells #[.int .i64 d.code, .int .i64 d.at_, .int .i64 d.to, .string d.text] 34))) := (Below.refl _ w).alloc (Nat.le_refl _) _
  have hx0 : Hid ((w.alloc (.cells #[.int .i64 d.code, .int .i64 d.at_, .int .i64 d.to, .string d.text] 34)).heap[w.heap.size]? = some (.cells #[.int .i64 d.code, .int .i64 d.at_, .int .i64 d.to, .string d.text] 34 (0, 0))) := (MapKept.heap_alloc w _).1
  go_loopw [8] (fun i wr => ∃ j : Nat, j ≤ l.length ∧ i = .int .i64 j ∧ (∀ k (hk : k < l.length), k < j → l[k] ≠ d) ∧ Hid (Below w.heap.size w wr) ∧ Hid (wr.heap[w.heap.size]? = some (.cells #[.int .i64 d.code, .int .i64 d.at_, .int .i64 d.to, .string d.text] 34 (0, 0)))) (fun i _ => l.length - (intOf i).toNat)
  case atStart => exact ⟨0, Nat.zero_le _, rfl, fun k _ h0 => by omega, hb0, hx0⟩
  case round =>
    clear hb0 hx0
    obtain ⟨j, hj, rfl, hn, hb, hx⟩ := hrel
    have hn' := Lib.hid hn
    clear hn
    by_cases hlt : j < l.length
    · obtain ⟨ao3, cp3, e0, hc⟩ := hh.out.below hb.out
      obtain ⟨rfl, rfl⟩ : ao = ao3 ∧ ca = cp3 := by simpa using e0
      obtain ⟨b1, o1, rfl, hb1, r1⟩ := hc j hlt
      clear hc e0
      have r1' := Lib.hid r1
      clear r1
      by_cases he : l[j] = d
      · rw [he] at r1'
        clear he
        go_upto_region 4 with fail
        refine wp_region_held_drew (S := fun u => Below wr.heap.size wr u) (by kernel_rfl) (Below.refl _ _).drew (fun hHeld => ?_)
        refine wpAnyH_take (i := 0) (v := .agg #[.int .i64 d.code, .int .i64 d.at_, .int .i64 d.to, .string d.text]) rfl (by kernel_rfl) (by kernel_rfl) (by kernel_rfl) (fun _ _ _ h => h) (yieldsIf_load_mid (by rfl) _ _ rfl _ _ rfl [.int .i64 d.code, .int .i64 d.at_, .int .i64 d.to, .string d.text] _ (fun _ h => range_below (rangeAt_whole hx.out) (lt_of_block hx.out) h) Tryz.underlying34 rfl info_dg4) hHeld ?_
        try simp only [Act.put, List.getElem_toArray, List.getElem_cons_zero, List.getElem_cons_succ, List.setIfInBounds_toArray, List.set_cons_zero, List.set_cons_succ]
        refine wpAnyH_take (i := 1) (v := .slice (some ⟨b1, o1, none⟩) l.length ca) rfl (by kernel_rfl) (by kernel_rfl) (by kernel_rfl) (fun _ _ _ h => h) (Or.inl ⟨by rfl, by intro u hu; (try dsimp only at hu); go_simp⟩) hHeld ?_
        try simp only [Act.put, List.getElem_toArray, List.getElem_cons_zero, List.getElem_cons_succ, List.setIfInBounds_toArray, List.set_cons_zero, List.set_cons_succ]
        refine wpAnyH_take (i := 2) (v := .int .i64 j) rfl (by kernel_rfl) (by kernel_rfl) (by kernel_rfl) (fun _ _ _ h => h) (Or.inl ⟨by rfl, by intro u hu; (try dsimp only at hu); go_simp⟩) hHeld ?_
        try simp only [Act.put, List.getElem_toArray, List.getElem_cons_zero, List.getElem_cons_succ, List.setIfInBounds_toArray, List.set_cons_zero, List.set_cons_succ]
        refine wpAnyH_take (i := 3) (v := .pointer (some ⟨b1, o1 + j * 4, none⟩)) rfl (by kernel_rfl) (by kernel_rfl) (by kernel_rfl) (fun _ _ _ h => h) (Or.inl ⟨by rfl, by intro u hu; (try dsimp only at hu); go_simp⟩) hHeld ?_
        try simp only [Act.put, List.getElem_toArray, List.getElem_cons_zero, List.getElem_cons_succ, List.setIfInBounds_toArray, List.set_cons_zero, List.set_cons_succ]
        refine wpAnyH_take (i := 4) (v := .agg #[.int .i64 d.code, .int .i64 d.at_, .int .i64 d.to, .string d.text]) rfl (by kernel_rfl) (by kernel_rfl) (by kernel_rfl) (fun _ _ _ h => h) (yieldsIf_load_mid (by rfl) _ _ rfl _ _ rfl [.int .i64 d.code, .int .i64 d.at_, .int .i64 d.to, .string d.text] _ (fun _ h => range_below r1'.out hb1 h) Tryz.underlying34 rfl info_dg4) hHeld ?_
        try simp only [Act.put, List.getElem_toArray, List.getElem_cons_zero, List.getElem_cons_succ, List.setIfInBounds_toArray, List.set_cons_zero, List.set_cons_succ]
        refine wpAnyH_take (i := 5) (v := .bool true) rfl (by kernel_rfl) (by kernel_rfl) (by kernel_rfl) (fun _ _ _ h => h) (Or.inl ⟨by rfl, by intro u hu; (try dsimp only at hu); go_simp⟩) hHeld ?_
        try simp only [Act.put, List.getElem_toArray, List.getElem_cons_zero, List.getElem_cons_succ, List.setIfInBounds_toArray, List.set_cons_zero, List.set_cons_succ]
        refine wpAnyH_done (by kernel_rfl) ?_ _
        clear hHeld
        go_wp2
        go_ret
        exact ⟨⟨j, rfl⟩, hb.out.drew⟩
      · have hne : Hid (∀ k (hk : k < l.length), k < j + 1 → l[k] ≠ d) := fun k hk hkj => by
          by_cases e : k = j
          · subst e; exact he
          · exact hn'.out k hk (by omega)
        generalize l[j] = f at *
        go_upto_region 4 with fail
        refine wp_region_held_drew (S := fun u => Below wr.heap.size wr u) (by kernel_rfl) (Below.refl _ _).drew (fun hHeld => ?_)
        refine wpAnyH_take (i := 0) (v := .agg #[.int .i64 d.code, .int .i64 d.at_, .int .i64 d.to, .string d.text]) rfl (by kernel_rfl) (by kernel_rfl) (by kernel_rfl) (fun _ _ _ h => h) (yieldsIf_load_mid (by rfl) _ _ rfl _ _ rfl [.int .i64 d.code, .int .i64 d.at_, .int .i64 d.to, .string d.text] _ (fun _ h => range_below (rangeAt_whole hx.out) (lt_of_block hx.out) h) Tryz.underlying34 rfl info_dg4) hHeld ?_
        try simp only [Act.put, List.getElem_toArray, List.getElem_cons_zero, List.getElem_cons_succ, List.setIfInBounds_toArray, List.set_cons_zero, List.set_cons_succ]
        refine wpAnyH_take (i := 1) (v := .slice (some ⟨b1, o1, none⟩) l.length ca) rfl (by kernel_rfl) (by kernel_rfl) (by kernel_rfl) (fun _ _ _ h => h) (Or.inl ⟨by rfl, by intro u hu; (try dsimp only at hu); go_simp⟩) hHeld ?_
        try simp only [Act.put, List.getElem_toArray, List.getElem_cons_zero, List.getElem_cons_succ, List.setIfInBounds_toArray, List.set_cons_zero, List.set_cons_succ]
        refine wpAnyH_take (i := 2) (v := .int .i64 j) rfl (by kernel_rfl) (by kernel_rfl) (by kernel_rfl) (fun _ _ _ h => h) (Or.inl ⟨by rfl, by intro u hu; (try dsimp only at hu); go_simp⟩) hHeld ?_
        try simp only [Act.put, List.getElem_toArray, List.getElem_cons_zero, List.getElem_cons_succ, List.setIfInBounds_toArray, List.set_cons_zero, List.set_cons_succ]
        refine wpAnyH_take (i := 3) (v := .pointer (some ⟨b1, o1 + j * 4, none⟩)) rfl (by kernel_rfl) (by kernel_rfl) (by kernel_rfl) (fun _ _ _ h => h) (Or.inl ⟨by rfl, by intro u hu; (try dsimp only at hu); go_simp⟩) hHeld ?_
        try simp only [Act.put, List.getElem_toArray, List.getElem_cons_zero, List.getElem_cons_succ, List.setIfInBounds_toArray, List.set_cons_zero, List.set_cons_succ]
        refine wpAnyH_take (i := 4) (v := .agg #[.int .i64 f.code, .int .i64 f.at_, .int .i64 f.to, .string f.text]) rfl (by kernel_rfl) (by kernel_rfl) (by kernel_rfl) (fun _ _ _ h => h) (yieldsIf_load_mid (by rfl) _ _ rfl _ _ rfl [.int .i64 f.code, .int .i64 f.at_, .int .i64 f.to, .string f.text] _ (fun _ h => range_below r1'.out hb1 h) Tryz.underlying34 rfl info_dg4) hHeld ?_
        try simp only [Act.put, List.getElem_toArray, List.getElem_cons_zero, List.getElem_cons_succ, List.setIfInBounds_toArray, List.set_cons_zero, List.set_cons_succ]
        have hq := beq_str d.text f.text
        have hcs : Hid (¬ (d.code = f.code ∧ d.at_ = f.at_ ∧ d.to = f.to ∧ d.text.toList = f.text.toList)) := by
          rintro ⟨h1, h2, h3, h4⟩
          rw [h4] at hq
          simp only [beq_self_eq_true, Bool.true_eq, decide_eq_true_eq] at hq
          refine he ?_
          obtain ⟨a1, a2, a3, a4⟩ := d
          obtain ⟨b1, b2, b3, b4⟩ := f
          simp_all
        clear hq he
        refine wpAnyH_take (i := 5) (v := .bool false) rfl (by kernel_rfl) (by kernel_rfl) (by kernel_rfl) (fun _ _ _ h => h) (Or.inl ⟨by rfl, by intro u hu; go_simp; exact fun h1 h2 h3 h4 => hcs.out ⟨h1, h2, h3, h4⟩⟩) hHeld ?_
        try simp only [Act.put, List.getElem_toArray, List.getElem_cons_zero, List.getElem_cons_succ, List.setIfInBounds_toArray, List.set_cons_zero, List.set_cons_succ]
        refine wpAnyH_done (by kernel_rfl) ?_ _
        clear hHeld
        go_wp2
        go_roundw
        case rel => exact ⟨j + 1, by omega, by go_num, hne.out, hb.out.drew, hx⟩
        case measure => simp [intOf]; omega
    · exfalso
      obtain ⟨k, hk, e⟩ := List.mem_iff_getElem.1 hd'.out
      exact hn'.out k hk (by omega) e
theorem containsDg_walk (w : World) (v : Value) (l : List Dg) (d : Dg) (h : DgsIn w v l) (hl : l.length < 1000000) (hd : d ∈ l) :
    Calls Tryz.prog 15 #[v, .agg #[.int .i64 d.code, .int .i64 d.at_, .int .i64 d.to, .string d.text]] w fun e w' => e = .returned (.bool true) ∧ Below w.heap.size w w' := by
  have hi := Lib.hid (fun (W : World) (hb : Below w.heap.size w W) => indexDg_walk W v l d (h.below hb) hl hd)
  obtain ⟨ao, ca, rfl, hc⟩ := h
  clear hc hd
  go_enter Tryz.func15, Tryz.ntmps15
  go_wp2_with (go_at_call 42; refine (hi.out _ (by repeat (first | exact Below.refl _ _ | apply bl_drew | apply bl_alloc))).mono ?_; rintro e w1 ⟨⟨r, rfl⟩, k1⟩)
  go_ret
  exact ⟨rfl, ((Below.refl _ w).alloc (Nat.le_refl _) _).trans (k1.mono (by simp))⟩
end Go.Proofs.YthggagophcnkfaaGreatDoor.px
