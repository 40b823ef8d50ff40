/- The walk of confluentlaw47.DiskOperations. -/
import Derived.Test.YtakehkoicinlbaaRSame
import Derived.Test.YtakehkoicinlbaaRDoAny
import Derived.Test.YtakehkoicinlbaaROpsAt
import Derived.Deep.RegionHeld3
namespace Go.Proofs.Ytakehkoicinlbaa.dk
open Go.RowKit Go.Proofs.Ytakehkoicinlbaa.agg

attribute [local go_sem ↓] alloc_state load_state store_state
attribute [local go_sem] sec_fold one_zrow cut_row over_row' over_zrow one_row size_row size_zrow row_0 row_1 row_2 row_3 row_4 row_5 row_6 row_0' row_1' row_2' row_3' row_4' row_5' row_6' set_row2 set_row3 set_row4 set_row5 set_row6

set_option maxRecDepth 20000 in
set_option maxHeartbeats 4000000 in
theorem ops_walk (w : World) (sectors : Int) (lv : Value) (l : List ActV) (hl : ActsIn w.heap.size w lv l) (hlm : l.length ≤ 9223372036854775807) :
    Calls Try.prog 7 #[.int .i64 sectors, lv] w fun e w' => e = .returned (.bool true) ∧ Below w.heap.size w w' := by
  obtain ⟨al, lcap, rfl, hat⟩ := hl.at_
  go_enter Try.func7, Try.ntmps7
  go_wp2_with fail
  refine (awake_calls w).mono ?_
  rintro e w1 ⟨rfl, B1⟩
  go_wp2_with fail
  refine (few_any w.heap.size _ _ l (hl.below B1) 40 hlm).mono ?_
  rintro e w2 ⟨rfl, rfl⟩
  by_cases hfew : fewB l 40 = true
  · by_cases h8 : 8 < sectors ∧ sectors ≤ 2048
    · obtain ⟨h8, h9⟩ := h8
      go_wp2
      go_ret
      exact ⟨rfl, B1⟩
    · by_cases hno : sectors < 1 ∨ 2048 < sectors
      · have hdis : (8 < sectors ∧ ¬ sectors ≤ 2048) ∨ (¬ 8 < sectors ∧ sectors ≤ 2048) := by omega
        rcases hdis with ⟨h8a, h9a⟩ | ⟨h8a, h9a⟩
        all_goals
          clear h8
          go_wp2_with fail
          refine (new_no sectors hno _).mono ?_
          rintro e w3 ⟨rfl, rfl⟩
          go_wp2_with fail
          refine (rnew_no sectors hno _).mono ?_
          rintro e w4 ⟨rfl, b4⟩
          have hB4 : Below w.heap.size w w4 := B1.trans (b4.mono B1.size)
          go_wp2_with fail
          have hB5 := hB4.alloc hB4.size (.cells (overrow zrow 0 zrow) 55)
          generalize w4.alloc (.cells (overrow zrow 0 zrow) 55) = W0 at *
          clear b4 hB4
          go_loopw [51] (fun i wr => i = .int .i64 0 ∧ Below w.heap.size w wr) (fun _ _ => 0)
          case atStart => exact ⟨rfl, hB5⟩
          case round =>
            obtain ⟨rfl, hBr⟩ := hrel
            by_cases hlt : 0 < l.length
            · obtain ⟨b, o, rfl, hBb, hc⟩ := hat hlt
              have hck : ∀ j u, (acells l[0]).toList[j]? = some u → wr.cell? ⟨b, o + j, none⟩ = some u := fun j u hu => by
                have := (hBr.cell (p := ⟨b, o + 0 * 68 + j, none⟩) hBb).trans (hc 0 hlt j u hu)
                rwa [Nat.zero_mul, Nat.add_zero] at this
              have hxd := hl.data l[0] (List.getElem_mem hlt)
              obtain ⟨xa, xc, hxv, _⟩ := hl.ints l[0] (List.getElem_mem hlt)
              have hone : l[0].svv.oneCell' = true := by rw [hxv]; rfl
              have hz := zact_len
              clear hxv hc hat
              generalize l[0] = x at *
              go_wp2_with (with_reducible refine wpList_load_cells ag_act rfl (.tmp 53) rfl b o rfl (acells x) (by rw [size_acells, hxd]) hck ?_)
              go_ret
              exact ⟨rfl, hBr.alloc hBr.size _⟩
            · go_wp2
              go_ret
              exact ⟨rfl, hBr⟩
      · obtain ⟨m, rfl⟩ := Int.eq_ofNat_of_zero_le (show 0 ≤ sectors by omega)
        have h8a : ¬ 8 < (m : Int) := by omega
        have hm1 : 1 ≤ m := by omega
        have hm8 : m ≤ 8 := by omega
        clear h8 hno
        go_wp2_with fail
        refine (new_any m hm1 (by omega) _).mono ?_
        rintro e w3 ⟨D, g, rfl, hd3, hb3, hD, hg⟩
        go_wp2_with fail
        refine (rnew_own m hm1 (by omega) _).mono ?_
        rintro e w4 ⟨r, rfl, hr4, hb4, ho4⟩
        unfold Ref.val
        have hsb := heap_alloc_new w4 (.cells (r.row (St.new m)) 55)
        have hbq := (Below.refl w4.heap.size w4).alloc (Nat.le_refl _) (.cells (r.row (St.new m)) 55)
        have hlt3 := hd3.lt
        have h34 := hb4.size
        have L3 : Live w1.heap.size D g w1 w3 (.slice none 0 0) (St.new m) := ⟨hd3, ge_foot hD hg, hb3⟩
        have T0 : OpsAt w1.heap.size D g w4.heap.size w1 (w4.alloc (.cells (r.row (St.new m)) 55)) (.slice none 0 0) (St.new m) (St.new m) r :=
          ⟨(L3.quiet (Nat.le_refl _) hb4).quiet (Nat.le_refl _) hbq, hsb, hr4.below hbq, fun hf => by have := hlt3 _ hf; omega, fun k ho hf => by have := hlt3 _ hf; have := ho4 k ho; omega, by have := hb3.size; omega⟩
        have hdl : 1 ≤ (St.new m).dur.length := by simp [St.new]; omega
        have hpl : (St.new m).pend.length ≤ 0 := Nat.le_refl _
        clear hsb hbq hd3 hb3 hD hg hr4 hb4 ho4 hlt3 h34 L3
        go_wp2_with fail
        generalize hsn : St.new m = s0 at *
        clear hsn
        generalize w4.alloc (.cells (r.row s0) 55) = W0 at *
        generalize w4.heap.size = sb at *
        obtain ⟨hf1, hf2⟩ := fewB_true hfew
        clear hfew
        go_loopw [51] (fun i wr => ∃ k : Nat, k ≤ l.length ∧ i = .int .i64 k ∧ ∃ pv st r', OpsAt w1.heap.size D g sb w1 wr pv st st r' ∧ 1 ≤ st.dur.length ∧ st.pend.length ≤ k)
          (fun i _ => l.length - (intOf i).toNat)
        case atStart => exact ⟨0, Nat.zero_le _, rfl, _, s0, r, T0, hdl, hpl⟩
        case round =>
          obtain ⟨k, hk, rfl, pv, st, r', T, hdl', hpl'⟩ := hrel
          clear T0 hdl hpl
          by_cases hlt : k < l.length
          · have hmem : l[k] ∈ l := List.getElem_mem hlt
            obtain ⟨b, o, rfl, hBb, hc⟩ := hat (by omega)
            have hBr : Below w.heap.size w wr := B1.trans (T.live.below.mono B1.size)
            have hck : ∀ j u, (acells l[k]).toList[j]? = some u → wr.cell? ⟨b, o + k * 68 + j, none⟩ = some u := fun j u hu => (hBr.cell (p := ⟨b, o + k * 68 + j, none⟩) hBb).trans (hc k hlt j u hu)
            have hxd := hl.data l[k] hmem
            have hxi := (hl.ints l[k] hmem).below hBr
            have hxs := hf1 l[k] hmem
            have hxi0 := Lib.hid (hl.ints l[k] hmem)
            obtain ⟨xa, xc, hxv, _⟩ := hl.ints l[k] hmem
            have hone : l[k].svv.oneCell' = true := by rw [hxv]; rfl
            have hz := zact_len
            obtain ⟨hq1, hq2⟩ := doit_len st l[k]
            have hm0 := hdl'
            rw [← hq1] at hdl'
            have hfl := T.live.disk.lt
            clear hxv hc hat hmem
            generalize l[k] = x at *
            have Tq := T.quiet (Nat.le_refl _) ((Below.refl wr.heap.size wr).alloc (Nat.le_refl _) (.cells (acells x) 35))
            have hBq : Below w.heap.size w (wr.alloc (.cells (acells x) 35)) := B1.trans (Tq.live.below.mono B1.size)
            have hxq := hxi.below ((Below.refl _ wr).alloc hBr.size (.cells (acells x) 35))
            have hw1s := B1.size
            have hdo := Lib.hid (do_any _ Tq.live.disk x hxd (by omega) (hxq.at (fun q hq => by have := Tq.live.ge q hq; omega)) (by omega))
            have hac := heap_alloc_new wr (.cells (acells x) 35)
            have hD := lt_of_block T.live.disk.blk
            have hxq' := Lib.hid hxq
            clear hxi hxq T
            go_wp2_with (with_reducible refine wpList_load_cells ag_act rfl (.tmp 53) rfl b (o + k * 68) rfl (acells x) (by rw [size_acells, hxd]) hck ?_)
            refine (hdo.out).mono ?_
            rintro e w6 ⟨rfl, hd6⟩
            obtain ⟨pv6, T6⟩ := Tq.done (Nat.le_refl _) hd6
            have hac6 : w6.heap[wr.heap.size]? = some (.cells (acells x) 35 (0, 0)) := by
              obtain ⟨_, _, hkx, _⟩ := hd6
              exact (hkx.block _ (lt_of_block hac) (fun f => by have := hfl _ f; omega)).trans hac
            have hyl := doit_len64r Tq.live.disk x
            have T7 := T6.quiet (Nat.le_refl _) ((Below.refl w6.heap.size w6).alloc (Nat.le_refl _) (.cells (sec (st.doit x).2.1) 23))
            have hac7 := (Below.heap_alloc w6 (.cells (sec (st.doit x).2.1) 23) _ (lt_of_block hac6)).trans hac6
            have hy7 := heap_alloc_new w6 (.cells (sec (st.doit x).2.1) 23)
            have hB7 := B1.trans (T7.live.below.mono B1.size)
            have hq8 := ints_more (hxi0.out.below hB7) hB7.size
            have hdo2 := Lib.hid (rdo_any _ r' st T7.ref hm0 x hxd (by omega) hq8 (by omega))
            have rb7 := rowOf_of T7.box
            have ra7 := rowOf_of hac7
            have hsb7 := lt_of_block T7.box
            clear hd6 Tq T6 hac hac6 hq8 hxq' hB7
            generalize hs1 : st.doit x = s1 at *
            obtain ⟨s1, y, e1⟩ := s1
            have hs1' := Lib.hid hs1
            clear hs1
            simp only at hyl hdl' hq1 hq2 T7 hac7 hy7 rb7 ra7 hsb7
            go_wp2_with fail
            generalize hb11 : w6.heap.size = b11 at *
            clear hb11
            generalize w6.alloc (.cells (sec y) 23) = W7 at *
            refine (hdo2.out).mono ?_
            rintro e w8 ⟨r2, rfl, hr8, hb8, hn8⟩
            unfold Ref.val
            have rs8 := rowOf_of ((hb8.block _ hsb7).trans T7.box)
            have hsb8 := Nat.lt_of_lt_of_le hsb7 hb8.size
            have hq9 := ((Below.refl _ w8).alloc (Nat.le_refl _) (.cells (r2.row s1.ref) 55)).alloc (by simp) (.cells (sec y) 23)
            have T10 := T7.next (Nat.le_refl _) (hb8.trans (hq9.mono hb8.size)) (hr8.below hq9) hn8
            have hy8 := (hq9.block _ (Nat.lt_of_lt_of_le (lt_of_block hy7) hb8.size)).trans ((hb8.block _ (lt_of_block hy7)).trans hy7)
            have hs8 := heap_alloc2_new w8 (.cells (r2.row s1.ref) 55) (.cells (sec y) 23)
            have hne1 : b11 ≠ sb := fun e => by
              have h1 := T7.box
              rw [← e, hy7] at h1
              injection h1 with h1; injection h1 with _ h1; exact absurd h1 (by decide)
            have hne2 : w8.heap.size + 1 ≠ sb := by omega
            have hy10 := (setRow_other ((w8.alloc (.cells (r2.row s1.ref) 55)).alloc (.cells (sec y) 23)) sb b11 (r2.row s1.ref) hne1).trans hy8
            have hs10 := (setRow_other ((w8.alloc (.cells (r2.row s1.ref) 55)).alloc (.cells (sec y) 23)) sb (w8.heap.size + 1) (r2.row s1.ref) hne2).trans hs8
            have hsb9 : sb < w8.heap.size + 1 := by omega
            have hr2' := Lib.hid hq9
            clear hq9 T7 hr8 hb8 hn8 hy8 hs8 hac7 hy7 rb7 ra7 hsb7 hdo2
            go_wp2_with fail
            generalize w8.heap.size + 1 = b14 at *
            have hWe : ((w8.alloc (.cells (r2.row s1.ref) 55)).alloc (.cells (sec y) 23)).setRow sb (r2.row s1.ref) = ((w8.setRow sb (r2.row s1.ref)).alloc (.cells (r2.row s1.ref) 55)).alloc (.cells (sec y) 23) := by
              rw [setRow_alloc_past _ _ _ (by simp; omega), setRow_alloc_past _ _ _ hsb8]
            rw [hWe] at T10 hy10 hs10
            clear hWe rs8 hsb8 hsb9 hne1 hne2 hr2'
            generalize ((w8.setRow sb (r2.row s1.ref)).alloc (.cells (r2.row s1.ref) 55)).alloc (.cells (sec y) 23) = W at *
            have hdS : Hid (∀ u, Below W.heap.size W u → DiskIn u D g pv6 s1) := Lib.hid (fun u hb => (T10.quiet (Nat.le_refl _) hb).live.disk)
            have hrS : Hid (∀ u, Below W.heap.size W u → RefIn u r2 s1.ref) := Lib.hid (fun u hb => (T10.quiet (Nat.le_refl _) hb).ref)
            have hoW : Hid (∀ k, r2.own k → k < W.heap.size) := Lib.hid (fun k hk => T10.ref.own_lt k hk)
            have hS : Hid (∀ u, Below W.heap.size W u → Below W.heap.size W u ∧ u.rangeAt b11 0 (u8s y) ∧ u.rangeAt b14 0 (u8s y) ∧ u.cell? ⟨sb, 0, none⟩ = some (.slice r2.da s1.ref.dur.length r2.dc) ∧ u.cell? ⟨sb, 1, none⟩ = some (.slice r2.pa s1.ref.pend.length r2.pc) ∧ u.cell? ⟨sb, 2, none⟩ = some (.int .i64 s1.ref.left) ∧ u.cell? ⟨sb, 3, none⟩ = some (.bool s1.ref.failed) ∧ u.cell? ⟨sb, 4, none⟩ = some (.int .i64 s1.ref.rd) ∧ u.cell? ⟨sb, 5, none⟩ = some (.int .i64 s1.ref.wr) ∧ u.cell? ⟨sb, 6, none⟩ = some (.int .i64 s1.ref.fl)) := Lib.hid (fun u hb => by
              obtain ⟨c0, c1, c2, c3, c4, c5, c6, _⟩ := row_cells ((T10.quiet (Nat.le_refl _) hb).box)
              exact ⟨hb, range_sec ((hb.block _ (lt_of_block hy10)).trans hy10), range_sec ((hb.block _ (lt_of_block hs10)).trans hs10), c0, c1, c2, c3, c4, c5, c6⟩)
            have hun := Try.underlying23
            have hin : (Try.prog.info? 23).map (·.size) = some (u8s y).length := by rw [length_u8s, hyl]; kernel_rfl
            have hpl1 : s1.pend.length < 1000000 := by omega
            have T10' := Lib.hid T10
            clear T10 hy10 hs10
            refine wp_region_held_drew (S := fun u => Below W.heap.size W u ∧ u.rangeAt b11 0 (u8s y) ∧ u.rangeAt b14 0 (u8s y) ∧ u.cell? ⟨sb, 0, none⟩ = some (.slice r2.da s1.ref.dur.length r2.dc) ∧ u.cell? ⟨sb, 1, none⟩ = some (.slice r2.pa s1.ref.pend.length r2.pc) ∧ u.cell? ⟨sb, 2, none⟩ = some (.int .i64 s1.ref.left) ∧ u.cell? ⟨sb, 3, none⟩ = some (.bool s1.ref.failed) ∧ u.cell? ⟨sb, 4, none⟩ = some (.int .i64 s1.ref.rd) ∧ u.cell? ⟨sb, 5, none⟩ = some (.int .i64 s1.ref.wr) ∧ u.cell? ⟨sb, 6, none⟩ = some (.int .i64 s1.ref.fl)) (by kernel_rfl) (hS.out _ (Below.drew (Below.refl _ _))) (fun hHeld => ?_)
            refine wpAnyH_take (i := 0) (v := .agg (u8s y).toArray) rfl (by kernel_rfl) (by kernel_rfl) (by kernel_rfl) (fun _ _ _ h => h) (yieldsIf_load_mid (by rfl) _ _ rfl _ _ rfl (u8s y) _ (fun _ h => h.2.1) hun rfl hin) hHeld ?_
            try simp only [Act.put, List.getElem_toArray, List.getElem_cons_zero, List.getElem_cons_succ, List.setIfInBounds_toArray, List.set_cons_zero, List.set_cons_succ]
            refine wpAnyH_take (i := 1) (v := .agg (u8s y).toArray) rfl (by kernel_rfl) (by kernel_rfl) (by kernel_rfl) (fun _ _ _ h => h) (yieldsIf_load_mid (by rfl) _ _ rfl _ _ rfl (u8s y) _ (fun _ h => h.2.2.1) hun rfl hin) hHeld ?_
            try simp only [Act.put, List.getElem_toArray, List.getElem_cons_zero, List.getElem_cons_succ, List.setIfInBounds_toArray, List.set_cons_zero, List.set_cons_succ]
            refine wpAnyH_take (i := 2) (v := .bool false) rfl (by kernel_rfl) (by kernel_rfl) (by kernel_rfl) (fun _ _ _ h => h) (Or.inl ⟨by rfl, fun u _ => exec_neq (.tmp 71) (.tmp 72) y rfl rfl hyl⟩) hHeld ?_
            try simp only [Act.put, List.getElem_toArray, List.getElem_cons_zero, List.getElem_cons_succ, List.setIfInBounds_toArray, List.set_cons_zero, List.set_cons_succ]
            refine wpAnyH_take (i := 3) (v := .bool false) rfl (by kernel_rfl) (by kernel_rfl) (by kernel_rfl) (fun _ _ _ h => h) (Or.inl ⟨by rfl, by intro u hu; (try dsimp only at hu); go_simp⟩) hHeld ?_
            try simp only [Act.put, List.getElem_toArray, List.getElem_cons_zero, List.getElem_cons_succ, List.setIfInBounds_toArray, List.set_cons_zero, List.set_cons_succ]
            refine wpAnyH_take (i := 4) (v := .int .i64 e1) rfl (by kernel_rfl) (by kernel_rfl) (by kernel_rfl) (fun _ _ _ h => h) (Or.inl ⟨by rfl, by intro u hu; (try dsimp only at hu); go_simp⟩) hHeld ?_
            try simp only [Act.put, List.getElem_toArray, List.getElem_cons_zero, List.getElem_cons_succ, List.setIfInBounds_toArray, List.set_cons_zero, List.set_cons_succ]
            refine wpAnyH_take (i := 5) (v := .int .i64 e1) rfl (by kernel_rfl) (by kernel_rfl) (by kernel_rfl) (fun _ _ _ h => h) (Or.inl ⟨by rfl, by intro u hu; (try dsimp only at hu); go_simp⟩) hHeld ?_
            try simp only [Act.put, List.getElem_toArray, List.getElem_cons_zero, List.getElem_cons_succ, List.setIfInBounds_toArray, List.set_cons_zero, List.set_cons_succ]
            refine wpAnyH_take (i := 6) (v := .bool false) rfl (by kernel_rfl) (by kernel_rfl) (by kernel_rfl) (fun _ _ _ h => h) (Or.inl ⟨by rfl, by intro u hu; (try dsimp only at hu); go_simp⟩) hHeld ?_
            try simp only [Act.put, List.getElem_toArray, List.getElem_cons_zero, List.getElem_cons_succ, List.setIfInBounds_toArray, List.set_cons_zero, List.set_cons_succ]
            refine wpAnyH_take (i := 7) (v := .bool false) rfl (by kernel_rfl) (by kernel_rfl) (by kernel_rfl) (fun _ _ _ h => h) (Or.inl ⟨by rfl, by intro u hu; (try dsimp only at hu); go_simp⟩) hHeld ?_
            try simp only [Act.put, List.getElem_toArray, List.getElem_cons_zero, List.getElem_cons_succ, List.setIfInBounds_toArray, List.set_cons_zero, List.set_cons_succ]
            refine wpAnyH_take (i := 8) (v := .bool false) rfl (by kernel_rfl) (by kernel_rfl) (by kernel_rfl) (fun _ _ _ h => h) (Or.inl ⟨by rfl, by intro u hu; (try dsimp only at hu); go_simp⟩) hHeld ?_
            try simp only [Act.put, List.getElem_toArray, List.getElem_cons_zero, List.getElem_cons_succ, List.setIfInBounds_toArray, List.set_cons_zero, List.set_cons_succ]
            refine wpAnyH_take (i := 9) (v := .pointer (some ⟨D, 0, none⟩)) rfl (by kernel_rfl) (by kernel_rfl) (by kernel_rfl) (fun _ _ _ h => h) (Or.inl ⟨by rfl, by intro u hu; (try dsimp only at hu); go_simp⟩) hHeld ?_
            try simp only [Act.put, List.getElem_toArray, List.getElem_cons_zero, List.getElem_cons_succ, List.setIfInBounds_toArray, List.set_cons_zero, List.set_cons_succ]
            refine wpAnyH_take (i := 11) (v := .pointer (some ⟨sb, 4, none⟩)) rfl (by kernel_rfl) (by kernel_rfl) (by kernel_rfl) (fun _ _ _ h => h) (Or.inl ⟨by rfl, by intro u hu; (try dsimp only at hu); go_simp⟩) hHeld ?_
            try simp only [Act.put, List.getElem_toArray, List.getElem_cons_zero, List.getElem_cons_succ, List.setIfInBounds_toArray, List.set_cons_zero, List.set_cons_succ]
            refine wpAnyH_take (i := 12) (v := .agg #[.int .i64 s1.ref.rd, .int .i64 s1.ref.wr, .int .i64 s1.ref.fl]) rfl (by kernel_rfl) (by kernel_rfl) (by kernel_rfl) (fun _ _ _ h => h) (Or.inl ⟨by rfl, by intro u hu; (try dsimp only at hu); go_simp⟩) hHeld ?_
            try simp only [Act.put, List.getElem_toArray, List.getElem_cons_zero, List.getElem_cons_succ, List.setIfInBounds_toArray, List.set_cons_zero, List.set_cons_succ]
            refine wpAnyH_ready (rs := [10]) (by kernel_rfl) (by simp) ?_
            refine AllReadyH.cons rfl (fun K hK => ?_) AllReadyH.nil
            rw [if_pos (by rfl)]
            go_simp
            go_at_call 25
            refine (counts_ref _ (hdS.out _ hHeld.1)).mono ?_
            rintro e u1 ⟨rfl, hb5⟩
            have hb6 : Below W.heap.size W u1 := Below.trans hHeld.1 (hb5.mono hHeld.1.size)
            clear hHeld
            refine hK.out _ _ (hS.out _ hb6) (fun hHeld => ?_)
            clear hK K
            try simp only [Act.put, List.getElem_toArray, List.getElem_cons_zero, List.getElem_cons_succ, List.setIfInBounds_toArray, List.set_cons_zero, List.set_cons_succ]
            refine wpAnyH_take (i := 13) (v := .bool false) rfl (by kernel_rfl) (by kernel_rfl) (by kernel_rfl) (fun _ _ _ h => h) (Or.inl ⟨by rfl, by intro u hu; (try dsimp only at hu); go_simp⟩) hHeld ?_
            try simp only [Act.put, List.getElem_toArray, List.getElem_cons_zero, List.getElem_cons_succ, List.setIfInBounds_toArray, List.set_cons_zero, List.set_cons_succ]
            refine wpAnyH_take (i := 14) (v := .bool false) rfl (by kernel_rfl) (by kernel_rfl) (by kernel_rfl) (fun _ _ _ h => h) (Or.inl ⟨by rfl, by intro u hu; (try dsimp only at hu); go_simp⟩) hHeld ?_
            try simp only [Act.put, List.getElem_toArray, List.getElem_cons_zero, List.getElem_cons_succ, List.setIfInBounds_toArray, List.set_cons_zero, List.set_cons_succ]
            refine wpAnyH_take (i := 15) (v := .bool false) rfl (by kernel_rfl) (by kernel_rfl) (by kernel_rfl) (fun _ _ _ h => h) (Or.inl ⟨by rfl, by intro u hu; (try dsimp only at hu); go_simp⟩) hHeld ?_
            try simp only [Act.put, List.getElem_toArray, List.getElem_cons_zero, List.getElem_cons_succ, List.setIfInBounds_toArray, List.set_cons_zero, List.set_cons_succ]
            refine wpAnyH_take (i := 16) (v := .pointer (some ⟨D, 0, none⟩)) rfl (by kernel_rfl) (by kernel_rfl) (by kernel_rfl) (fun _ _ _ h => h) (Or.inl ⟨by rfl, by intro u hu; (try dsimp only at hu); go_simp⟩) hHeld ?_
            try simp only [Act.put, List.getElem_toArray, List.getElem_cons_zero, List.getElem_cons_succ, List.setIfInBounds_toArray, List.set_cons_zero, List.set_cons_succ]
            refine wpAnyH_take (i := 18) (v := r2.val s1.ref) rfl (by kernel_rfl) (by kernel_rfl) (by kernel_rfl) (fun _ _ _ h => h) (Or.inl ⟨by rfl, by intro u hu; (try dsimp only at hu); go_simp; rfl⟩) hHeld ?_
            try simp only [Act.put, List.getElem_toArray, List.getElem_cons_zero, List.getElem_cons_succ, List.setIfInBounds_toArray, List.set_cons_zero, List.set_cons_succ]
            refine wpAnyH_ready (rs := [17]) (by kernel_rfl) (by simp) ?_
            refine AllReadyH.cons rfl (fun K hK => ?_) AllReadyH.nil
            rw [if_pos (by rfl)]
            go_simp
            go_at_call 22
            refine (clone_any _ (hdS.out _ hb6) hdl' hpl1).mono ?_
            rintro e u2 ⟨D2, g2, pv2, cc2, sp2, rfl, hdc, hfc, hb7⟩
            have hb8 : Below W.heap.size W u2 := Below.trans hb6 (hb7.mono hb6.size)
            clear hHeld
            refine hK.out _ _ (hS.out _ hb8) (fun hHeld => ?_)
            clear hK K
            try simp only [Act.put, List.getElem_toArray, List.getElem_cons_zero, List.getElem_cons_succ, List.setIfInBounds_toArray, List.set_cons_zero, List.set_cons_succ]
            refine wpAnyH_ready (rs := [19]) (by kernel_rfl) (by simp) ?_
            refine AllReadyH.cons rfl (fun K hK => ?_) AllReadyH.nil
            rw [if_pos (by rfl)]
            go_simp
            go_at_call 26
            refine (same_clone _ hdc r2 (hrS.out _ hb8) (fun k ho hf => by have h1 := hoW.out k ho; have h2 := hfc k hf; have h3 := hb6.size; omega) hpl1).mono ?_
            rintro e u3 ⟨rfl, hk3⟩
            have hb9 : Below W.heap.size W u3 := hb8.trans (hk3.below _ hb8.size (fun k hf => Nat.le_trans hb6.size (hfc k hf)))
            clear hHeld
            refine hK.out _ _ (hS.out _ hb9) (fun hHeld => ?_)
            clear hK K
            try simp only [Act.put, List.getElem_toArray, List.getElem_cons_zero, List.getElem_cons_succ, List.setIfInBounds_toArray, List.set_cons_zero, List.set_cons_succ]
            refine wpAnyH_take (i := 20) (v := .bool false) rfl (by kernel_rfl) (by kernel_rfl) (by kernel_rfl) (fun _ _ _ h => h) (Or.inl ⟨by rfl, by intro u hu; (try dsimp only at hu); go_simp⟩) hHeld ?_
            try simp only [Act.put, List.getElem_toArray, List.getElem_cons_zero, List.getElem_cons_succ, List.setIfInBounds_toArray, List.set_cons_zero, List.set_cons_succ]
            refine wpAnyH_take (i := 21) (v := .bool false) rfl (by kernel_rfl) (by kernel_rfl) (by kernel_rfl) (fun _ _ _ h => h) (Or.inl ⟨by rfl, by intro u hu; (try dsimp only at hu); go_simp⟩) hHeld ?_
            try simp only [Act.put, List.getElem_toArray, List.getElem_cons_zero, List.getElem_cons_succ, List.setIfInBounds_toArray, List.set_cons_zero, List.set_cons_succ]
            refine wpAnyH_done (by kernel_rfl) ?_ _
            have T11 := T10'.out.quiet (Nat.le_refl _) hb9
            clear hHeld
            go_wp2_with fail
            refine ⟨⟨k + 1, by omega, by go_num, pv6, s1, r2, T11, hdl', by omega⟩, ?_⟩
            simp [intOf]; omega
          · obtain rfl : k = l.length := by omega
            go_wp2
            go_ret
            exact ⟨rfl, B1.trans (T.live.below.mono B1.size)⟩
  · have hfew' : fewB l 40 = false := by simpa using hfew
    clear hfew
    go_wp2
    go_ret
    exact ⟨rfl, B1⟩
end Go.Proofs.Ytakehkoicinlbaa.dk
