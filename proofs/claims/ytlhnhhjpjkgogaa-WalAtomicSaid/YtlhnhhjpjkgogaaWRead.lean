/- The walk of the reference's Read. -/
import Derived.Test.YtlhnhhjpjkgogaaWRefR
import Derived.Deep.DeepCutAuto
import Derived.Test.YtlhnhhjpjkgogaaWQuiet
namespace Go.Proofs.Ytlhnhhjpjkgogaa.wl
open Go.RowKit Go.Proofs.Ytlhnhhjpjkgogaa.agg Go.Proofs.Ytlhnhhjpjkgogaa.dk
set_option linter.unusedSimpArgs false
set_option linter.unusedVariables false

/-- What the reference's Read returns. -/
def readFr (s : List Int) : Fr × Bool := if (parseFr s).2 = true then parseFr s else (Fr.none, false)
theorem ag_rf : IsAgg Try.prog 23 4 := ⟨fun _ => by kernel_rfl, fun _ => by kernel_rfl⟩
section
variable {a : Act} {w : World} {K : Act → World → Prop} {Q : Exit → Act → World → Prop} {dst : Option Tmp} {ty : TypeId} {pos : String} {aft : Array Edge} {gd : Option (Nat × Bool)}
theorem load_rf (x : Operand) (h : aggOk w (a.eval x) 4 = true) : Oper.wp Try.prog ⟨dst, .load 23 x, ty, pos, aft, gd⟩ a w K Q = K (a.put dst (aggAt w (a.eval x) 4)) w := wp_load_agg ag_rf x h
theorem store_rf (x y : Operand) (h : aggOk w (a.eval x) 4 = true) (hy : plain (a.eval y) 4 = true) : Oper.wp Try.prog ⟨dst, .store 23 x y, ty, pos, aft, gd⟩ a w K Q = K (a.put dst undef) (putRow w (a.eval x) (cellsOf (a.eval y))) := wp_store_agg ag_rf x y h hy
end
/-- The memory of a call of the reference's Read. -/
structure RdAt (w : World) (s : List Int) (W : World) : Prop where
  below : Below w.heap.size w W
  box : W.heap[w.heap.size]? = some (.cells (sec s) 26 (0, 0))
  res : W.heap[w.heap.size + 1]? = some (.cells Fr.none.cells 23 (0, 0))
theorem RdAt.more {w : World} {s : List Int} {W u : World} (h : RdAt w s W) (hb : Below W.heap.size W u) : RdAt w s u :=
  ⟨⟨hb.os.trans h.below.os, hb.tape.trans h.below.tape, hb.output.trans h.below.output, Nat.le_trans h.below.size hb.size, fun i hi => (hb.block i (Nat.lt_of_lt_of_le hi h.below.size)).trans (h.below.block i hi)⟩,
    (hb.block _ (lt_of_block h.box)).trans h.box, (hb.block _ (lt_of_block h.res)).trans h.res⟩
theorem RdAt.end' {w : World} {s : List Int} {W : World} (h : RdAt w s W) (g : Fr) : rowOf (W.setRow (w.heap.size + 1) g.cells) (w.heap.size + 1) = g.cells ∧ Below w.heap.size w (W.setRow (w.heap.size + 1) g.cells) :=
  ⟨rowOf_setRow_same _ (by rw [rowOf_of h.res, size_fr]; omega), h.below.os, h.below.tape, h.below.output, by simpa using h.below.size, fun i hi => (setRow_other _ _ _ _ (by omega)).trans (h.below.block i hi)⟩
theorem strOf_snoc (l : List Int) (c : Int) : strOf l ++ strOf [c] = strOf (l ++ [c]) := by
  apply ByteArray.ext
  rw [ByteArray.data_append]
  simp [strOf]
theorem cut_fr2 (f : Fr) : cut f.cells 0 4 = .agg f.cells := cut_whole rfl
theorem over_fr2 (f : Fr) : overrow #[Value.int .i64 0, .int .i64 0, .int .i64 0, .string ⟨#[]⟩] 0 f.cells = f.cells := overrow_whole rfl
attribute [local go_sem ↓] load_rf store_rf
attribute [local go_sem] size_fr one_fr cut_fr2 over_fr2
set_option maxRecDepth 100000 in
set_option maxHeartbeats 2000000 in
theorem rread_walk (w : World) (s : List Int) (hs : IsSec s) :
    Calls Try.prog 10 #[.agg (sec s)] w fun e w' => e = .returned (.tuple #[.agg (readFr s).1.cells, .bool (readFr s).2]) ∧ Below w.heap.size w w' := by
  have h64 := hs.len
  have hA : RdAt w s ((w.alloc (.cells (sec s) 26)).alloc (.cells #[.int .i64 0, .int .i64 0, .int .i64 0, .string ⟨#[]⟩] 23)) :=
    ⟨((Below.refl _ _).alloc (Nat.le_refl _) _).alloc (by simp) _, heap_alloc2_old w _ _, heap_alloc2_new w _ _⟩
  have c7 : ((w.alloc (.cells (sec s) 26)).alloc (.cells #[.int .i64 0, .int .i64 0, .int .i64 0, .string ⟨#[]⟩] 23)).cell? ⟨w.heap.size, 7, none⟩ = some (.int .u8 (s.getD 7 0)) := by
    rw [cell_of_row _ _ _ _ _ _ hA.box, sec_get _ _ (by omega)]
  obtain ⟨b7, b7'⟩ := hs.rng (s.getD 7 0) (by rw [List.getD_eq_getElem?_getD, List.getElem?_eq_getElem (by omega)]; exact List.getElem_mem _)
  have hA' := Lib.hid hA
  have h64' := Lib.hid h64
  have hs' := Lib.hid hs
  have hr1 := rowOf_of hA.res
  clear hA h64 hs
  generalize hn0 : s.getD 7 0 = n at *
  have hn := Lib.hid hn0
  clear hn0
  by_cases p4 : 50 < n
  · have hx : Hid (readFr s = (Fr.none, false)) := by
      have : parseFr s = (Fr.none, false) := by
        unfold parseFr
        rw [hn.out, if_pos (.inr (.inr (.inr p4)))]
      unfold readFr
      rw [this]
      exact rfl
    go_enter Try.func10, Try.ntmps10
    go_wp2_with fail
    refine bodyPost_ret (results_cell_tmp' rfl ag_rf _ rfl (rowOf_of hA'.out.res) rfl (by omega)) rfl ⟨by rw [hx.out]; rfl, hA'.out.below⟩
  · obtain ⟨m, hm⟩ : ∃ m : Nat, n = m := ⟨n.toNat, by omega⟩
    subst hm
    have hm50 : m ≤ 50 := by omega
    go_enter Try.func10, Try.ntmps10
    go_wp2_with fail
    clear c7 hr1
    generalize (w.alloc _).alloc _ = W0 at *
    go_loopw [5, 6] (fun d i wr => ∃ j : Nat, j ≤ m ∧ i = .int .i64 j ∧ d = .string (strOf ((s.drop 8).take j)) ∧ RdAt w s wr) (fun _ i _ => m - (intOf i).toNat)
    case atStart => exact ⟨0, Nat.zero_le _, rfl, rfl, hA'.out⟩
    case round =>
      obtain ⟨j, hj, rfl, rfl, hR⟩ := hrel
      have hR' := Lib.hid hR
      by_cases hlt : j < m
      · have hl8 : 8 + j < s.length := by rw [h64'.out]; omega
        have c8 : wr.cell? ⟨w.heap.size, 8 + j, none⟩ = some (.int .u8 (s.getD (8 + j) 0)) := by
          rw [cell_of_row _ _ _ _ _ _ hR.box, sec_get _ _ hl8]
        have hst : Hid (strOf ((s.drop 8).take j) ++ strOf [s.getD (8 + j) 0] = strOf ((s.drop 8).take (j + 1))) := by
          rw [strOf_snoc, List.take_succ_eq_append_getElem (by simp; omega)]
          congr 3
          rw [List.getD_eq_getElem?_getD, List.getElem?_eq_getElem hl8]
          simp
        have hsz : (strOf ((s.drop 8).take j)).size ≤ 50 := by rw [size_strOf]; simp; omega
        have hd1 : (strOf [s.getD (8 + j) 0]).size = 1 := by rw [size_strOf]; rfl
        have hcv : ∀ (W : World) (X : Nat), W.cell? ⟨X, 0, none⟩ = some (.int .u8 (s.getD (8 + j) 0)) → (convert 28 9 (.slice (some ⟨X, 0, none⟩) 1 1)).run Try.prog W = .ok (.string (strOf [s.getD (8 + j) 0])) W := by
          intro W X hc
          have hx : ∀ i, i < 1 → W.cell? ⟨X, 0 + i, none⟩ = some (.int .u8 (([s.getD (8 + j) 0] : List Int).getD i 0)) := by
            intro i hi
            obtain rfl : i = 0 := by omega
            simpa using hc
          exact run_convert_bytes_arg W 28 5 Try.underlying28 Try.underlying5 X 0 1 1 [s.getD (8 + j) 0] rfl hx 9 Try.underlying9
        have hd1' : (strOf [s.getD (8 + j) 0]).size ≤ 1 := by omega
        have g2 : (8 : Int) + j < 64 := by omega
        clear hd1 hR
        generalize strOf [s.getD (8 + j) 0] = dd at *
        generalize s.getD (8 + j) 0 = cc at *
        generalize hss : strOf ((s.drop 8).take j) = ss at *
        clear hss
        go_wp2_with fail
        go_roundw
        case rel => exact ⟨j + 1, by omega, by go_num, by rw [hst.out], hR'.out.more ((Below.refl _ _).alloc (Nat.le_refl _) _)⟩
        case measure => simp [intOf]; omega
      · obtain rfl : j = m := by omega
        clear hR
        have c6 : s.getD 6 0 = s.getD 6 0 := rfl
        obtain ⟨b6, b6'⟩ := hs'.out.rng (s.getD 6 0) (by rw [List.getD_eq_getElem?_getD, List.getElem?_eq_getElem (by rw [h64'.out]; omega)]; exact List.getElem_mem _)
        clear c6
        generalize hk6 : s.getD 6 0 = k6 at *
        have hk6' := Lib.hid hk6
        clear hk6
        generalize hd0 : strOf ((s.drop 8).take j) = d at *
        have hd0' := Lib.hid hd0
        clear hd0
        have hf9 : Hid (Fr.cells ⟨num ((s.drop 0).take 4), num ((s.drop 4).take 2), k6, d⟩ = #[.int .i64 (num ((s.drop 0).take 4)), .int .i64 (num ((s.drop 4).take 2)), .int .i64 k6, .string d]) := rfl
        generalize hf90 : (⟨num ((s.drop 0).take 4), num ((s.drop 4).take 2), k6, d⟩ : Fr) = f9 at hf9
        have hf90' := Lib.hid hf90
        clear hf90
        go_upto_region 9 with fail
        go_cut [7] (fun v wx => ∃ B : Nat, v = .pointer (some ⟨B, 0, none⟩) ∧ wx.heap[B]? = some (.cells f9.cells 23 (0, 0)) ∧ RdAt w s wx ∧ B ≠ w.heap.size ∧ B ≠ w.heap.size + 1)
        case first =>
          have hRdr := hR'.out.more (Below.refl _ _).drew
          have hun := Try.underlying26
          have hi64 := info_sec s h64'.out
          have hw6 : IntKind.i64.wrap k6 = k6 := by simp [IntKind.wrap, IntKind.bits, IntKind.signed]; omega
          refine wp_region_held_drew (S := fun u => u.heap[w.heap.size]? = some (.cells (sec s) 26 (0, 0))) (by kernel_rfl) hRdr.box (fun hHeld => ?_)
          refine wpAnyH_take (i := 0) (v := .agg (u8s s).toArray) rfl (by kernel_rfl) (by kernel_rfl) (by kernel_rfl) (fun _ _ _ h => h) (yieldsIf_load_mid (by rfl) _ _ rfl _ _ rfl (u8s s) _ (fun _ h => rangeAt_whole h) hun rfl hi64) hHeld ?_
          try simp only [Act.put, List.getElem_toArray, List.getElem_cons_zero, List.getElem_cons_succ, List.setIfInBounds_toArray, List.set_cons_zero, List.set_cons_succ]
          refine wpAnyH_take (i := 2) (v := .agg (u8s s).toArray) rfl (by kernel_rfl) (by kernel_rfl) (by kernel_rfl) (fun _ _ _ h => h) (yieldsIf_load_mid (by rfl) _ _ rfl _ _ rfl (u8s s) _ (fun _ h => rangeAt_whole h) hun rfl hi64) hHeld ?_
          try simp only [Act.put, List.getElem_toArray, List.getElem_cons_zero, List.getElem_cons_succ, List.setIfInBounds_toArray, List.set_cons_zero, List.set_cons_succ]
          refine wpAnyH_take (i := 4) (v := .pointer (some ⟨w.heap.size, 6, none⟩)) rfl (by kernel_rfl) (by kernel_rfl) (by kernel_rfl) (fun _ _ _ h => h) (Or.inl ⟨by rfl, by intro u hu; (try dsimp only at hu); go_simp⟩) hHeld ?_
          try simp only [Act.put, List.getElem_toArray, List.getElem_cons_zero, List.getElem_cons_succ, List.setIfInBounds_toArray, List.set_cons_zero, List.set_cons_succ]
          refine wpAnyH_take (i := 5) (v := .int .u8 k6) rfl (by kernel_rfl) (by kernel_rfl) (by kernel_rfl) (fun _ _ _ h => h) (Or.inl ⟨by rfl, by intro u hu; have hq : u.cell? ⟨w.heap.size, 6, none⟩ = some (.int .u8 k6) := (by rw [cell_of_row _ _ _ _ _ _ hu, sec_get _ _ (by rw [h64'.out]; omega), hk6'.out]); go_simp⟩) hHeld ?_
          try simp only [Act.put, List.getElem_toArray, List.getElem_cons_zero, List.getElem_cons_succ, List.setIfInBounds_toArray, List.set_cons_zero, List.set_cons_succ]
          refine wpAnyH_take (i := 6) (v := .int .i64 k6) rfl (by kernel_rfl) (by kernel_rfl) (by kernel_rfl) (fun _ _ _ h => h) (Or.inl ⟨by rfl, by intro u hu; (try dsimp only at hu); go_simp⟩) hHeld ?_
          try simp only [Act.put, List.getElem_toArray, List.getElem_cons_zero, List.getElem_cons_succ, List.setIfInBounds_toArray, List.set_cons_zero, List.set_cons_succ]
          refine wpAnyH_take (i := 7) (v := .string d) rfl (by kernel_rfl) (by kernel_rfl) (by kernel_rfl) (fun _ _ _ h => h) (Or.inl ⟨by rfl, by intro u hu; (try dsimp only at hu); go_simp⟩) hHeld ?_
          try simp only [Act.put, List.getElem_toArray, List.getElem_cons_zero, List.getElem_cons_succ, List.setIfInBounds_toArray, List.set_cons_zero, List.set_cons_succ]
          refine wpAnyH_ready (rs := [1, 9]) (by kernel_rfl) (by simp) ?_
          refine AllReadyH.cons rfl (fun K hK => ?_) (AllReadyH.cons rfl (fun K hK => ?_) AllReadyH.nil)
          all_goals rw [if_pos (by rfl)]
          · skip
            go_simp
            go_at_call 40
            refine (rnumber_walk _ s hs'.out 0 4 (by omega) (by omega)).mono ?_
            rintro e1 u1 ⟨rfl, hb1⟩
            have hR1 := hRdr.more hb1
            refine hK.out _ _ hR1.box (fun hHeld => ?_)
            clear hK K
            try simp only [Act.put, List.getElem_toArray, List.getElem_cons_zero, List.getElem_cons_succ, List.setIfInBounds_toArray, List.set_cons_zero, List.set_cons_succ]
            refine wpAnyH_ready (rs := [3, 9]) (by kernel_rfl) (by simp) ?_
            refine AllReadyH.cons rfl (fun K hK => ?_) (AllReadyH.cons rfl (fun K hK => ?_) AllReadyH.nil)
            all_goals rw [if_pos (by rfl)]
            · skip
              go_simp
              go_at_call 40
              refine (rnumber_walk _ s hs'.out 4 2 (by omega) (by omega)).mono ?_
              rintro e1 u2 ⟨rfl, hb2⟩
              have hR2 := hR1.more hb2
              refine hK.out _ _ hR2.box (fun hHeld => ?_)
              clear hK K
              try simp only [Act.put, List.getElem_toArray, List.getElem_cons_zero, List.getElem_cons_succ, List.setIfInBounds_toArray, List.set_cons_zero, List.set_cons_succ]
              refine wpAnyH_take (i := 8) (v := .agg f9.cells) rfl (by kernel_rfl) (by kernel_rfl) (by kernel_rfl) (fun _ _ _ h => h) (Or.inl ⟨by rfl, by intro u hu; rw [hf9.out]; (try dsimp only at hu); go_simp⟩) hHeld ?_
              try simp only [Act.put, List.getElem_toArray, List.getElem_cons_zero, List.getElem_cons_succ, List.setIfInBounds_toArray, List.set_cons_zero, List.set_cons_succ]
              refine wpAnyH_ready (rs := [9]) (by kernel_rfl) (by simp) ?_
              refine AllReadyH.cons rfl (fun K hK => ?_) AllReadyH.nil
              rw [if_pos (by rfl)]
              go_simp
              have hR3 : RdAt w s (u2.alloc (.cells #[.int .i64 0, .int .i64 0, .int .i64 0, .string ⟨#[]⟩] 23)) := hR2.more ((Below.refl _ _).alloc (Nat.le_refl _) _)
              refine hK.out _ _ hR3.box (fun hHeld => ?_)
              clear hK K
              try simp only [Act.put, List.getElem_toArray, List.getElem_cons_zero, List.getElem_cons_succ, List.setIfInBounds_toArray, List.set_cons_zero, List.set_cons_succ]
              have hBU : (u2.alloc (.cells #[.int .i64 0, .int .i64 0, .int .i64 0, .string ⟨#[]⟩] 23)).heap[u2.heap.size]? = some (.cells #[.int .i64 0, .int .i64 0, .int .i64 0, .string ⟨#[]⟩] 23 (0, 0)) := heap_alloc_new _ _
              have hne1 : u2.heap.size ≠ w.heap.size := by have := lt_of_block hR2.res; omega
              have hne2 : u2.heap.size ≠ w.heap.size + 1 := by have := lt_of_block hR2.res; omega
              refine wpAnyH_ready (rs := [10]) (by kernel_rfl) (by simp) ?_
              refine AllReadyH.cons rfl (fun K hK => ?_) AllReadyH.nil
              rw [if_pos (by rfl)]
              refine Eq.mpr (store_rf (.tmp 7) (.tmp 35) ?h1 ?h2) ?_
              case h1 =>
                show decide (0 + 4 ≤ (rowOf (u2.alloc (.cells #[.int .i64 0, .int .i64 0, .int .i64 0, .string ⟨#[]⟩] 23)) (u2.heap.size)).size ∧ 0 < 4) = true
                rw [rowOf_of hBU]
                rfl
              case h2 => rfl
              have hst : putRow (u2.alloc (.cells #[.int .i64 0, .int .i64 0, .int .i64 0, .string ⟨#[]⟩] 23)) (.pointer (some ⟨u2.heap.size, 0, none⟩)) f9.cells = (u2.alloc (.cells #[.int .i64 0, .int .i64 0, .int .i64 0, .string ⟨#[]⟩] 23)).setRow (u2.heap.size) f9.cells := by
                rw [putRow_mk, overrow_whole (by rw [rowOf_of hBU]; rfl)]
              refine hK.out _ (putRow (u2.alloc (.cells #[.int .i64 0, .int .i64 0, .int .i64 0, .string ⟨#[]⟩] 23)) (.pointer (some ⟨u2.heap.size, 0, none⟩)) f9.cells) ?_ ?_
              · rw [hst]
                exact (setRow_other _ _ _ _ (Ne.symm hne1)).trans hR3.box
              intro hHeld
              clear hK K
              try simp only [Act.put, List.getElem_toArray, List.getElem_cons_zero, List.getElem_cons_succ, List.setIfInBounds_toArray, List.set_cons_zero, List.set_cons_succ]
              refine wpAnyH_done (by kernel_rfl) ?_ _
              rw [hst]
              go_wp2_with fail
              go_meet
              have hkq : RdAt w s ((u2.alloc (.cells #[.int .i64 0, .int .i64 0, .int .i64 0, .string ⟨#[]⟩] 23)).setRow (u2.heap.size) f9.cells) := ⟨⟨hR3.below.os, hR3.below.tape, hR3.below.output, by simpa using hR3.below.size, fun i hi => (setRow_other _ _ _ _ (by have := lt_of_block hR2.res; omega)).trans (hR3.below.block i hi)⟩, (setRow_other _ _ _ _ (Ne.symm hne1)).trans hR3.box, (setRow_other _ _ _ _ (Ne.symm hne2)).trans hR3.res⟩
              exact ⟨u2.heap.size, rfl, setRow_heap _ _ _ _ _ _ hBU, hkq, hne1, hne2⟩
            · skip
              go_simp
              have hR2 : RdAt w s (u1.alloc (.cells #[.int .i64 0, .int .i64 0, .int .i64 0, .string ⟨#[]⟩] 23)) := hR1.more ((Below.refl _ _).alloc (Nat.le_refl _) _)
              refine hK.out _ _ hR2.box (fun hHeld => ?_)
              clear hK K
              try simp only [Act.put, List.getElem_toArray, List.getElem_cons_zero, List.getElem_cons_succ, List.setIfInBounds_toArray, List.set_cons_zero, List.set_cons_succ]
              refine wpAnyH_ready (rs := [3]) (by kernel_rfl) (by simp) ?_
              refine AllReadyH.cons rfl (fun K hK => ?_) AllReadyH.nil
              rw [if_pos (by rfl)]
              go_simp
              go_at_call 40
              refine (rnumber_walk _ s hs'.out 4 2 (by omega) (by omega)).mono ?_
              rintro e1 u3 ⟨rfl, hb3⟩
              have hR3 := hR2.more hb3
              refine hK.out _ _ hR3.box (fun hHeld => ?_)
              clear hK K
              try simp only [Act.put, List.getElem_toArray, List.getElem_cons_zero, List.getElem_cons_succ, List.setIfInBounds_toArray, List.set_cons_zero, List.set_cons_succ]
              refine wpAnyH_take (i := 8) (v := .agg f9.cells) rfl (by kernel_rfl) (by kernel_rfl) (by kernel_rfl) (fun _ _ _ h => h) (Or.inl ⟨by rfl, by intro u hu; rw [hf9.out]; (try dsimp only at hu); go_simp⟩) hHeld ?_
              try simp only [Act.put, List.getElem_toArray, List.getElem_cons_zero, List.getElem_cons_succ, List.setIfInBounds_toArray, List.set_cons_zero, List.set_cons_succ]
              have hBU : u3.heap[u1.heap.size]? = some (.cells #[.int .i64 0, .int .i64 0, .int .i64 0, .string ⟨#[]⟩] 23 (0, 0)) := (hb3.block _ (by simp)).trans (heap_alloc_new _ _)
              have hne1 : u1.heap.size ≠ w.heap.size := by have := lt_of_block hR1.res; omega
              have hne2 : u1.heap.size ≠ w.heap.size + 1 := by have := lt_of_block hR1.res; omega
              refine wpAnyH_ready (rs := [10]) (by kernel_rfl) (by simp) ?_
              refine AllReadyH.cons rfl (fun K hK => ?_) AllReadyH.nil
              rw [if_pos (by rfl)]
              refine Eq.mpr (store_rf (.tmp 7) (.tmp 35) ?h1 ?h2) ?_
              case h1 =>
                show decide (0 + 4 ≤ (rowOf u3 (u1.heap.size)).size ∧ 0 < 4) = true
                rw [rowOf_of hBU]
                rfl
              case h2 => rfl
              have hst : putRow u3 (.pointer (some ⟨u1.heap.size, 0, none⟩)) f9.cells = u3.setRow (u1.heap.size) f9.cells := by
                rw [putRow_mk, overrow_whole (by rw [rowOf_of hBU]; rfl)]
              refine hK.out _ (putRow u3 (.pointer (some ⟨u1.heap.size, 0, none⟩)) f9.cells) ?_ ?_
              · rw [hst]
                exact (setRow_other _ _ _ _ (Ne.symm hne1)).trans hR3.box
              intro hHeld
              clear hK K
              try simp only [Act.put, List.getElem_toArray, List.getElem_cons_zero, List.getElem_cons_succ, List.setIfInBounds_toArray, List.set_cons_zero, List.set_cons_succ]
              refine wpAnyH_done (by kernel_rfl) ?_ _
              rw [hst]
              go_wp2_with fail
              go_meet
              have hkq : RdAt w s (u3.setRow (u1.heap.size) f9.cells) := ⟨⟨hR3.below.os, hR3.below.tape, hR3.below.output, by simpa using hR3.below.size, fun i hi => (setRow_other _ _ _ _ (by have := lt_of_block hR1.res; omega)).trans (hR3.below.block i hi)⟩, (setRow_other _ _ _ _ (Ne.symm hne1)).trans hR3.box, (setRow_other _ _ _ _ (Ne.symm hne2)).trans hR3.res⟩
              exact ⟨u1.heap.size, rfl, setRow_heap _ _ _ _ _ _ hBU, hkq, hne1, hne2⟩
          · skip
            go_simp
            have hR1 : RdAt w s (wr.drew.alloc (.cells #[.int .i64 0, .int .i64 0, .int .i64 0, .string ⟨#[]⟩] 23)) := hRdr.more ((Below.refl _ _).alloc (Nat.le_refl _) _)
            refine hK.out _ _ hR1.box (fun hHeld => ?_)
            clear hK K
            try simp only [Act.put, List.getElem_toArray, List.getElem_cons_zero, List.getElem_cons_succ, List.setIfInBounds_toArray, List.set_cons_zero, List.set_cons_succ]
            refine wpAnyH_ready (rs := [1]) (by kernel_rfl) (by simp) ?_
            refine AllReadyH.cons rfl (fun K hK => ?_) AllReadyH.nil
            rw [if_pos (by rfl)]
            go_simp
            go_at_call 40
            refine (rnumber_walk _ s hs'.out 0 4 (by omega) (by omega)).mono ?_
            rintro e1 u2 ⟨rfl, hb2⟩
            have hR2 := hR1.more hb2
            refine hK.out _ _ hR2.box (fun hHeld => ?_)
            clear hK K
            try simp only [Act.put, List.getElem_toArray, List.getElem_cons_zero, List.getElem_cons_succ, List.setIfInBounds_toArray, List.set_cons_zero, List.set_cons_succ]
            refine wpAnyH_ready (rs := [3]) (by kernel_rfl) (by simp) ?_
            refine AllReadyH.cons rfl (fun K hK => ?_) AllReadyH.nil
            rw [if_pos (by rfl)]
            go_simp
            go_at_call 40
            refine (rnumber_walk _ s hs'.out 4 2 (by omega) (by omega)).mono ?_
            rintro e1 u3 ⟨rfl, hb3⟩
            have hR3 := hR2.more hb3
            refine hK.out _ _ hR3.box (fun hHeld => ?_)
            clear hK K
            try simp only [Act.put, List.getElem_toArray, List.getElem_cons_zero, List.getElem_cons_succ, List.setIfInBounds_toArray, List.set_cons_zero, List.set_cons_succ]
            refine wpAnyH_take (i := 8) (v := .agg f9.cells) rfl (by kernel_rfl) (by kernel_rfl) (by kernel_rfl) (fun _ _ _ h => h) (Or.inl ⟨by rfl, by intro u hu; rw [hf9.out]; (try dsimp only at hu); go_simp⟩) hHeld ?_
            try simp only [Act.put, List.getElem_toArray, List.getElem_cons_zero, List.getElem_cons_succ, List.setIfInBounds_toArray, List.set_cons_zero, List.set_cons_succ]
            have hBU : u3.heap[wr.heap.size]? = some (.cells #[.int .i64 0, .int .i64 0, .int .i64 0, .string ⟨#[]⟩] 23 (0, 0)) := (hb3.block _ (Nat.lt_of_lt_of_le (by simp) hb2.size)).trans ((hb2.block _ (by simp)).trans (heap_alloc_new wr _))
            have hne1 : wr.heap.size ≠ w.heap.size := by have := lt_of_block hR'.out.res; omega
            have hne2 : wr.heap.size ≠ w.heap.size + 1 := by have := lt_of_block hR'.out.res; omega
            refine wpAnyH_ready (rs := [10]) (by kernel_rfl) (by simp) ?_
            refine AllReadyH.cons rfl (fun K hK => ?_) AllReadyH.nil
            rw [if_pos (by rfl)]
            refine Eq.mpr (store_rf (.tmp 7) (.tmp 35) ?h1 ?h2) ?_
            case h1 =>
              show decide (0 + 4 ≤ (rowOf u3 (wr.heap.size)).size ∧ 0 < 4) = true
              rw [rowOf_of hBU]
              rfl
            case h2 => rfl
            have hst : putRow u3 (.pointer (some ⟨wr.heap.size, 0, none⟩)) f9.cells = u3.setRow (wr.heap.size) f9.cells := by
              rw [putRow_mk, overrow_whole (by rw [rowOf_of hBU]; rfl)]
            refine hK.out _ (putRow u3 (.pointer (some ⟨wr.heap.size, 0, none⟩)) f9.cells) ?_ ?_
            · rw [hst]
              exact (setRow_other _ _ _ _ (Ne.symm hne1)).trans hR3.box
            intro hHeld
            clear hK K
            try simp only [Act.put, List.getElem_toArray, List.getElem_cons_zero, List.getElem_cons_succ, List.setIfInBounds_toArray, List.set_cons_zero, List.set_cons_succ]
            refine wpAnyH_done (by kernel_rfl) ?_ _
            rw [hst]
            go_wp2_with fail
            go_meet
            have hkq : RdAt w s (u3.setRow (wr.heap.size) f9.cells) := ⟨⟨hR3.below.os, hR3.below.tape, hR3.below.output, by simpa using hR3.below.size, fun i hi => (setRow_other _ _ _ _ (by have := lt_of_block hR'.out.res; omega)).trans (hR3.below.block i hi)⟩, (setRow_other _ _ _ _ (Ne.symm hne1)).trans hR3.box, (setRow_other _ _ _ _ (Ne.symm hne2)).trans hR3.res⟩
            exact ⟨wr.heap.size, rfl, setRow_heap _ _ _ _ _ _ hBU, hkq, hne1, hne2⟩
        case rest =>
          obtain ⟨B, rfl, hbB, hRx, hB1, hB2⟩ := hcut
          obtain ⟨n1, n2⟩ := num_bd ((s.drop 0).take 4) (fun c hc => hs'.out.rng c (List.mem_of_mem_drop (List.mem_of_mem_take hc)))
          obtain ⟨q1, q2⟩ := num_bd ((s.drop 4).take 2) (fun c hc => hs'.out.rng c (List.mem_of_mem_drop (List.mem_of_mem_take hc)))
          rw [show ((s.drop 0).take 4).length = 4 by simp; have := h64'.out; omega] at n2
          rw [show ((s.drop 4).take 2).length = 2 by simp; have := h64'.out; omega] at q2
          rw [show (256 : Int) ^ 4 = 4294967296 by decide] at n2
          rw [show (256 : Int) ^ 2 = 65536 by decide] at q2
          have hpf : parseFr s = if f9.epoch < 1 ∨ f9.kind < 1 ∨ 4 < f9.kind then (Fr.none, false) else (f9, decide (f9.sec = s)) := by
            rw [← hf90'.out, ← hd0'.out]
            unfold parseFr
            rw [hn.out, hk6'.out, List.drop_zero, Int.toNat_natCast]
            simp only
            by_cases hq : num (s.take 4) < 1 ∨ k6 < 1 ∨ 4 < k6
            · rw [if_pos hq, if_pos (by omega)]
            · rw [if_neg hq, if_neg (by omega)]
          have hdz : f9.data.size ≤ 50 := by
            rw [← hf90'.out, ← hd0'.out]
            show (strOf _).size ≤ 50
            rw [size_strOf]
            simp
            omega
          have hep : f9.epoch = num ((s.drop 0).take 4) := by rw [← hf90'.out]
          have hpo : f9.pos = num ((s.drop 4).take 2) := by rw [← hf90'.out]
          have he1 : 0 ≤ f9.epoch ∧ f9.epoch < 4611686018427387904 := by rw [hep]; omega
          have hp1 : 0 ≤ f9.pos ∧ f9.pos < 4611686018427387904 := by rw [hpo]; omega
          have y0 : wc.cell? ⟨B, 0, none⟩ = some (.int .i64 f9.epoch) := (cell_of_row _ _ _ _ _ _ hbB).trans rfl
          have y2 : wc.cell? ⟨B, 2, none⟩ = some (.int .i64 f9.kind) := (cell_of_row _ _ _ _ _ _ hbB).trans rfl
          have hpf' := Lib.hid hpf
          have hRx' := Lib.hid hRx
          have hbB' := Lib.hid hbB
          have k3 := cell_regrown y0
          have k4 := cell_regrown y2
          have hres : ∀ d os, rowOf (Sort.grow (redrawn wc d) os) (w.heap.size + 1) = #[.int .i64 0, .int .i64 0, .int .i64 0, .string ⟨#[]⟩] := fun d os => (rowOf_block ((below_regrown wc d os).block _ (lt_of_block hRx'.out.res))).trans (rowOf_of hRx'.out.res)
          have hfb : ∀ d os, rowOf (Sort.grow (redrawn wc d) os) B = f9.cells := fun d os => (rowOf_block ((below_regrown wc d os).block _ (lt_of_block hbB'.out))).trans (rowOf_of hbB'.out)
          have hsb : ∀ d os, rowOf (Sort.grow (redrawn wc d) os) w.heap.size = sec s := fun d os => (rowOf_block ((below_regrown wc d os).block _ (lt_of_block hRx'.out.box))).trans (rowOf_of hRx'.out.box)
          have hres' := Lib.hid hres
          have hfb' := Lib.hid hfb
          have hsb' := Lib.hid hsb
          clear hpf hep hpo n1 n2 q1 q2 hbB hRx y0 y2 hres hfb hsb
          go_wp2_with fail
          by_cases hq : f9.epoch < 1 ∨ f9.kind < 1 ∨ 4 < f9.kind
          · have hx : Hid (readFr s = (Fr.none, false)) := by
              unfold readFr
              rw [hpf'.out, if_pos hq]
              exact rfl
            by_cases p1 : f9.epoch < 1
            · clear hq
              refine wp_region_quiet_below (by kernel_rfl) (by kernel_rfl) ?_
              repeat (go_big_quiet_step (fail))
              refine wpQuiet_nil ?_
              intro _ hw'
              obtain ⟨⟨dq, osq⟩, hw''⟩ := hw'
              subst hw''
              have hRq := hRx'.out.more (below_regrown wc dq osq)
              have hrr := hres'.out dq osq
              have hfr := hfb'.out dq osq
              obtain ⟨z1, z2⟩ := hRq.end' Fr.none
              have hRq' := Lib.hid hRq
              clear k3 k4 hRq
              generalize Sort.grow _ _ = Wq at *
              go_wp2_with fail
              exact bodyPost_ret (results_cell_tmp' rfl ag_rf _ rfl z1 rfl (by omega)) rfl ⟨by rw [hx.out]; rfl, z2⟩
            by_cases p2 : f9.kind < 1
            · clear hq
              refine wp_region_quiet_below (by kernel_rfl) (by kernel_rfl) ?_
              repeat (go_big_quiet_step (fail))
              refine wpQuiet_nil ?_
              intro _ hw'
              obtain ⟨⟨dq, osq⟩, hw''⟩ := hw'
              subst hw''
              have hRq := hRx'.out.more (below_regrown wc dq osq)
              have hrr := hres'.out dq osq
              have hfr := hfb'.out dq osq
              obtain ⟨z1, z2⟩ := hRq.end' Fr.none
              have hRq' := Lib.hid hRq
              clear k3 k4 hRq
              generalize Sort.grow _ _ = Wq at *
              go_wp2_with fail
              exact bodyPost_ret (results_cell_tmp' rfl ag_rf _ rfl z1 rfl (by omega)) rfl ⟨by rw [hx.out]; rfl, z2⟩
            have p3 : 4 < f9.kind := by omega
            clear hq
            refine wp_region_quiet_below (by kernel_rfl) (by kernel_rfl) ?_
            repeat (go_big_quiet_step (fail))
            refine wpQuiet_nil ?_
            intro _ hw'
            obtain ⟨⟨dq, osq⟩, hw''⟩ := hw'
            subst hw''
            have hRq := hRx'.out.more (below_regrown wc dq osq)
            have hrr := hres'.out dq osq
            have hfr := hfb'.out dq osq
            obtain ⟨z1, z2⟩ := hRq.end' Fr.none
            have hRq' := Lib.hid hRq
            clear k3 k4 hRq
            generalize Sort.grow _ _ = Wq at *
            go_wp2_with fail
            exact bodyPost_ret (results_cell_tmp' rfl ag_rf _ rfl z1 rfl (by omega)) rfl ⟨by rw [hx.out]; rfl, z2⟩
          · have p1 : ¬ f9.epoch < 1 := by omega
            have p2 : ¬ f9.kind < 1 := by omega
            have p3 : ¬ 4 < f9.kind := by omega
            have hx : Hid (readFr s = if f9.sec = s then (f9, true) else (Fr.none, false)) := by
              unfold readFr
              rw [hpf'.out, if_neg hq]
              by_cases hq2 : f9.sec = s
              · simp only [hq2, decide_true, if_true]
                exact trivial
              · simp [hq2]
                exact trivial
            have hl9 := f9.length_sec hdz
            have hQ1 : ∀ u, (∃ p : Regrown, u = Sort.grow (redrawn wc p.d) p.os) → 0 + 4 ≤ (rowOf u B).size ∧ 0 < 4 ∧ cut (rowOf u B) 0 4 = .agg f9.cells := by
              rintro u ⟨p, rfl⟩
              exact ⟨by rw [hfb'.out, size_fr]; omega, by omega, by rw [hfb'.out]; exact cut_fr2 _⟩
            have hQ2 : ∀ u, (∃ p : Regrown, u = Sort.grow (redrawn wc p.d) p.os) → 0 + 64 ≤ (rowOf u w.heap.size).size ∧ 0 < 64 ∧ cut (rowOf u w.heap.size) 0 64 = .agg (sec s) := by
              rintro u ⟨p, rfl⟩
              exact ⟨by rw [hsb'.out, size_sec, h64'.out]; omega, by omega, by rw [hsb'.out]; exact cut_whole (by rw [size_sec, h64'.out])⟩
            have cV : ∀ d os, Calls Try.prog 9 #[.agg f9.cells] (Sort.grow (redrawn wc d) os) fun e w'' => e = .returned (.agg (sec f9.sec)) ∧ ∃ p : Regrown, w'' = Sort.grow (redrawn wc p.d) p.os := fun d os => Calls.regrown_of (rwrite_walk _ f9 hdz he1 hp1)
            clear hq
            refine wp_region_quiet_below (by kernel_rfl) (by kernel_rfl) ?_
            iterate 14 (go_big_quiet_step (fail))
            refine BigFrame.wpQuiet_want (by rfl) (fun K hK => ?_)
            refine quiet_load ag_rf (.tmp 7) B 0 f9.cells rfl hQ1 ?_
            go_simp
            refine hK _ ?_
            clear hK K
            iterate 1 (go_big_quiet_step ((go_at_call 9; exact cV _ _)))
            refine BigFrame.wpQuiet_want (by rfl) (fun K hK => ?_)
            refine quiet_load ag_sec (.tmp 1) w.heap.size 0 (sec s) rfl hQ2 ?_
            go_simp
            refine hK _ ?_
            clear hK K
            refine BigFrame.wpQuiet_want (by rfl) (fun K hK => ?_)
            refine quiet_neq (.tmp 51) (.tmp 52) f9.sec s rfl rfl hl9 h64'.out ?_
            go_simp
            refine hK _ ?_
            clear hK K
            repeat (go_big_quiet_step (fail))
            refine wpQuiet_nil ?_
            intro _ hw'
            obtain ⟨⟨dq, osq⟩, hw''⟩ := hw'
            subst hw''
            have hRq := hRx'.out.more (below_regrown wc dq osq)
            have hrr := hres'.out dq osq
            have hfr := hfb'.out dq osq
            obtain ⟨z1, z2⟩ := hRq.end' f9
            have hRq' := Lib.hid hRq
            clear k3 k4 hRq
            clear hQ1 hQ2 cV
            have hRz := hRq'.out.end' Fr.none
            generalize Sort.grow _ _ = Wq at *
            by_cases hq2 : f9.sec = s
            · have hx2 : Hid (readFr s = (f9, true)) := Lib.hid (hx.out.trans (if_pos hq2))
              rw [decide_eq_true hq2]
              clear hq2
              go_wp2_with fail
              exact bodyPost_ret (results_cell_tmp' rfl ag_rf _ rfl z1 rfl (by omega)) rfl ⟨by rw [hx2.out]; rfl, z2⟩
            · have hx2 : Hid (readFr s = (Fr.none, false)) := Lib.hid (hx.out.trans (if_neg hq2))
              rw [decide_eq_false hq2]
              clear hq2 z1 z2
              obtain ⟨z1, z2⟩ := hRz
              go_wp2_with fail
              exact bodyPost_ret (results_cell_tmp' rfl ag_rf _ rfl z1 rfl (by omega)) rfl ⟨by rw [hx2.out]; rfl, z2⟩
end Go.Proofs.Ytlhnhhjpjkgogaa.wl
