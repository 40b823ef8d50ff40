/- The walk of Do where the log is synchronized and nothing fails. -/
import Derived.Test.YtlhnhhjpjkgogaaWDoBase
import Derived.Deep.RegionLaw
import Derived.BigRegion
namespace Go.Proofs.Ytlhnhhjpjkgogaa.wl
open Go.RowKit Go.Proofs.Ytlhnhhjpjkgogaa.agg Go.Proofs.Ytlhnhhjpjkgogaa.dk
set_option linter.unusedSimpArgs false
set_option linter.unusedVariables false

set_option maxRecDepth 100000 in
set_option maxHeartbeats 4000000 in
theorem do_sync {w W : World} {Q L D g n S a b e t P : Nat} {R1 R2 : List ByteArray} (h : SyAt w Q L D g n S a b e t R1 R2 P W) (hP : P ≤ 400000) (x : ActW) (hx : ∃ ao cap, x.rv = .slice ao x.recs.length cap) (hx2 : ∃ ao cap, x.svv = .slice ao x.sv.length cap) (hk0 : x.kind = 1) (hR : R1.length + R2.length ≤ 10000) :
    Calls Try.prog 31 #[.pointer (some ⟨Q, 0, none⟩), .agg x.cells] W fun e9 W' => e9 = .returned (.int .i64 1) ∧ SyAt w Q L D g n S a b e t (R1 ++ R2) [] P W' := by
  obtain ⟨pv, st, X, cv, mv, nv, fl, hp⟩ := h
  obtain ⟨ro, rc, hrv⟩ := id hx
  obtain ⟨so, sc, hsv⟩ := hx2
  have hbz : Below W.heap.size W (W.alloc (.cells x.cells 49)) := (Below.refl _ _).alloc (Nat.le_refl _) _
  have hbox : (W.alloc (.cells x.cells 49)).heap[W.heap.size]? = some (.cells x.cells 49 (0, 0)) := heap_alloc_new _ _
  have y0 : (W.alloc (.cells x.cells 49)).cell? ⟨W.heap.size, 0, none⟩ = some (.int .i64 1) := (cell_of_row _ _ _ _ _ _ hbox).trans (by rw [← hk0]; rfl)
  have hp1 := hp.quiet hbz
  have hp1' := Lib.hid hp1
  obtain ⟨d0, d1, d2, d3, d4⟩ := hp1.cell
  have he0 : Hid (Calls Try.prog 29 #[.pointer (some ⟨L, 0, none⟩)] (W.alloc (.cells x.cells 49)) fun e w' => e = .returned (.int .i64 0) ∧ (W.alloc (.cells x.cells 49)) = w') := errL hp1.log
  have hu : x.cells = #[.int .i64 x.kind, .slice ro x.recs.length rc, .slice so x.sv.length sc, .int .i64 x.n] := by unfold ActW.cells; rw [hrv, hsv]
  have hu' : Hid ((W.alloc (.cells x.cells 49)) = W.alloc (.cells #[.int .i64 1, .slice ro x.recs.length rc, .slice so x.sv.length sc, .int .i64 x.n] 49)) := by rw [hu, hk0]; exact rfl
  rw [hu, hk0]
  have hS := sync_walk hp1.log (by have := hp1.pend; omega)
  obtain ⟨p1, p2, p3⟩ := sync_fine (e := e) (b := b) (a := a) (t := t) hp1.fine
  rw [p1] at hS
  have hS' := Lib.hid hS
  have p2' := Lib.hid p2
  have p3' := Lib.hid p3
  clear hp hbz hbox hp1 hx hrv hsv hu hk0 d0 d2 d3 d4 hS p1 p2 p3
  go_enter Try.func31, Try.ntmps31
  go_upto_region 1 with fail
  rw [← hu'.out]
  generalize W.alloc (.cells x.cells 49) = W1 at *
  generalize W.heap.size = Z at *
  clear hu'
  go_wp2_with (first | (go_at_call 29; refine he0.out.mono ?_; rintro e9 _ ⟨rfl, rfl⟩))
  go_at_call 21
  refine hS'.out.mono ?_
  rintro e9 u1 ⟨pv1, rfl, hl1, hk1, hf1⟩
  obtain ⟨f1, f2, f3, f4, f5, f6, f7, f8⟩ := hp1'.out.turn hl1 hk1 hf1
  have hcs := f4
  have hms := own_strs f6
  have f1' := Lib.hid f1
  have f2' := Lib.hid f2
  have f3' := Lib.hid f3
  have f8' := Lib.hid f8
  have hl1' := Lib.hid hl1
  have hcs' := Lib.hid hcs
  have hms' := Lib.hid hms
  have hQ1 := lt_of_block f2
  have c2 : u1.cell? ⟨Q, 2, none⟩ = some cv := (cell_of_row _ _ _ _ _ _ f2).trans rfl
  have c3 : u1.cell? ⟨Q, 3, none⟩ = some mv := (cell_of_row _ _ _ _ _ _ f2).trans rfl
  clear f1 f2 f3 f4 f5 f6 f7 f8 hl1 hk1 hf1 hcs hms hS' he0 d1 y0
  obtain ⟨i0, hi, hz0, hz1, hz2⟩ := info_parts info_strA
  go_wp2_with fail
  go_region_law (first
    | (refine step_append_rd rfl (.tmp 108) (.tmp 112) 35 rfl u1.heap.size 9 i0 _ 1 16 Try.underlying35 hi hz0 hz1 hz2 (by decide) _ 0 [] rfl (.inl ⟨rfl, rfl, .inr ⟨_, rfl⟩⟩) _ R1.length (strsV R1) rfl ((hcs'.out.below (by repeat (first | exact Below.refl _ _ | apply bl_drew | apply bl_alloc))).rd) (strsV_one _) (by unfold maxLen; omega) (by omega) (by first | exact Nat.le_refl _ | simp) ?_; intro ao1 cc1 wa hrow1 hba; (simp only [Nat.zero_add, List.nil_append] at hrow1); have hwa : Below u1.heap.size u1 wa := Below.trans (by repeat (first | exact Below.refl _ _ | apply bl_drew | apply bl_alloc)) hba; have hQa := Nat.lt_of_lt_of_le hQ1 hwa.size; have c2a := (hwa.cell (p := ⟨Q, 2, none⟩) hQ1).trans c2; have c3a := (hwa.cell (p := ⟨Q, 3, none⟩) hQ1).trans c3)
    | (refine step_append_rd rfl (.tmp 113) (.tmp 117) 35 rfl u1.heap.size 9 i0 _ 1 16 Try.underlying35 hi hz0 hz1 hz2 (by decide) _ R1.length (strsV R1) rfl (hrow1.below (by repeat (first | exact Below.refl _ _ | apply bl_drew | apply bl_alloc))) _ R2.length (strsV R2) rfl ((hms'.out.below (Below.trans hwa (by repeat (first | exact Below.refl _ _ | exact (Below.refl _ _).mono hwa.size | apply Below.drew)))).rd) (strsV_one _) (by unfold maxLen; omega) (by omega) (by first | exact hwa.size | (simp; exact hwa.size)) ?_; intro ao2 cc2 wb hrow2 hbb; have hwb : Below u1.heap.size u1 wb := Below.trans hwa (Below.trans (by repeat (first | exact Below.refl _ _ | exact (Below.refl _ _).mono hwa.size | apply Below.drew)) hbb); have hQb := Nat.lt_of_lt_of_le hQ1 hwb.size; have boxb := (hwb.block Q hQ1).trans f2'.out; obtain ⟨k2, k3, k4, k5⟩ := world_cells boxb)
    )
  all_goals
    rw [← strsV_app] at hrow2
    obtain ⟨hin, hblk⟩ := rowB_in hrow2 (by rw [List.length_append])
    obtain ⟨b1, _, b3, _⟩ := setcells_box (cv' := .slice ao2 (R1.length + R2.length) cc2) (mv' := .slice none 0 0) boxb
    have hfin := settle (P := P) (hl1'.out.below hwb) f1'.out hp1'.out.boxQ f3'.out p2'.out hp1'.out.sess hp1'.out.ht (by rw [p3'.out]; exact Nat.zero_le _) hin (fun h0 q hq => by
      obtain ⟨g1, g2⟩ := hblk h0 q hq
      exact ⟨by omega, fun e1 => by have := hl1'.out.lt q e1; omega, g2⟩) (f8'.out.trans (hwb.mono f8'.out.size)) b3 b1
    have hfin' := Lib.hid hfin
    clear hrow1 hba hwa hQa c2a c3a hrow2 hbb hwb hQb boxb k2 k3 k4 k5 hin hblk b1 b3 hfin c2 c3
    generalize (wb.setCell _ _).setCell _ _ = W9 at *
    go_wp2_with fail
    go_ret
    exact ⟨rfl, _, _, _, _, _, _, _, hfin'.out⟩
end Go.Proofs.Ytlhnhhjpjkgogaa.wl
