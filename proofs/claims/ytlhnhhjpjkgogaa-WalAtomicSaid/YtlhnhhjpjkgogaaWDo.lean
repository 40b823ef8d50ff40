/- Do, whatever the call, while nothing fails. -/
import Derived.Test.YtlhnhhjpjkgogaaWDo0
import Derived.Test.YtlhnhhjpjkgogaaWDo1
import Derived.Test.YtlhnhhjpjkgogaaWDo2
namespace Go.Proofs.Ytlhnhhjpjkgogaa.wl
open Go.RowKit Go.Proofs.Ytlhnhhjpjkgogaa.agg Go.Proofs.Ytlhnhhjpjkgogaa.dk
set_option linter.unusedSimpArgs false
set_option linter.unusedVariables false

set_option maxRecDepth 100000 in
set_option maxHeartbeats 4000000 in
theorem do_less {w W : World} {Q L D g n S a b e t P : Nat} {R1 R2 : List ByteArray} (h : SyAt w Q L D g n S a b e t R1 R2 P W) (x : ActW) (hx : ∃ ao cap, x.rv = .slice ao x.recs.length cap) (hx2 : ∃ ao cap, x.svv = .slice ao x.sv.length cap) (hk0 : x.kind < 0) :
    Calls Try.prog 31 #[.pointer (some ⟨Q, 0, none⟩), .agg x.cells] W fun e9 W' => e9 = .returned (.int .i64 1) ∧ SyAt w Q L D g n S a b e t R1 R2 P W' := by
  obtain ⟨pv, st, X, cv, mv, nv, fl, hp⟩ := h
  obtain ⟨ro, rc, hrv⟩ := id hx
  obtain ⟨so, sc, hsv⟩ := hx2
  have hbz : Below W.heap.size W (W.alloc (.cells x.cells 49)) := (Below.refl _ _).alloc (Nat.le_refl _) _
  have hbox : (W.alloc (.cells x.cells 49)).heap[W.heap.size]? = some (.cells x.cells 49 (0, 0)) := heap_alloc_new _ _
  have y0 : (W.alloc (.cells x.cells 49)).cell? ⟨W.heap.size, 0, none⟩ = some (.int .i64 x.kind) := (cell_of_row _ _ _ _ _ _ hbox).trans rfl
  have hp1 := hp.quiet hbz
  have hp1' := Lib.hid hp1
  obtain ⟨d0, d1, d2, d3, d4⟩ := hp1.cell
  have he0 : Hid (Calls Try.prog 29 #[.pointer (some ⟨L, 0, none⟩)] (W.alloc (.cells x.cells 49)) fun e w' => e = .returned (.int .i64 0) ∧ (W.alloc (.cells x.cells 49)) = w') := errL hp1.log
  have hu : x.cells = #[.int .i64 x.kind, .slice ro x.recs.length rc, .slice so x.sv.length sc, .int .i64 x.n] := by unfold ActW.cells; rw [hrv, hsv]
  have hu' : Hid ((W.alloc (.cells x.cells 49)) = W.alloc (.cells #[.int .i64 x.kind, .slice ro x.recs.length rc, .slice so x.sv.length sc, .int .i64 x.n] 49)) := by rw [hu]; exact rfl
  rw [hu]
  have g0 : (x.kind == 0) = false := by simp; omega
  have g1 : (x.kind == 1) = false := by simp; omega
  have g2 : (x.kind == 2) = false := by simp; omega
  have g3 : (x.kind == 3) = false := by simp; omega
  have g4 : (x.kind == 4) = false := by simp; omega
  clear hp hbz hbox hp1 hx hrv hsv hu d0 d2 d3 d4 hk0
  generalize x.kind = kk at *
  go_enter Try.func31, Try.ntmps31
  go_upto_region 1 with fail
  rw [← hu'.out]
  generalize W.alloc (.cells x.cells 49) = W1 at *
  generalize W.heap.size = Z at *
  clear hu'
  go_wp2_with (first | (go_at_call 29; refine he0.out.mono ?_; rintro e9 _ ⟨rfl, rfl⟩))
  go_ret
  exact ⟨rfl, _, _, _, _, _, _, _, hp1'.out⟩
theorem do_any {w W : World} {Q L D g n S a b e t P : Nat} {R1 R2 : List ByteArray} (h : SyAt w Q L D g n S a b e t R1 R2 P W) (hP : P ≤ 400000) (x : ActW) (hx : StrsUnder w.heap.size w x.rv x.recs) (hx2 : IntsUnder w.heap.size w x.svv x.sv) (h6 : x.recs.length ≤ 6) (h300 : ∀ r ∈ x.recs, r.size ≤ 300) (hk2 : x.kind ≤ 2) (he : e + 1 < 256) (hR : R1.length + R2.length ≤ 10000) :
    Calls Try.prog 31 #[.pointer (some ⟨Q, 0, none⟩), .agg x.cells] W (DoEnd w Q L D g n S e (R1.length + R2.length + 6) (P + 60)) := by
  have hx1 : ∃ ao cap, x.rv = .slice ao x.recs.length cap := by
    obtain ⟨ao, cap, h, _⟩ := hx
    exact ⟨ao, cap, h⟩
  have hx3 : ∃ ao cap, x.svv = .slice ao x.sv.length cap := by
    obtain ⟨ao, cap, h, _⟩ := hx2
    exact ⟨ao, cap, h⟩
  by_cases k0 : x.kind = 0
  · refine (do_append h hP x hx hx3 h6 h300 k0 hR).mono ?_
    rintro e9 W' ⟨rfl, hW'⟩
    refine ⟨rfl, a, b, e, _, R1, _, by omega, ?_, hW'⟩
    have := acc_len S x.recs t
    rw [List.length_append]
    omega
  by_cases k1 : x.kind = 1
  · refine (do_sync h hP x hx1 hx3 k1 hR).mono ?_
    rintro e9 W' ⟨rfl, hW'⟩
    exact ⟨rfl, a, b, e, _, _, [], by omega, by simp only [List.length_append, List.length_nil]; omega, hW'.more (by omega)⟩
  by_cases k2 : x.kind = 2
  · refine (do_check h hP x hx hx3 h6 h300 k2 he).mono ?_
    rintro e9 W' ⟨rfl, a', b', e', t', R1', R2', g1, g2, hW'⟩
    exact ⟨rfl, a', b', e', t', R1', R2', g1, g2, hW'.more (by omega)⟩
  · refine (do_less h x hx1 hx3 (by omega)).mono ?_
    rintro e9 W' ⟨rfl, hW'⟩
    exact ⟨rfl, a, b, e, t, R1, R2, by omega, by omega, hW'.more (by omega)⟩
end Go.Proofs.Ytlhnhhjpjkgogaa.wl
