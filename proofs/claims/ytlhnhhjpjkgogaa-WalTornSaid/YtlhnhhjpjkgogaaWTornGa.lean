/- WalTorn on an input that it leaves out. Conditions 0 to 1. -/
import Derived.Test.YtlhnhhjpjkgogaaWTornBase
namespace Go.Proofs.Ytlhnhhjpjkgogaa.wl
open Go.RowKit Go.Proofs.Ytlhnhhjpjkgogaa.agg Go.Proofs.Ytlhnhhjpjkgogaa.dk
attribute [local go_sem] max_int min_int
set_option maxRecDepth 100000 in
set_option maxHeartbeats 4000000 in
theorem torn_skip0 (w : World) (f g : Fr) (front : Int) (c0 : (50 : Int) < f.data.size) :
    Calls Try.prog 3 #[.agg f.cells, .agg g.cells, .int .u8 front] w fun e w' => e = .returned (.bool true) ∧ Below w.heap.size w w' := by
  have hP : Pair w f g ((w.alloc (.cells f.cells 23)).alloc (.cells g.cells 23)) := ⟨((Below.refl _ _).alloc (Nat.le_refl _) _).alloc (by simp) _, heap_alloc2_old w _ _, heap_alloc2_new w _ _⟩
  have hP' := Lib.hid hP
  clear hP
  unfold Fr.cells
  go_enter Try.func3, Try.ntmps3
  go_upto_region 3 with (go_at_call 8; refine (awake_walk _).mono ?_; rintro e w1 ⟨rfl, hb1⟩)
  have hP1 := hP'.out.more hb1
  have hP1' := Lib.hid hP1
  obtain ⟨x0, x1, x2, x3⟩ := box_facts hP1.one
  obtain ⟨y0, y1, y2, y3⟩ := box_facts hP1.two
  clear hP' hb1 hP1
  go_wp2_with fail
  all_goals
    go_ret
    exact ⟨rfl, hP1'.out.below⟩
set_option maxRecDepth 100000 in
set_option maxHeartbeats 4000000 in
theorem torn_skip1 (w : World) (f g : Fr) (front : Int) (c0 : ¬ (50 : Int) < f.data.size) (c1 : (50 : Int) < g.data.size) :
    Calls Try.prog 3 #[.agg f.cells, .agg g.cells, .int .u8 front] w fun e w' => e = .returned (.bool true) ∧ Below w.heap.size w w' := by
  have hP : Pair w f g ((w.alloc (.cells f.cells 23)).alloc (.cells g.cells 23)) := ⟨((Below.refl _ _).alloc (Nat.le_refl _) _).alloc (by simp) _, heap_alloc2_old w _ _, heap_alloc2_new w _ _⟩
  have hP' := Lib.hid hP
  clear hP
  unfold Fr.cells
  go_enter Try.func3, Try.ntmps3
  go_upto_region 3 with (go_at_call 8; refine (awake_walk _).mono ?_; rintro e w1 ⟨rfl, hb1⟩)
  have hP1 := hP'.out.more hb1
  have hP1' := Lib.hid hP1
  obtain ⟨x0, x1, x2, x3⟩ := box_facts hP1.one
  obtain ⟨y0, y1, y2, y3⟩ := box_facts hP1.two
  clear hP' hb1 hP1
  go_wp2_with fail
  all_goals
    go_ret
    exact ⟨rfl, hP1'.out.below⟩
end Go.Proofs.Ytlhnhhjpjkgogaa.wl
