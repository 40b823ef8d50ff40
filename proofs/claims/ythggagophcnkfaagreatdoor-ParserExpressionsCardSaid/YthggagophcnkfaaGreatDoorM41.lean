/- Expression and the reference's Expression agree, for a text of any size. The walk of ParserExpressions. -/
import Derived.Test.YthggagophcnkfaaGreatDoorM39
import Derived.Test.YthggagophcnkfaaGreatDoorYExprW
import Derived.Test.YthggagophcnkfaaGreatDoorM37
namespace Go.Proofs.YthggagophcnkfaaGreatDoor.py
open Go.RowKit Go.Proofs.YthggagophcnkfaaGreatDoor.agg Go.Proofs.YthggagophcnkfaaGreatDoor.sx Go.Proofs.YthggagophcnkfaaGreatDoor.lx Go.Proofs.YthggagophcnkfaaGreatDoor.px Go.Proofs.YthggagophcnkfaaGreatDoor.so
set_option linter.unusedSimpArgs false
set_option linter.unusedVariables false
theorem expr_agree (w : World) (hT : TabIn w) (T : ByteArray) : ∃ t l er, (∀ W, Below w.heap.size w W → Calls Tryz.prog 16 #[.string T] W (AEnd W t l er)) ∧ ∀ W, Calls Tryz.prog 17 #[.string T] W (fun e w' => AEnd W t l er e w' ∧ l.length ≤ 50000) := by
 by_cases h : T.size ≤ 4096
 ·exact ⟨(parseE T).1, (parseE T).2, 0, fun W hb => (expr_walk W (hT.below hb) T h).mono fun _ _ g => .of_read g, fun W => (rexpr_walk W T h).mono fun _ _ g => AEnd.of_ref g⟩
 ·exact ⟨_, _, _, fun W hb => (expr_large W T (by omega)).mono fun _ _ g => .of_large g, fun W => (rexpr_large W T (by omega)).mono fun _ _ g => ⟨.of_large g, by decide⟩⟩
end Go.Proofs.YthggagophcnkfaaGreatDoor.py
namespace Go.Proofs.YthggagophcnkfaaGreatDoor.py
open Go.RowKit Go.Proofs.YthggagophcnkfaaGreatDoor.agg Go.Proofs.YthggagophcnkfaaGreatDoor.sx Go.Proofs.YthggagophcnkfaaGreatDoor.lx Go.Proofs.YthggagophcnkfaaGreatDoor.px Go.Proofs.YthggagophcnkfaaGreatDoor.so
set_option linter.unusedSimpArgs false
set_option linter.unusedVariables false
set_option maxRecDepth 100000 in
set_option maxHeartbeats 4000000 in
theorem expressions_walk (w : World) (hT : TabIn w) (T : ByteArray) (hm : T.size ≤ maxLen) : Calls Tryz.prog 5 #[.string T] w fun e w' => e = .returned (.bool true) ∧ Below w.heap.size w w' := by
 unfold maxLen at hm
 have hA := Lib.hid (awake_walk w hT)
 by_cases hmid : 300 < T.size ∧ T.size ≤ 4096
 ·have d1 : decide (300 < (T.size : Int)) = true := decide_eq_true (by omega)
  have d2 : decide ((T.size : Int) ≤ 4096) = true := decide_eq_true (by omega)
  clear hT hmid
  go_enter Tryz.func5, Tryz.ntmps5
  go_wp2_with (go_at_call 9; refine hA.out.mono ?_; rintro e w1 ⟨rfl, b1⟩)
  go_ret
  exact ⟨rfl, b1⟩
 ·obtain ⟨t, l, er, hP, hR⟩ := expr_agree w hT T
  have hP' := Lib.hid hP
  have hR' := Lib.hid hR
  unfold AEnd at hP' hR'
  clear hP hR hT
  have hg : (decide (300 < (T.size : Int)) = false) ∨ (decide (300 < (T.size : Int)) = true ∧ decide ((T.size : Int) ≤ 4096) = false) := by
   by_cases h1 : 300 < T.size
   ·exact .inr ⟨decide_eq_true (by omega), decide_eq_false (by omega)⟩
   ·exact .inl (decide_eq_false (by omega))
  clear hmid
  have hX := Lib.hid (fun (W : World) (ao bo : Option Addr) (cap cap2 : Nat) (h : TreesIn W (.slice ao t.kids.length cap) t.kids) (h2 : TreesIn W (.slice bo t.kids.length cap2) t.kids) => exact_walk W t ao bo cap cap2 h h2)
  unfold ytagg at hX
  have hS := Lib.hid (fun (W : World) (v v2 : Value) (h : DgsIn W v l) (h2 : DgsIn W v2 l) (hl : l.length < 1000000) => rsame_walk W v v2 l h h2 hl)
  go_enter Tryz.func5, Tryz.ntmps5
  rcases hg with d1 | ⟨d1, d2⟩
  all_goals
   go_upto_region 7 with (first
    | (go_at_call 9; refine hA.out.mono ?_; rintro e w1 ⟨rfl, b1⟩; have b1' := Lib.hid b1; clear b1)
    | (go_at_call 16; refine (hP'.out _ b1'.out).mono ?_; rintro e w2 ⟨ao, cp, al, cl, rfl, t2, l2, b2⟩; have t2' := Lib.hid t2; have l2' := Lib.hid l2; have b2' := Lib.hid b2; clear t2 l2 b2)
    | (go_at_call 17; refine (hR'.out _).mono ?_; rintro e w3 ⟨⟨ao3, cp3, al3, cl3, rfl, t3, l3, b3⟩, l4⟩; have t3' := Lib.hid t3; have l3' := Lib.hid l3; have b3' := Lib.hid b3; clear t3 l3 b3))
   clear hA hP' hR'
   obtain ⟨W, hW⟩ : ∃ W, w3.alloc (.cells #[.int .i64 t.kind, .string t.text, .int .i64 t.fr, .int .i64 t.to, .slice ao3 t.kids.length cp3] 25) = W := ⟨_, rfl⟩
   rw [hW]
   have k3 : Below w3.heap.size w3 W := by rw [← hW]; exact (Below.refl _ _).alloc (Nat.le_refl _) _
   have k2 : Below w2.heap.size w2 W := ((Below.refl _ w2).alloc (Nat.le_refl _) _).trans ((bel_then b3'.out b3'.out.size k3).mono (by simp))
   have x : W.heap[w3.heap.size]? = some (.cells #[.int .i64 t.kind, .string t.text, .int .i64 t.fr, .int .i64 t.to, .slice ao3 t.kids.length cp3] 25 (0, 0)) := by rw [← hW]; exact block_new _ _ _
   have y : W.heap[w2.heap.size]? = some (.cells #[.int .i64 t.kind, .string t.text, .int .i64 t.fr, .int .i64 t.to, .slice ao t.kids.length cp] 25 (0, 0)) := (k3.block _ (Nat.lt_of_lt_of_le (by simp) b3'.out.size)).trans ((b3'.out.block _ (by simp)).trans (block_new _ _ _))
   have x0 : W.cell? ⟨w3.heap.size, 0, none⟩ = some (.int .i64 t.kind) := (cell_of_row _ _ _ _ _ _ x).trans rfl
   have x1 : W.cell? ⟨w3.heap.size, 1, none⟩ = some (.string t.text) := (cell_of_row _ _ _ _ _ _ x).trans rfl
   have x2 : W.cell? ⟨w3.heap.size, 2, none⟩ = some (.int .i64 t.fr) := (cell_of_row _ _ _ _ _ _ x).trans rfl
   have x3 : W.cell? ⟨w3.heap.size, 3, none⟩ = some (.int .i64 t.to) := (cell_of_row _ _ _ _ _ _ x).trans rfl
   have x4 : W.cell? ⟨w3.heap.size, 4, none⟩ = some (.slice ao3 t.kids.length cp3) := (cell_of_row _ _ _ _ _ _ x).trans rfl
   have y0 : W.cell? ⟨w2.heap.size, 0, none⟩ = some (.int .i64 t.kind) := (cell_of_row _ _ _ _ _ _ y).trans rfl
   have y1 : W.cell? ⟨w2.heap.size, 1, none⟩ = some (.string t.text) := (cell_of_row _ _ _ _ _ _ y).trans rfl
   have y2 : W.cell? ⟨w2.heap.size, 2, none⟩ = some (.int .i64 t.fr) := (cell_of_row _ _ _ _ _ _ y).trans rfl
   have y3 : W.cell? ⟨w2.heap.size, 3, none⟩ = some (.int .i64 t.to) := (cell_of_row _ _ _ _ _ _ y).trans rfl
   have y4 : W.cell? ⟨w2.heap.size, 4, none⟩ = some (.slice ao t.kids.length cp) := (cell_of_row _ _ _ _ _ _ y).trans rfl
   have hXc := Lib.hid (hX.out W ao ao3 cp cp3 (t2'.out.below k2) (t3'.out.below k3))
   have hSc := Lib.hid (fun (u : World) (h : Below W.heap.size W u) => hS.out u _ _ ((l2'.out.below k2).below h) ((l3'.out.below k3).below h) (by omega))
   have hbW := Lib.hid (bel_then b1'.out b1'.out.size ((b2'.out).trans (k2.mono b2'.out.size)))
   clear hX hS t2' t3' l2' l3' b1' b2' b3' k2 k3 hW x y
   generalize w3.heap.size = Z3 at *
   generalize w2.heap.size = Z2 at *
   generalize t.kids.length = tl at *
   generalize t.kind = tk at *
   generalize t.text = tx at *
   generalize t.fr = tf at *
   generalize t.to = te at *
   go_wp2_with (first
    | (go_at_call 12; refine hXc.out.mono ?_; rintro e w4 ⟨rfl, b4⟩; have b4' := Lib.hid b4; clear b4)
    | (go_at_call 13; refine (hSc.out _ b4'.out).mono ?_; rintro e w5 ⟨rfl, b5⟩; have b5' := Lib.hid b5; clear b5))
   go_ret
   exact ⟨rfl, bel_then hbW.out hbW.out.size (bel_then b4'.out b4'.out.size b5'.out)⟩
end Go.Proofs.YthggagophcnkfaaGreatDoor.py
