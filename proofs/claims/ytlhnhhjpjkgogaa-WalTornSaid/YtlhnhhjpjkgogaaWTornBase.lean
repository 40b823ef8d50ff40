/- What the walk of WalTorn rests on. -/
import Derived.Test.YtlhnhhjpjkgogaaWTornOpen
namespace Go.Proofs.Ytlhnhhjpjkgogaa.wl
open Go.RowKit Go.Proofs.Ytlhnhhjpjkgogaa.agg Go.Proofs.Ytlhnhhjpjkgogaa.dk

/-- The greater and the lesser of two. -/
def imax (x y : Int) : Int := if y > x then y else x
def imin (x y : Int) : Int := if y < x then y else x
theorem max_int (ats : Array TypeId) (ty : TypeId) (k j : IntKind) (x y : Int) : Builtin.max_ ats ty #[.int k x, .int j y] = pure (.int k (imax x y)) := rfl
theorem min_int (ats : Array TypeId) (ty : TypeId) (k j : IntKind) (x y : Int) : Builtin.min_ ats ty #[.int k x, .int j y] = pure (.int k (imin x y)) := rfl
/-- Whether WalTorn's input is one of those that it leaves out. -/
def skips (f g : Fr) : Bool :=
  decide (50 < f.data.size) || decide (50 < g.data.size) || decide (4294967295 ≤ max f.epoch g.epoch) || decide (min f.epoch g.epoch < 1) || decide (1000 < max f.pos g.pos) || decide (min f.pos g.pos < 0) ||
    (decide (f.epoch = g.epoch) && decide (f.pos = g.pos)) || decide (f.kind < 1) || decide (4 < f.kind) || decide (g.kind < 1) || decide (4 < g.kind)
/-- The boxes of the two frames. -/
structure Pair (w : World) (f g : Fr) (W : World) : Prop where
  below : Below w.heap.size w W
  one : W.heap[w.heap.size]? = some (.cells f.cells 23 (0, 0))
  two : W.heap[w.heap.size + 1]? = some (.cells g.cells 23 (0, 0))
theorem Pair.more {w : World} {f g : Fr} {W u : World} (h : Pair w f g W) (hb : Below W.heap.size W u) : Pair w f g u :=
  ⟨⟨hb.os.trans h.below.os, hb.tape.trans h.below.tape, hb.output.trans h.below.output, Nat.le_trans h.below.size hb.size, fun i hi => (hb.block i (Nat.lt_of_lt_of_le hi h.below.size)).trans (h.below.block i hi)⟩,
    (hb.block _ (lt_of_block h.one)).trans h.one, (hb.block _ (lt_of_block h.two)).trans h.two⟩
theorem box_facts {w : World} {B : Nat} {f : Fr} {T : TypeId} (h : w.heap[B]? = some (.cells f.cells T (0, 0))) : w.cell? ⟨B, 0, none⟩ = some (.int .i64 f.epoch) ∧ w.cell? ⟨B, 1, none⟩ = some (.int .i64 f.pos) ∧ w.cell? ⟨B, 2, none⟩ = some (.int .i64 f.kind) ∧ w.cell? ⟨B, 3, none⟩ = some (.string f.data) := by
  simp [World.cell?, h, Fr.cells]
theorem info_rf (f : Fr) : (Try.prog.info? 23).map (·.size) = some f.cells.toList.length := by
  rw [show f.cells.toList.length = 4 from rfl]
  kernel_rfl
theorem skips_no {f g : Fr} (h : skips f g = false) : f.Good ∧ g.Good ∧ ¬ (f.epoch = g.epoch ∧ f.pos = g.pos) ∧ f.epoch < 4294967295 ∧ g.epoch < 4294967295 := by
  rw [Bool.eq_false_iff] at h
  unfold skips at h
  simp only [ne_eq, Bool.or_eq_true, decide_eq_true_eq, Bool.and_eq_true] at h
  refine ⟨⟨by omega, by omega, by omega, by omega⟩, ⟨by omega, by omega, by omega, by omega⟩, by omega, by omega, by omega⟩
end Go.Proofs.Ytlhnhhjpjkgogaa.wl
