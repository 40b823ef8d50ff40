/- Short ways to drive a drawn region by hand. No function of the program is walked here. -/
import Derived.Test.YthggagophcnkfaaGreatDoorAgg
import Derived.Deep.RegionHeld3
namespace Go.Proofs.YthggagophcnkfaaGreatDoor.agg
open Go.RowKit
set_option linter.unusedSimpArgs false
set_option linter.unusedVariables false

theorem kA {α : Type} {xs : List α} {i : Nat} (h : i < xs.toArray.size) : xs.toArray[i] = xs[i]'(by simpa using h) := List.getElem_toArray h
theorem kB {α : Type} (a : α) (m : List α) (h : 0 < (a :: m).length) : (a :: m)[0] = a := List.getElem_cons_zero a m h
theorem kC {α : Type} (a : α) (m : List α) (i : Nat) (h : i + 1 < (a :: m).length) : (a :: m)[i + 1] = m[i]'(Nat.lt_of_succ_lt_succ h) := List.getElem_cons_succ a m i h
theorem kD {α : Type} (l : List α) (i : Nat) (a : α) : l.toArray.setIfInBounds i a = (l.set i a).toArray := List.setIfInBounds_toArray l i a
theorem kE {α : Type} {x : α} {xs : List α} {a : α} : (x :: xs).set 0 a = a :: xs := List.set_cons_zero
theorem kF {α : Type} {x : α} {xs : List α} {i : Nat} {a : α} : (x :: xs).set (i + 1) a = x :: xs.set i a := List.set_cons_succ
/-- wpAnyH_take, what is always proved alike proved by itself. -/
theorem tk {P : Program} {md : Region.Mode} {ops : Array Oper} {Q : Exit → Act → World → Prop} {S : World → Prop} {i : Nat} {oi : Oper} {v : Value} {fuel : Nat} {listed : Array Bool} {a : Act} {w : World} (hi : ops[i]? = some oi) (hS : S w)
    (h : wpAnyH P md ops Q S fuel (listed.setIfInBounds i true) (a.put oi.dst v) w)
    (hs : Region.noSelect ops = true := by kernel_rfl) (hf : Region.free md ops listed i = true := by kernel_rfl) (hr : (Region.ready md ops listed).contains i = true := by kernel_rfl)
    (hQ : ∀ c a w, Q (.panic c) (a.put oi.dst v) w → Q (.panic c) a w := by exact fun _ _ _ h => h) (hy : YieldsIf P ops S oi v a := by exact (Or.inl ⟨by rfl, by intro u hu; (try dsimp only at hu); go_simp⟩)) : wpAnyH P md ops Q S (fuel + 1) listed a w :=
  wpAnyH_take hi hs hf hr hQ hy hS h
end Go.Proofs.YthggagophcnkfaaGreatDoor.agg
