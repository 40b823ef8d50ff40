/- What a parser's row gives: the listed table; that the arguments read as they did where nothing below turned; the witness. -/
import Derived.Test.YthggagophcnkfaaGreatDoorTie
import Derived.Test.YthggagophcnkfaaGreatDoorM3
import Derived.Deep.Slices
import Derived.ProofKit
import Derived.OpenShut
import Derived.LaidMore
import Derived.Lay
import Derived.SevenTiedAt
import Derived.Stop.Joined
import Derived.Lib.LaidTab
import Derived.Lib.LaidU8
import Derived.Lib.SmallJoins
namespace Go.Proofs.YthggagophcnkfaaGreatDoor.px
open Go.ChangeShapes Go.WideShapes Go.ChangeAt Go.RowKit Go.Joins
section
variable {H : Type} {enc : TypeId × Value → H}
theorem trodAll_below {P : Program} (hl : laidOutB P = true) {W W' : World} (hb : Below W.heap.size W W') :
 ∀ {ts : List TypeId} {vs : List Value} {ds : List (DataW H)} {ps : List MemPlace}, (ts.all fun t => P.readableRec t && decide (t < P.types.size)) = true → DataW.TrodAll enc P W 0 (fun _ => true) true ts vs ds ps →
  (∀ p ∈ ps, p.block < W.heap.size) → DataW.TrodAll enc P W' 0 (fun b => decide (b < W.heap.size)) true ts vs ds ps
 | [], vs, ds, ps, _, h, _ => by
  obtain ⟨rfl, rfl, rfl⟩ := trodAll_nil h
  exact trodAll_mk0
 | t :: ts, vs, ds, ps, hr, h, hlt => by
  obtain ⟨v, vs', d, ds', p, q, rfl, rfl, rfl, h1, h2⟩ := trodAll_cons h
  simp only [List.all_cons, Bool.and_eq_true, decide_eq_true_eq] at hr
  exact trodAll_cons_mk (Below.trod hl hr.1.1 hr.1.2 h1 hb fun x hx => hlt x (by simp [hx])) (trodAll_below hl hb (by simpa using hr.2) h2 fun x hx => hlt x (by simp [hx]))
end
theorem row_own : ownKnob Tryz.prog.godebug = none := by kernel_rfl
theorem row_laidOut : laidOutB Tryz.prog = true := by kernel_rfl
theorem ascii_data : (Rows.laid_strings_asciiSpace : DataW Unit) = Lib.tabData .u8 Lib.asciiSpaceTab := by kernel_rfl
theorem ascii_glob : Tryz.prog.globalNamed "strings.asciiSpace" = some 2 := by kernel_rfl
theorem ascii_type : (Tryz.prog.globals[2]?).map (·.type) = some 151 := by kernel_rfl
noncomputable def rowLaid : List (String × DataW Unit) := Rows.parserReportsRow.laid
theorem laid_has : ("strings.asciiSpace", (Rows.laid_strings_asciiSpace : DataW Unit)) ∈ rowLaid := by
 unfold rowLaid
 simp [Rows.parserReportsRow]
theorem tab_of_laid {W : World} (h : laidMetH Tryz.prog rowLaid W) : Go.Proofs.YthggagophcnkfaaGreatDoor.lx.TabIn W := by
 rw [MakeChecks.laidMetH_plain _ _ _ (by kernel_rfl)] at h
 obtain ⟨g', t', cs, fuel, p, hg', ht', hvar, hd⟩ := Lib.laidMet.reads h laid_has
 obtain rfl := Option.some.inj (ascii_glob.symm.trans hg')
 obtain rfl := Option.some.inj (ascii_type.symm.trans ht')
 rw [ascii_data] at hd
 unfold Go.Proofs.YthggagophcnkfaaGreatDoor.lx.TabIn Lib.TabIs
 rw [hvar, ← Lib.cells_of_tab Tryz.underlying151 Tryz.underlying5 (by kernel_rfl) (by kernel_rfl) hd]
theorem row_met (os : Os) (args : Array Value) : laidMetH Tryz.prog rowLaid ((World.laidAll Tryz.prog os rowLaid).forCall (fun _ _ => 0) ⟨#[], args, []⟩).memory := by
 rw [MakeChecks.laidMetH_plain _ _ _ (by kernel_rfl)]
 exact laidMet_laidAll _ (by kernel_rfl) (by kernel_rfl)
end Go.Proofs.YthggagophcnkfaaGreatDoor.px
