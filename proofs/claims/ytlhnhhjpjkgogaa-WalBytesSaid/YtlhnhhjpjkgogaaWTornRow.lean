/- The opening of a frame among a law's arguments; and that the arguments read as they did where nothing below turned. -/
import Derived.Test.YtlhnhhjpjkgogaaWPlain
import Derived.Deep.Slices
import Derived.ProofKit
import Derived.OpenShut
import Derived.Lib.SmallJoins
namespace Go.Proofs.Ytlhnhhjpjkgogaa.wl
open Go.ChangeShapes Go.WideShapes Go.ChangeAt Go.RowKit Go.Joins Go.Proofs.Ytlhnhhjpjkgogaa.agg Go.Proofs.Ytlhnhhjpjkgogaa.dk

section
variable {H : Type} {enc : TypeId × Value → H}
/-- All arguments at once: where nothing below turned, they read as they did. -/
theorem trodAll_below {P : Program} (hl : laidOutB P = true) {W W' : World} (hb : Below W.heap.size W W') :
    ∀ {ts : List TypeId} {vs : List Value} {ds : List (DataW H)} {ps : List MemPlace}, (ts.all fun t => P.readableRec t && decide (t < P.types.size)) = true → DataW.TrodAll enc P W 0 (fun _ => true) true ts vs ds ps →
      (∀ p ∈ ps, p.block < W.heap.size) → DataW.TrodAll enc P W' 0 (fun b => decide (b < W.heap.size)) true ts vs ds ps
  | [], vs, ds, ps, _, h, _ => by
    obtain ⟨rfl, rfl, rfl⟩ := trodAll_nil h
    exact trodAll_mk0
  | t :: ts, vs, ds, ps, hr, h, hlt => by
    obtain ⟨v, vs', d, ds', p, q, rfl, rfl, rfl, h1, h2⟩ := trodAll_cons h
    simp only [List.all_cons, Bool.and_eq_true, decide_eq_true_eq] at hr
    exact trodAll_cons_mk (Below.trod hl hr.1.1 hr.1.2 h1 hb fun x hx => hlt x (by simp [hx])) (trodAll_below hl hb (by simpa using hr.2) h2 fun x hx => hlt x (by simp [hx]))
end

section
variable {H : Type} {enc : TypeId × Value → H} {w : World} {base : Nat} {spare : Nat → Bool} {held : Bool}
set_option maxRecDepth 100000 in
theorem open_frame {r : Reach} {b0 : Nat} {v : Value} {d : DataW H} {ps : List MemPlace} (hval : Value.okWide Try.prog w r b0 23 v) (hd : DataW.Trod enc Try.prog w base spare held 23 v d ps) :
    ∃ f : Fr, v = .agg f.cells ∧ f.data.size ≤ 9223372036854775807 := by
  obtain ⟨c0, c1, c2, c3, y0, y1, y2, y3, m, rfl, rfl, rfl, h0, h1, h2, h3⟩ := open_agg4 Try.underlying23 (by kernel_rfl) (show Try.prog.cellsOf 23 = 4 by kernel_rfl) hval hd
  obtain ⟨n0, e0, _, _⟩ := DataW.trod_int Try.underlying3 h0
  obtain ⟨n1, e1, _, _⟩ := DataW.trod_int Try.underlying3 h1
  obtain ⟨n2, e2, _, _⟩ := DataW.trod_int Try.underlying3 h2
  obtain ⟨s, e3, _, hs⟩ := DataW.trod_string Try.underlying9 h3
  obtain rfl := (List.cons.inj e0).1
  obtain rfl := (List.cons.inj e1).1
  obtain rfl := (List.cons.inj e2).1
  obtain rfl := (List.cons.inj e3).1
  exact ⟨⟨n0, n1, n2, s⟩, rfl, hs⟩
end
end Go.Proofs.Ytlhnhhjpjkgogaa.wl
