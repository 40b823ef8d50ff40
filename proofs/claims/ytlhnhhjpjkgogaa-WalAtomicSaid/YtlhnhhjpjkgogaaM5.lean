/- The opening of a frame among a law's arguments; and that the arguments read as they did where nothing below turned. How the arguments of the log's laws lie in memory, from their readings. -/
import Derived.Test.YtlhnhhjpjkgogaaM1
import Derived.Deep.Slices
import Derived.ProofKit
import Derived.OpenShut
import Derived.Lib.SmallJoins
import Derived.Test.YtlhnhhjpjkgogaaWFew
import Derived.Deep.Strs
namespace Go.Proofs.Ytlhnhhjpjkgogaa.wl
open Go.ChangeShapes Go.WideShapes Go.ChangeAt Go.RowKit Go.Joins Go.Proofs.Ytlhnhhjpjkgogaa.agg Go.Proofs.Ytlhnhhjpjkgogaa.dk

section
variable {H : Type} {enc : TypeId × Value → H}
/-- All arguments at once: where nothing below turned, they read as they did. -/
theorem trodAll_below {P : Program} (hl : laidOutB P = true) {W W' : World} (hb : Below W.heap.size W W') :
    ∀ {ts : List TypeId} {vs : List Value} {ds : List (DataW H)} {ps : List MemPlace}, (ts.all fun t => P.readableRec t && decide (t < P.types.size)) = true → DataW.TrodAll enc P W 0 (fun _ => true) true ts vs ds ps →
      (∀ p ∈ ps, p.block < W.heap.size) → DataW.TrodAll enc P W' 0 (fun b => decide (b < W.heap.size)) true ts vs ds ps
  | [], vs, ds, ps, _, h, _ => by
    obtain ⟨rfl, rfl, rfl⟩ := trodAll_nil h
    exact trodAll_mk0
  | t :: ts, vs, ds, ps, hr, h, hlt => by
    obtain ⟨v, vs', d, ds', p, q, rfl, rfl, rfl, h1, h2⟩ := trodAll_cons h
    simp only [List.all_cons, Bool.and_eq_true, decide_eq_true_eq] at hr
    exact trodAll_cons_mk (Below.trod hl hr.1.1 hr.1.2 h1 hb fun x hx => hlt x (by simp [hx])) (trodAll_below hl hb (by simpa using hr.2) h2 fun x hx => hlt x (by simp [hx]))
end

section
variable {H : Type} {enc : TypeId × Value → H} {w : World} {base : Nat} {spare : Nat → Bool} {held : Bool}
set_option maxRecDepth 100000 in
theorem open_frame {r : Reach} {b0 : Nat} {v : Value} {d : DataW H} {ps : List MemPlace} (hval : Value.okWide Try.prog w r b0 23 v) (hd : DataW.Trod enc Try.prog w base spare held 23 v d ps) :
    ∃ f : Fr, v = .agg f.cells ∧ f.data.size ≤ 9223372036854775807 := by
  obtain ⟨c0, c1, c2, c3, y0, y1, y2, y3, m, rfl, rfl, rfl, h0, h1, h2, h3⟩ := open_agg4 Try.underlying23 (by kernel_rfl) (show Try.prog.cellsOf 23 = 4 by kernel_rfl) hval hd
  obtain ⟨n0, e0, _, _⟩ := DataW.trod_int Try.underlying3 h0
  obtain ⟨n1, e1, _, _⟩ := DataW.trod_int Try.underlying3 h1
  obtain ⟨n2, e2, _, _⟩ := DataW.trod_int Try.underlying3 h2
  obtain ⟨s, e3, _, hs⟩ := DataW.trod_string Try.underlying9 h3
  obtain rfl := (List.cons.inj e0).1
  obtain rfl := (List.cons.inj e1).1
  obtain rfl := (List.cons.inj e2).1
  obtain rfl := (List.cons.inj e3).1
  exact ⟨⟨n0, n1, n2, s⟩, rfl, hs⟩
end
end Go.Proofs.Ytlhnhhjpjkgogaa.wl
namespace Go.Proofs.Ytlhnhhjpjkgogaa.wl
open Go.ChangeShapes Go.WideShapes Go.ChangeAt Go.RowKit Go.Proofs.Ytlhnhhjpjkgogaa.agg Go.Proofs.Ytlhnhhjpjkgogaa.dk

section
variable {H : Type} {enc : TypeId × Value → H} {w : World} {base : Nat} {spare : Nat → Bool} {held : Bool} {fuel : Nat} {x : DataW H × List MemPlace}

theorem plain_at {a : Addr} {u : Value} (h : w.cell? (a.add 0) = some u) : ∃ b o, a = ⟨b, o, none⟩ ∧ b < w.heap.size := by
  obtain ⟨b, o, spot⟩ := a
  have hs : spot = none := by simpa [Addr.add] using World.cell?_spot h
  subst hs
  rw [add_plain] at h
  exact ⟨b, o, rfl, World.block_lt_of_cell? _ ⟨b, o + 0, none⟩ h⟩
theorem strsU_of {v : Value} (h : DataW.trod enc Try.prog w base spare held fuel 35 [v] = some x) :
    ∃ l : List ByteArray, StrsUnder w.heap.size w v l ∧ l.length ≤ 9223372036854775807 := by
  rcases Go.Deep.open_strs Try.underlying35 Try.underlying9 (by kernel_rfl) h with ⟨h0, _⟩ | ⟨a, len, cap, m, Sx, hv, _, hl, hm, hmm, _, hx⟩
  · rw [List.cons.inj h0 |>.1]
    exact ⟨[], ⟨_, _, rfl, fun h => by simp at h⟩, by simp⟩
  · rw [List.cons.inj hv |>.1]
    have hlm : len ≤ m := by rw [hmm]; split <;> omega
    have hll : ((List.range len).map Sx).length = len := by simp
    refine ⟨(List.range len).map Sx, ⟨some a, cap, by rw [hll], fun h0 => ?_⟩, by rw [hll]; exact Nat.le_trans hl hm⟩
    rw [hll] at h0
    obtain ⟨b, o, rfl, hb⟩ := plain_at (hx 0 (by omega)).1
    refine ⟨b, o, rfl, hb, fun i hi => ?_⟩
    rw [hll] at hi
    have := (hx i (by omega)).1
    rw [add_plain] at this
    simpa using this
theorem intsU_of {v : Value} (h : DataW.trod enc Try.prog w base spare held fuel 47 [v] = some x) :
    ∃ sv : List Int, IntsUnder w.heap.size w v sv ∧ sv.length ≤ 9223372036854775807 := by
  rcases open_ints Try.underlying47 Try.underlying3 (by kernel_rfl) h with ⟨h0, _⟩ | ⟨a, len, cap, zs, hv, _, hl, hm, hz, _, hc, hw⟩
  · rw [List.cons.inj h0 |>.1]
    exact ⟨[], ⟨_, _, rfl, fun h => by simp at h⟩, by simp⟩
  · rw [List.cons.inj hv |>.1]
    have hlz : len ≤ zs.length := by rw [hz]; split <;> omega
    have htl : (zs.take len).length = len := by simp; omega
    refine ⟨zs.take len, ⟨some a, cap, by rw [htl], fun h0 => ?_⟩, by rw [htl]; exact Nat.le_trans hl hm⟩
    rw [htl] at h0
    obtain ⟨b, o, rfl, hb⟩ := plain_at (hc 0 (by omega))
    refine ⟨b, o, rfl, hb, fun i hi => ?_⟩
    rw [htl] at hi
    rw [← add_plain, hc i (by omega)]
    congr 2
    simp only [List.getD, List.getElem?_take, if_pos hi]
theorem intU_of {cs : List Value} (h : DataW.trod enc Try.prog w base spare held fuel 3 cs = some x) : ∃ n, cs = [.int .i64 n] := by
  obtain ⟨n, e, _, _⟩ := DataW.trod_int Try.underlying3 h
  exact ⟨n, e⟩
theorem one_of {cs : List Value} {e : TypeId} {t : TypeId} (ht : Try.prog.underlying t = some (.slice e)) (h : DataW.trod enc Try.prog w base spare held fuel t cs = some x) : ∃ v, cs = [v] := by
  rcases Go.Deep.open_slice ht h with ⟨h0, _⟩ | ⟨a, len, cap, m, n, D, Pl, hv, _⟩
  · exact ⟨_, h0⟩
  · exact ⟨_, hv⟩
theorem trodU_size {P : Program} {t : TypeId} {cs : List Value} {fs : Array Field} (ht : P.underlying t = some (.struct fs)) (h : DataW.trod enc P w base spare held fuel t cs = some x) : cs.length = P.cellsOf t :=
  let ⟨_, _, _, _, hl, _⟩ := DataW.trod_struct ht h
  hl
theorem trodU_field {P : Program} {t : TypeId} {cs : List Value} {fs : Array Field} (ht : P.underlying t = some (.struct fs)) (h : DataW.trod enc P w base spare held fuel t cs = some x)
    (i : Nat) (T : TypeId) (o n : Nat) (f : Field) (hf : fs[i]? = some f) (hT : f.type = T) (ho : f.offset = o) (hn : P.cellsOf T = n) :
    ∃ m y, DataW.trod enc P w base spare held m T ((cs.drop o).take n) = some y := by
  obtain ⟨xs, m, _, _, hl, hxl, hx⟩ := DataW.trod_struct ht h
  have h1 := hx i f hf
  have hi : i < xs.length := by rw [hxl]; exact (Array.getElem?_eq_some_iff.1 hf).1
  rw [List.getElem?_eq_getElem hi, hT, ho, hn] at h1
  exact ⟨m, _, h1⟩
theorem actW_of {cs : List Value} (h : DataW.trod enc Try.prog w base spare held fuel 49 cs = some x) :
    ∃ y : ActW, cs = y.cells.toList ∧ StrsUnder w.heap.size w y.rv y.recs ∧ IntsUnder w.heap.size w y.svv y.sv := by
  have hl := trodU_size Try.underlying49 h
  rw [show Try.prog.cellsOf 49 = 4 by kernel_rfl] at hl
  obtain ⟨m0, y0, h0⟩ := trodU_field Try.underlying49 h 0 3 0 1 _ rfl rfl rfl (by kernel_rfl)
  obtain ⟨m1, y1, h1⟩ := trodU_field Try.underlying49 h 1 35 1 1 _ rfl rfl rfl (by kernel_rfl)
  obtain ⟨m2, y2, h2⟩ := trodU_field Try.underlying49 h 2 47 2 1 _ rfl rfl rfl (by kernel_rfl)
  obtain ⟨m3, y3, h3⟩ := trodU_field Try.underlying49 h 3 3 3 1 _ rfl rfl rfl (by kernel_rfl)
  obtain ⟨kind, e0⟩ := intU_of h0
  obtain ⟨rv, e1⟩ := one_of Try.underlying35 h1
  obtain ⟨sv1, e2⟩ := one_of Try.underlying47 h2
  obtain ⟨n, e3⟩ := intU_of h3
  rw [e1] at h1
  rw [e2] at h2
  obtain ⟨recs, hr, _⟩ := strsU_of h1
  obtain ⟨sv, hsv, _⟩ := intsU_of h2
  refine ⟨⟨kind, rv, recs, sv1, sv, n⟩, ?_, hr, hsv⟩
  match cs, hl, e0, e1, e2, e3 with
  | [a, b, c, d], _, e0, e1, e2, e3 =>
    simp at e0 e1 e2 e3
    subst e0 e1 e2 e3
    rfl
theorem listU_choose {α : Type} {p : Nat → α → Prop} : ∀ {n : Nat}, (∀ i, i < n → ∃ a, p i a) → ∃ l : List α, l.length = n ∧ ∀ i (h : i < l.length), p i l[i] := by
  intro n h
  classical
  have : ∀ i : Fin n, ∃ a, p i a := fun i => h i i.2
  obtain ⟨f, hf⟩ := Classical.axiomOfChoice this
  exact ⟨List.ofFn f, by simp, fun i hi => by simpa using hf ⟨i, by simpa using hi⟩⟩
theorem actsW_of {v : Value} (h : DataW.trod enc Try.prog w base spare held fuel 40 [v] = some x) :
    ∃ l : List ActW, ActsW w.heap.size w v l ∧ l.length ≤ 9223372036854775807 := by
  rcases Go.Deep.open_slice Try.underlying40 h with ⟨h0, _⟩ | ⟨a, len, cap, m, n, D, Pl, hv, _, hl, hm, hmm, _, hx⟩
  · rw [List.cons.inj h0 |>.1]
    exact ⟨[], ⟨⟨_, _, rfl, fun h => by simp at h⟩, by simp, by simp⟩, by simp⟩
  · rw [List.cons.inj hv |>.1]
    rw [show Try.prog.cellsOf 49 = 4 by kernel_rfl] at hx
    have hlm : len ≤ m := by rw [hmm]; split <;> omega
    obtain ⟨l, hll, hp⟩ := listU_choose (n := len) (p := fun i (y : ActW) => (w.cells? base (a.add (i * 4)) 4 = some y.cells.toList) ∧ StrsUnder w.heap.size w y.rv y.recs ∧ IntsUnder w.heap.size w y.svv y.sv) (fun i hi => by
      obtain ⟨cs, h1, h2⟩ := hx i (by omega)
      obtain ⟨y, rfl, h3, h4⟩ := actW_of h2
      exact ⟨y, h1, h3, h4⟩)
    have cell : ∀ i (h : i < l.length) j, j < 4 → w.cell? ((a.add (i * 4)).add j) = l[i].cells.toList[j]? := fun i hi j hj => (World.cells?_some (hp i hi).1).2.2 j hj
    refine ⟨l, ⟨⟨some a, cap, by rw [hll], fun h0 => ?_⟩, fun y hy => ?_, fun y hy => ?_⟩, by rw [hll]; exact Nat.le_trans hl hm⟩
    · have c0 := cell 0 h0 0 (by omega)
      have s0 : l[0].cells.toList[0]? = some (.int .i64 l[0].kind) := rfl
      rw [s0, Nat.zero_mul] at c0
      obtain ⟨b, o, spot⟩ := a
      have hs : spot = none := by simpa [Addr.add] using World.cell?_spot c0
      subst hs
      refine ⟨b, o, rfl, ?_, fun i hi j u hu => ?_⟩
      · rw [add_plain, add_plain] at c0
        exact World.block_lt_of_cell? _ ⟨b, o + 0 + 0, none⟩ c0
      · have hj : j < 4 := (List.getElem?_eq_some_iff.1 hu).1
        rw [← hu, ← cell i hi j hj, add_plain, add_plain]
    · obtain ⟨i, hi, rfl⟩ := List.mem_iff_getElem.1 hy
      exact (hp i hi).2.1
    · obtain ⟨i, hi, rfl⟩ := List.mem_iff_getElem.1 hy
      exact (hp i hi).2.2
set_option maxRecDepth 100000 in
theorem open_actsW {r : Reach} {b0 : Nat} {v : Value} {d : DataW H} {ps : List MemPlace} (hval : Value.okWide Try.prog w r b0 40 v) (hd : DataW.Trod enc Try.prog w base spare held 40 v d ps) :
    ∃ l : List ActW, ActsW w.heap.size w v l ∧ l.length ≤ 9223372036854775807 := by
  obtain ⟨fuel, hf⟩ := hd
  obtain ⟨a, len, cap, rfl⟩ := okWide_slice Try.underlying40 hval
  exact actsW_of hf
set_option maxRecDepth 100000 in
theorem open_intsU {r : Reach} {b0 : Nat} {v : Value} {d : DataW H} {ps : List MemPlace} (hval : Value.okWide Try.prog w r b0 47 v) (hd : DataW.Trod enc Try.prog w base spare held 47 v d ps) :
    ∃ l : List Int, IntsUnder w.heap.size w v l ∧ l.length ≤ 9223372036854775807 := by
  obtain ⟨fuel, hf⟩ := hd
  obtain ⟨a, len, cap, rfl⟩ := okWide_slice Try.underlying47 hval
  exact intsU_of hf
set_option maxRecDepth 100000 in
theorem open_strsU {r : Reach} {b0 : Nat} {v : Value} {d : DataW H} {ps : List MemPlace} (hval : Value.okWide Try.prog w r b0 35 v) (hd : DataW.Trod enc Try.prog w base spare held 35 v d ps) :
    ∃ l : List ByteArray, StrsUnder w.heap.size w v l ∧ l.length ≤ 9223372036854775807 := by
  obtain ⟨fuel, hf⟩ := hd
  obtain ⟨a, len, cap, rfl⟩ := okWide_slice Try.underlying35 hval
  exact strsU_of hf
end
end Go.Proofs.Ytlhnhhjpjkgogaa.wl
