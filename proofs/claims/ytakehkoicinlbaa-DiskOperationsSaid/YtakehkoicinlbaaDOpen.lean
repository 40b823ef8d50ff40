/- How the arguments of the disk laws lie in memory, from their readings. -/
import Derived.Test.YtakehkoicinlbaaDFew
import Derived.ProofKit
import Derived.OpenShut
import Derived.Deep.Slices
namespace Go.Proofs.Ytakehkoicinlbaa.dk
open Go.ChangeShapes Go.WideShapes Go.ChangeAt Go.RowKit Go.Proofs.Ytakehkoicinlbaa.agg

section
variable {H : Type} {enc : TypeId × Value → H} {w : World} {base : Nat} {spare : Nat → Bool} {held : Bool} {fuel : Nat} {x : DataW H × List MemPlace}

theorem Laws_block {a : Addr} {u : Value} (h : w.cell? a = some u) : a.block < w.heap.size := by
  exact World.block_lt_of_cell? _ _ h

theorem maxLen_le {n : Nat} (h : n ≤ maxLen) : n ≤ 9223372036854775807 := h

theorem ints_of {v : Value} (h : DataW.trod enc Try.prog w base spare held fuel 25 [v] = some x) :
    ∃ sv, IntsIn w.heap.size w v sv ∧ sv.length ≤ 9223372036854775807 ∧ ∀ n ∈ sv, (Lit.int .i64 n).wf = true := by
  rcases open_ints Try.underlying25 Try.underlying3 (by kernel_rfl) h with ⟨h0, _⟩ | ⟨a, len, cap, zs, hv, _, hl, hm, hz, _, hc, hw⟩
  · rw [List.cons.inj h0 |>.1]
    exact ⟨[], ⟨_, _, rfl, fun h => by simp at h⟩, by simp, by simp⟩
  · rw [List.cons.inj hv |>.1]
    have hlz : len ≤ zs.length := by rw [hz]; split <;> omega
    have htl : (zs.take len).length = len := by simp; omega
    refine ⟨zs.take len, ⟨some a, cap, by rw [htl], fun h0 => ?_⟩, by rw [htl]; exact maxLen_le (Nat.le_trans hl hm), fun n hn => hw n (List.mem_of_mem_take hn)⟩
    rw [htl] at h0
    obtain ⟨b, o, rfl, hcb⟩ := ints_at hc (by omega)
    refine ⟨b, o, rfl, ?_, fun i hi => ?_⟩
    · exact Laws_block (hcb 0 (by omega))
    · rw [htl] at hi
      rw [hcb i (by omega)]
      congr 2
      simp only [List.getD, List.getElem?_take, if_pos hi]

theorem bytes_of {cs : List Value} (h : DataW.trod enc Try.prog w base spare held fuel 23 cs = some x) :
    ∃ data : List Int, data.length = 64 ∧ cs = (sec data).toList ∧ ∀ n ∈ data, (Lit.int .u8 n).wf = true := by
  obtain ⟨xs, m, _, _, hl, hxl, hx⟩ := DataW.trod_array Try.underlying23 h
  rw [show Try.prog.cellsOf 23 = 64 by kernel_rfl] at hl
  rw [show Try.prog.cellsOf 5 = 1 by kernel_rfl] at hx
  have one : ∀ i, i < 64 → ∃ n, cs[i]? = some (.int .u8 n) ∧ (Lit.int .u8 n).wf = true := by
    intro i hi
    have h1 := hx i hi
    rw [List.getElem?_eq_getElem (by omega), Nat.mul_one] at h1
    obtain ⟨n, e, _, hw⟩ := DataW.trod_int Try.underlying5 h1
    refine ⟨n, ?_, hw⟩
    have e2 := congrArg (·[0]?) e
    simpa [List.getElem?_take] using e2
  have all : ∀ u ∈ cs, ∃ n, u = .int .u8 n ∧ (Lit.int .u8 n).wf = true := by
    intro u hu
    obtain ⟨i, hi, rfl⟩ := List.mem_iff_getElem.1 hu
    obtain ⟨n, e, hw⟩ := one i (by omega)
    rw [List.getElem?_eq_getElem hi] at e
    exact ⟨n, Option.some.inj e, hw⟩
  refine ⟨cs.map intOfV, by rw [List.length_map, hl], ?_, fun n hn => ?_⟩
  · simp only [sec, u8s, List.map_map]
    refine (List.map_id cs).symm.trans (List.map_congr_left fun u hu => ?_)
    obtain ⟨n, rfl, _⟩ := all u hu
    rfl
  · obtain ⟨u, hu, rfl⟩ := List.mem_map.1 hn
    obtain ⟨n, rfl, hw⟩ := all u hu
    exact hw

theorem int_of {cs : List Value} (h : DataW.trod enc Try.prog w base spare held fuel 3 cs = some x) : ∃ n, cs = [.int .i64 n] ∧ (Lit.int .i64 n).wf = true := by
  obtain ⟨n, e, _, hw⟩ := DataW.trod_int Try.underlying3 h
  exact ⟨n, e, hw⟩

theorem sint_of {cs : List Value} (h : DataW.trod enc Try.prog w base spare held fuel 25 cs = some x) :
    ∃ v, cs = [v] := by
  rcases open_ints Try.underlying25 Try.underlying3 (by kernel_rfl) h with ⟨h0, _⟩ | ⟨a, len, cap, zs, hv, _⟩
  · exact ⟨_, h0⟩
  · exact ⟨_, hv⟩

theorem list_take_drop {α : Type} (l : List α) (a b : Nat) : (l.drop a).take b ++ l.drop (a + b) = l.drop a := by
  rw [← List.drop_drop, List.take_append_drop]

theorem trod_size {P : Program} {t : TypeId} {cs : List Value} {fs : Array Field} (ht : P.underlying t = some (.struct fs)) (h : DataW.trod enc P w base spare held fuel t cs = some x) : cs.length = P.cellsOf t :=
  let ⟨_, _, _, _, hl, _⟩ := DataW.trod_struct ht h
  hl
theorem trod_field {P : Program} {t : TypeId} {cs : List Value} {fs : Array Field} (ht : P.underlying t = some (.struct fs)) (h : DataW.trod enc P w base spare held fuel t cs = some x)
    (i : Nat) (T : TypeId) (o n : Nat) (f : Field) (hf : fs[i]? = some f) (hT : f.type = T) (ho : f.offset = o) (hn : P.cellsOf T = n) :
    ∃ m y, DataW.trod enc P w base spare held m T ((cs.drop o).take n) = some y := by
  obtain ⟨xs, m, _, _, hl, hxl, hx⟩ := DataW.trod_struct ht h
  have h1 := hx i f hf
  have hi : i < xs.length := by rw [hxl]; exact (Array.getElem?_eq_some_iff.1 hf).1
  rw [List.getElem?_eq_getElem hi, hT, ho, hn] at h1
  exact ⟨m, _, h1⟩

theorem act_of {cs : List Value} (h : DataW.trod enc Try.prog w base spare held fuel 35 cs = some x) :
    ∃ y : ActV, cs = (acells y).toList ∧ y.data.length = 64 ∧ IntsIn w.heap.size w y.svv y.sv := by
  have hl := trod_size Try.underlying35 h
  rw [show Try.prog.cellsOf 35 = 68 by kernel_rfl] at hl
  obtain ⟨m0, y0, h0⟩ := trod_field Try.underlying35 h 0 3 0 1 _ rfl rfl rfl (by kernel_rfl)
  obtain ⟨m1, y1, h1⟩ := trod_field Try.underlying35 h 1 3 1 1 _ rfl rfl rfl (by kernel_rfl)
  obtain ⟨m2, y2, h2⟩ := trod_field Try.underlying35 h 2 23 2 64 _ rfl rfl rfl (by kernel_rfl)
  obtain ⟨m3, y3, h3⟩ := trod_field Try.underlying35 h 3 25 66 1 _ rfl rfl rfl (by kernel_rfl)
  obtain ⟨m4, y4, h4⟩ := trod_field Try.underlying35 h 4 3 67 1 _ rfl rfl rfl (by kernel_rfl)
  obtain ⟨kind, e0, _⟩ := int_of h0
  obtain ⟨sector, e1, _⟩ := int_of h1
  obtain ⟨data, hd, e2, _⟩ := bytes_of h2
  obtain ⟨sv1, e3⟩ := sint_of h3
  rw [e3] at h3
  obtain ⟨sv, hsv, _⟩ := ints_of h3
  obtain ⟨n, e4, _⟩ := int_of h4
  refine ⟨⟨kind, sector, data, sv1, sv, n⟩, ?_, hd, hsv⟩
  have a0 := list_take_drop cs 0 1
  have a1 := list_take_drop cs 1 1
  have a2 := list_take_drop cs 2 64
  have a3 := list_take_drop cs 66 1
  have a4 := list_take_drop cs 67 1
  rw [e0] at a0
  rw [e1] at a1
  rw [e2] at a2
  rw [e3] at a3
  rw [e4] at a4
  simp only [Nat.reduceAdd, List.drop_zero] at a0 a1 a2 a3 a4
  rw [← a0, ← a1, ← a2, ← a3, ← a4, List.drop_of_length_le (by omega)]
  simp [acells]

/-- A list chosen index by index. -/
theorem list_choose {α : Type} {p : Nat → α → Prop} : ∀ {n : Nat}, (∀ i, i < n → ∃ a, p i a) → ∃ l : List α, l.length = n ∧ ∀ i (h : i < l.length), p i l[i] := by
  intro n h
  classical
  have : ∀ i : Fin n, ∃ a, p i a := fun i => h i i.2
  obtain ⟨f, hf⟩ := Classical.axiomOfChoice this
  exact ⟨List.ofFn f, by simp, fun i hi => by simpa using hf ⟨i, by simpa using hi⟩⟩

theorem acts_of {v : Value} (h : DataW.trod enc Try.prog w base spare held fuel 24 [v] = some x) :
    ∃ l : List ActV, ActsIn w.heap.size w v l ∧ l.length ≤ 9223372036854775807 := by
  rcases Go.Deep.open_slice Try.underlying24 h with ⟨h0, _⟩ | ⟨a, len, cap, m, n, D, Pl, hv, _, hl, hm, hmm, _, hx⟩
  · rw [List.cons.inj h0 |>.1]
    exact ⟨[], ⟨⟨_, _, rfl, fun h => by simp at h⟩, by simp, by simp⟩, by simp⟩
  · rw [List.cons.inj hv |>.1]
    rw [show Try.prog.cellsOf 35 = 68 by kernel_rfl] at hx
    have hlm : len ≤ m := by rw [hmm]; split <;> omega
    obtain ⟨l, hll, hp⟩ := list_choose (n := len) (p := fun i (y : ActV) => (w.cells? base (a.add (i * 68)) 68 = some (acells y).toList) ∧ y.data.length = 64 ∧ IntsIn w.heap.size w y.svv y.sv) (fun i hi => by
      obtain ⟨cs, h1, h2⟩ := hx i (by omega)
      obtain ⟨y, rfl, h3, h4⟩ := act_of h2
      exact ⟨y, h1, h3, h4⟩)
    have cell : ∀ i (h : i < l.length) j, j < 68 → w.cell? ((a.add (i * 68)).add j) = (acells l[i]).toList[j]? := fun i hi j hj => (World.cells?_some (hp i hi).1).2.2 j hj
    refine ⟨l, ⟨⟨some a, cap, by rw [hll], fun h0 => ?_⟩, fun y hy => ?_, fun y hy => ?_⟩, by rw [hll]; exact maxLen_le (Nat.le_trans hl hm)⟩
    · have c0 := cell 0 h0 0 (by omega)
      have d0 := (hp 0 h0).2.1
      have s0 : (acells l[0]).toList[0]? = some (.int .i64 l[0].kind) := by rw [Array.getElem?_toList]; exact (acells_get _ d0).1
      rw [s0] at c0
      obtain ⟨b, o, spot⟩ := a
      have hs : spot = none := by simpa [Addr.add] using World.cell?_spot c0
      subst hs
      refine ⟨b, o, rfl, ?_, fun i hi j u hu => ?_⟩
      · exact Laws_block (a := ⟨b, o, none⟩) (by simpa [Addr.add] using c0)
      · have hj : j < 68 := by
          have h1 := (List.getElem?_eq_some_iff.1 hu).1
          have h2 := (hp i hi).2.1
          rw [Array.length_toList, size_acells, h2] at h1
          exact h1
        rw [← hu, ← cell i hi j hj, add_plain, add_plain]
    · obtain ⟨i, hi, rfl⟩ := List.mem_iff_getElem.1 hy
      exact (hp i hi).2.1
    · obtain ⟨i, hi, rfl⟩ := List.mem_iff_getElem.1 hy
      exact (hp i hi).2.2

/-- All arguments at once: where nothing below turned, they read as they did. -/
theorem trodAll_below {P : Program} (hl : laidOutB P = true) {W W' : World} (hb : Below W.heap.size W W') :
    ∀ {ts : List TypeId} {vs : List Value} {ds : List (DataW H)} {ps : List MemPlace}, (ts.all fun t => P.readableRec t && decide (t < P.types.size)) = true → DataW.TrodAll enc P W 0 (fun _ => true) true ts vs ds ps →
      (∀ p ∈ ps, p.block < W.heap.size) → DataW.TrodAll enc P W' 0 (fun b => decide (b < W.heap.size)) true ts vs ds ps
  | [], vs, ds, ps, _, h, _ => by
    obtain ⟨rfl, rfl, rfl⟩ := trodAll_nil h
    exact trodAll_mk0
  | t :: ts, vs, ds, ps, hr, h, hlt => by
    obtain ⟨v, vs', d, ds', p, q, rfl, rfl, rfl, h1, h2⟩ := trodAll_cons h
    simp only [List.all_cons, Bool.and_eq_true, decide_eq_true_eq] at hr
    exact trodAll_cons_mk (Below.trod hl hr.1.1 hr.1.2 h1 hb fun x hx => hlt x (by simp [hx])) (trodAll_below hl hb (by simpa using hr.2) h2 fun x hx => hlt x (by simp [hx]))

/-- An argument of a sector's bytes. -/
theorem open_sec {r : Reach} {b0 : Nat} {v : Value} {d : DataW H} {ps : List MemPlace} (hval : Value.okWide Try.prog w r b0 23 v) (hd : DataW.Trod enc Try.prog w base spare held 23 v d ps) :
    ∃ data : List Int, data.length = 64 ∧ v = .agg (sec data) ∧ ∀ n ∈ data, (Lit.int .u8 n).wf = true := by
  obtain ⟨fuel, hf⟩ := hd
  unfold Value.okWide at hval
  rw [Try.underlying23] at hval
  obtain ⟨cs, rfl, hs, _⟩ := hval
  obtain ⟨data, h1, h2, h3⟩ := bytes_of hf
  refine ⟨data, h1, ?_, h3⟩
  congr 1
  exact Array.ext' (by simpa [Value.cells] using h2)

theorem open_sint {r : Reach} {b0 : Nat} {v : Value} {d : DataW H} {ps : List MemPlace} (hval : Value.okWide Try.prog w r b0 25 v) (hd : DataW.Trod enc Try.prog w base spare held 25 v d ps) :
    ∃ sv, IntsIn w.heap.size w v sv ∧ sv.length ≤ 9223372036854775807 ∧ ∀ n ∈ sv, (Lit.int .i64 n).wf = true := by
  obtain ⟨fuel, hf⟩ := hd
  obtain ⟨a, len, cap, rfl⟩ := okWide_slice Try.underlying25 hval
  exact ints_of hf

theorem open_sact {r : Reach} {b0 : Nat} {v : Value} {d : DataW H} {ps : List MemPlace} (hval : Value.okWide Try.prog w r b0 24 v) (hd : DataW.Trod enc Try.prog w base spare held 24 v d ps) :
    ∃ l : List ActV, ActsIn w.heap.size w v l ∧ l.length ≤ 9223372036854775807 := by
  obtain ⟨fuel, hf⟩ := hd
  obtain ⟨a, len, cap, rfl⟩ := okWide_slice Try.underlying24 hval
  exact acts_of hf
end
end Go.Proofs.Ytakehkoicinlbaa.dk
