/- Writes as the law holds them in memory: rules, rows, readings. -/
import Derived.Test.YtakehkoicinlbaaDTornPlain
import Derived.Test.YtakehkoicinlbaaDOpen
namespace Go.Proofs.Ytakehkoicinlbaa.dk
open Go.ChangeShapes Go.WideShapes Go.ChangeAt Go.RowKit Go.Proofs.Ytakehkoicinlbaa.agg

theorem ag_w47 : IsAgg Try.prog 46 65 := ⟨fun _ => by kernel_rfl, fun _ => by kernel_rfl⟩
theorem zero_w47 (w : World) : (zeroValue 46).run Try.prog w = .ok (.agg (wrow 0 zeros)) w := by kernel_rfl
theorem info_w47 : (Try.prog.info? 46).map (fun i => (i.zero, i.size, i.bytes)) = some (some (.agg (wrow 0 zeros)), 65, 72) := by kernel_rfl
theorem pair_w47 : IsPair Try.prog 46 64 (wrow 0 zeros) where
  desc := ⟨_, _, Try.underlying46, rfl, rfl, fun _ => by kernel_rfl, fun _ => by kernel_rfl⟩
  zero := zero_w47
  size := by rw [size_wrow, length_zeros]
section
variable {a : Act} {w : World} {K : Act → World → Prop} {Q : Exit → Act → World → Prop} {dst : Option Tmp} {ty : TypeId} {pos : String} {aft : Array Edge} {gd : Option (Nat × Bool)}
@[go_sem ↓] theorem load_w47 (x : Operand) (h : aggOk w (a.eval x) 65 = true) : Oper.wp Try.prog ⟨dst, .load 46 x, ty, pos, aft, gd⟩ a w K Q = K (a.put dst (aggAt w (a.eval x) 65)) w := wp_load_agg ag_w47 x h
@[go_sem ↓] theorem store_w47 (x y : Operand) (h : aggOk w (a.eval x) 65 = true) (hy : plain (a.eval y) 65 = true) : Oper.wp Try.prog ⟨dst, .store 46 x y, ty, pos, aft, gd⟩ a w K Q = K (a.put dst undef) (putRow w (a.eval x) (cellsOf (a.eval y))) := wp_store_agg ag_w47 x y h hy
@[go_sem ↓] theorem alloc_w47 : Oper.wp Try.prog ⟨dst, .alloc 46, ty, pos, aft, gd⟩ a w K Q = K (a.put dst (.pointer (some ⟨w.heap.size, 0, none⟩))) (w.alloc (.cells (wrow 0 zeros) 46)) := wp_alloc_agg zero_w47
@[go_sem ↓] theorem build_w47 (x y : Operand) (hx : (a.eval x).oneCell' = true) (hy : sized (a.eval y) 64) : Oper.wp Try.prog ⟨dst, .build 46 #[(0, x), (1, y)], ty, pos, aft, gd⟩ a w K Q = K (a.put dst (pairOf (a.eval x) (a.eval y))) w := wp_build2 pair_w47 x y hx hy
@[go_sem ↓] theorem slice1_w47 (x : Operand) (hx : sized (a.eval x) 65) : Oper.wp Try.prog ⟨dst, .buildSlice 41 1 #[(0, x)], ty, pos, aft, gd⟩ a w K Q = K (a.put dst (.slice (some ⟨w.heap.size, 0, none⟩) 1 1)) (w.alloc (.cells (cellsOf (a.eval x)) 46)) :=
  wp_buildSlice1 (S := 41) (E := 46) (by kernel_rfl) (fun _ => by kernel_rfl) zero_w47 (by omega) (by omega) x hx
end

/-- A slice of writes that lies below block B. -/
structure WritesIn (B : Nat) (w : World) (v : Value) (l : List Wr) : Prop where
  at_ : ∃ ao cap, v = .slice ao l.length cap ∧ (0 < l.length → ∃ b o, ao = some ⟨b, o, none⟩ ∧ b < B ∧ ∀ i (h : i < l.length) j u, (wrow l[i].1 l[i].2).toList[j]? = some u → w.cell? ⟨b, o + i * 65 + j, none⟩ = some u)
  data : ∀ x ∈ l, x.2.length = 64
theorem WritesIn.below {B : Nat} {w w' : World} {v : Value} {l : List Wr} (h : WritesIn B w v l) (hb : Below B w w') : WritesIn B w' v l := by
  refine ⟨?_, h.data⟩
  obtain ⟨ao, cap, rfl, h1⟩ := h.at_
  refine ⟨ao, cap, rfl, fun h0 => ?_⟩
  obtain ⟨b, o, rfl, hB, hc⟩ := h1 h0
  exact ⟨b, o, rfl, hB, fun i hi j u hu => (hb.cell (p := ⟨b, o + i * 65 + j, none⟩) hB).trans (hc i hi j u hu)⟩
theorem WritesIn.get {B : Nat} {w wr : World} {ao : Option Addr} {n cap : Nat} {l : List Wr} (h : WritesIn B w (.slice ao n cap) l) (hb : Below B w wr) (k : Nat) (hk : k < l.length) :
    ∃ b o, ao = some ⟨b, o, none⟩ ∧ (∀ j u, (wrow l[k].1 l[k].2).toList[j]? = some u → wr.cell? ⟨b, o + k * 65 + j, none⟩ = some u) ∧ l[k].2.length = 64 := by
  obtain ⟨ao', cap', e, hat⟩ := h.at_
  injection e with e1 e2 e3
  subst e1
  obtain ⟨b, o, rfl, hBb, hc⟩ := hat (by omega)
  exact ⟨b, o, rfl, fun j u hu => (hb.cell (p := ⟨b, o + k * 65 + j, none⟩) hBb).trans (hc k hk j u hu), h.data l[k] (List.getElem_mem hk)⟩

section
variable {H : Type} {enc : TypeId × Value → H} {w : World} {base : Nat} {spare : Nat → Bool} {held : Bool} {fuel : Nat} {x : DataW H × List MemPlace}
theorem write_of {cs : List Value} (h : DataW.trod enc Try.prog w base spare held fuel 46 cs = some x) : ∃ y : Wr, cs = (wrow y.1 y.2).toList ∧ y.2.length = 64 := by
  have hl := trod_size Try.underlying46 h
  rw [show Try.prog.cellsOf 46 = 65 by kernel_rfl] at hl
  obtain ⟨m0, y0, h0⟩ := trod_field Try.underlying46 h 0 3 0 1 _ rfl rfl rfl (by kernel_rfl)
  obtain ⟨m1, y1, h1⟩ := trod_field Try.underlying46 h 1 23 1 64 _ rfl rfl rfl (by kernel_rfl)
  obtain ⟨sector, e0, _⟩ := int_of h0
  obtain ⟨data, hd, e1, _⟩ := bytes_of h1
  refine ⟨(sector, data), ?_, hd⟩
  have a0 := list_take_drop cs 0 1
  have a1 := list_take_drop cs 1 64
  rw [e0] at a0
  rw [e1] at a1
  simp only [Nat.reduceAdd, List.drop_zero] at a0 a1
  rw [← a0, ← a1, List.drop_of_length_le (by omega)]
  simp [wrow]
theorem writes_of {v : Value} (h : DataW.trod enc Try.prog w base spare held fuel 41 [v] = some x) : ∃ l : List Wr, WritesIn w.heap.size w v l ∧ l.length ≤ 9223372036854775807 := by
  rcases Go.Deep.open_slice Try.underlying41 h with ⟨h0, _⟩ | ⟨a, len, cap, m, n, D, Pl, hv, _, hl, hm, hmm, _, hx⟩
  · rw [List.cons.inj h0 |>.1]
    exact ⟨[], ⟨⟨_, _, rfl, fun h => by simp at h⟩, by simp⟩, by simp⟩
  · rw [List.cons.inj hv |>.1]
    rw [show Try.prog.cellsOf 46 = 65 by kernel_rfl] at hx
    have hlm : len ≤ m := by rw [hmm]; split <;> omega
    obtain ⟨l, hll, hp⟩ := list_choose (n := len) (p := fun i (y : Wr) => (w.cells? base (a.add (i * 65)) 65 = some (wrow y.1 y.2).toList) ∧ y.2.length = 64) (fun i hi => by
      obtain ⟨cs, h1, h2⟩ := hx i (by omega)
      obtain ⟨y, rfl, h3⟩ := write_of h2
      exact ⟨y, h1, h3⟩)
    have cell : ∀ i (h : i < l.length) j, j < 65 → w.cell? ((a.add (i * 65)).add j) = (wrow l[i].1 l[i].2).toList[j]? := fun i hi j hj => (World.cells?_some (hp i hi).1).2.2 j hj
    refine ⟨l, ⟨⟨some a, cap, by rw [hll], fun h0 => ?_⟩, fun y hy => ?_⟩, by rw [hll]; exact maxLen_le (Nat.le_trans hl hm)⟩
    · have c0 := cell 0 h0 0 (by omega)
      have s0 : (wrow l[0].1 l[0].2).toList[0]? = some (.int .i64 l[0].1) := by rw [Array.getElem?_toList]; exact wrow_zero _ _
      rw [s0] at c0
      obtain ⟨b, o, spot⟩ := a
      have hs : spot = none := by simpa [Addr.add] using World.cell?_spot c0
      subst hs
      refine ⟨b, o, rfl, ?_, fun i hi j u hu => ?_⟩
      · exact Laws_block (a := ⟨b, o, none⟩) (by simpa [Addr.add] using c0)
      · have hj : j < 65 := by
          have h1 := (List.getElem?_eq_some_iff.1 hu).1
          have h2 := (hp i hi).2
          rw [Array.length_toList, size_wrow, h2] at h1
          exact h1
        rw [← hu, ← cell i hi j hj, add_plain, add_plain]
    · obtain ⟨i, hi, rfl⟩ := List.mem_iff_getElem.1 hy
      exact (hp i hi).2
theorem open_swrite {r : Reach} {b0 : Nat} {v : Value} {d : DataW H} {ps : List MemPlace} (hval : Value.okWide Try.prog w r b0 41 v) (hd : DataW.Trod enc Try.prog w base spare held 41 v d ps) :
    ∃ l : List Wr, WritesIn w.heap.size w v l ∧ l.length ≤ 9223372036854775807 := by
  obtain ⟨fuel, hf⟩ := hd
  obtain ⟨a, len, cap, rfl⟩ := okWide_slice Try.underlying41 hval
  exact writes_of hf
end

/-- A disk, a row of sectors that is apart from it, and a list of writes that was appended. -/
structure TS (B bb D g : Nat) (w0 w : World) (pv : Value) (st : St) (bl : List (List Int)) (v : Value) (dn : List Wr) : Prop where
  live : Live B D g w0 w pv st
  row : w.heap[bb]? = some (.cells (flatD bl).toArray 23 (0, 0))
  own : w.ownsRow B 46 65 v dn.length (flatP dn)
  n1 : ¬ foot D g pv bb
  n2 : v.ownBlock ≠ some bb
  n3 : ∀ k, v.ownBlock = some k → ¬ foot D g pv k
  ge : B ≤ bb
theorem TS.quiet {B bb D g : Nat} {w0 w w' : World} {pv : Value} {st : St} {bl : List (List Int)} {v : Value} {dn : List Wr} (h : TS B bb D g w0 w pv st bl v dn) (hB : B ≤ w0.heap.size) (hb : Below w.heap.size w w') : TS B bb D g w0 w' pv st bl v dn :=
  { h with
    live := h.live.quiet hB hb
    row := (hb.block bb (lt_of_block h.row)).trans h.row
    own := ownsRow_same h.own (fun k hk => hb.block k (h.own.lt k hk).2) }
theorem TS.done {B bb D g : Nat} {w0 w w' : World} {pv : Value} {st st' : St} {bl : List (List Int)} {v : Value} {dn : List Wr} (h : TS B bb D g w0 w pv st bl v dn) (hB : B ≤ w0.heap.size) (hd : Done D g pv st' w w') : ∃ pv', TS B bb D g w0 w' pv' st' bl v dn := by
  obtain ⟨pv', h1, h2, h3⟩ := hd
  obtain ⟨h4, h5⟩ := live_step h.live.ge (Nat.le_trans hB h.live.below.size) h2 h3
  have hfresh : ∀ k, foot D g pv' k → foot D g pv k ∨ w.heap.size ≤ k := by
    rintro k (rfl | rfl | hk)
    · exact .inl (.inl rfl)
    · exact .inl (.inr (.inl rfl))
    · rcases h3 k hk with h4 | h4
      · exact .inl (.inr (.inr h4))
      · exact .inr h4
  have hlt := lt_of_block h.row
  exact ⟨pv',
    { live := ⟨h1, h4, h.live.below.trans h5⟩
      row := (h2.block bb hlt h.n1).trans h.row
      own := ownsRow_same h.own (fun k hk => h2.block k (h.own.lt k hk).2 (h.n3 k hk))
      n1 := fun e => by
        rcases hfresh bb e with e | e
        · exact h.n1 e
        · omega
      n2 := h.n2
      n3 := fun k hk e => by
        rcases hfresh k e with e | e
        · exact h.n3 k hk e
        · have := (h.own.lt k hk).2; omega
      ge := h.ge }⟩
/-- One more write in the list. -/
theorem TS.append {B bb D g : Nat} {w0 w w' : World} {pv : Value} {st : St} {bl : List (List Int)} {v : Value} {dn : List Wr} (h : TS B bb D g w0 w pv st bl v dn) {v' : Value} {x : Wr} {q : Nat} (hq : v'.ownBlock = some q)
    (hown : w'.ownsRow B 46 65 v' (dn.length + 1) (flatP dn ++ (wrow x.1 x.2).toList)) (hg : w.grownBy w' v.ownBlock) (hnew : v.ownBlock = some q ∨ q = w.heap.size) : TS B bb D g w0 w' pv st bl v' (dn ++ [x]) := by
  have hlt := lt_of_block h.row
  have hfl := h.live.disk.lt
  refine { live := ⟨h.live.disk.same (fun k hk => hg.block k (hfl k hk) (fun e => h.n3 k e.symm hk)), h.live.ge, ?_⟩, row := (hg.block bb hlt (fun e => h.n2 e.symm)).trans h.row, own := ?_, n1 := h.n1, n2 := ?_, n3 := ?_, ge := h.ge }
  · refine h.live.below.trans ?_
    have hk := Kept.grown (F := fun k => v.ownBlock = some k) hg (fun k e => e)
    by_cases hB : B ≤ w.heap.size
    · exact hk.below B hB (fun i hi => (h.own.lt i hi).1)
    · exact absurd (Nat.le_trans h.ge (Nat.le_of_lt hlt)) hB
  · rw [flatP_snoc, List.length_append]
    exact hown
  · rw [hq]
    rcases hnew with e | e
    · rw [← e]; exact h.n2
    · intro e2; have := Option.some.inj e2; omega
  · intro k hk e
    rw [hq] at hk
    have hk := Option.some.inj hk
    subst hk
    rcases hnew with e2 | e2
    · exact h.n3 _ e2 e
    · have := hfl _ e; omega
end Go.Proofs.Ytakehkoicinlbaa.dk
