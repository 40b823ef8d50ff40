/- The walk of confluentlaw47.Do: one call of a disk. -/
import Derived.Test.YtakehkoicinlbaaDRead
import Derived.Test.YtakehkoicinlbaaDCrash
import Derived.Test.YtakehkoicinlbaaDWrite
import Derived.Test.YtakehkoicinlbaaDSmall
namespace Go.Proofs.Ytakehkoicinlbaa.dk
open Go.RowKit Go.Proofs.Ytakehkoicinlbaa.agg

/-- A call of a disk as the laws have it: svv: the slice of its survivals, sv: what they are. -/
structure ActV where
  kind : Int
  sector : Int
  data : List Int
  svv : Value
  sv : List Int
  n : Int
def acells (x : ActV) : Array Value := #[.int .i64 x.kind, .int .i64 x.sector] ++ sec x.data ++ #[x.svv, .int .i64 x.n]
@[go_sem] theorem size_acells (x : ActV) : (acells x).size = x.data.length + 4 := by simp [acells, sec, u8s]
@[go_sem] theorem one_acells (x : ActV) : oneCells (acells x) = x.svv.oneCell' := by
  have := sec_oneCell x.data
  have h : (∀ u ∈ (acells x).toList, u.oneCell' = true) ↔ x.svv.oneCell' = true := by
    simp only [acells, Array.toList_append, List.mem_append]
    constructor
    · intro h
      exact h _ (.inr (by simp))
    · rintro h u ((hu | hu) | hu)
      · simp at hu
        rcases hu with rfl | rfl <;> rfl
      · exact this u hu
      · simp at hu
        rcases hu with rfl | rfl
        · exact h
        · rfl
  rw [Bool.eq_iff_iff, oneCells, List.all_eq_true]
  exact h
def zact : ActV := { kind := 0, sector := 0, data := zeros, svv := .slice none 0 0, sv := [], n := 0 }
theorem zero_act (w : World) : (zeroValue 35).run Try.prog w = .ok (.agg (acells zact)) w := by kernel_rfl
section
variable {a : Act} {w : World} {K : Act → World → Prop} {Q : Exit → Act → World → Prop} {dst : Option Tmp} {ty : TypeId} {pos : String} {aft : Array Edge} {gd : Option (Nat × Bool)}
@[go_sem ↓] theorem alloc_act : Oper.wp Try.prog ⟨dst, .alloc 35, ty, pos, aft, gd⟩ a w K Q = K (a.put dst (.pointer (some ⟨w.heap.size, 0, none⟩))) (w.alloc (.cells (acells zact) 35)) := wp_alloc_agg zero_act
@[go_sem ↓] theorem load_act (x : Operand) (h : aggOk w (a.eval x) 68 = true) : Oper.wp Try.prog ⟨dst, .load 35 x, ty, pos, aft, gd⟩ a w K Q = K (a.put dst (aggAt w (a.eval x) 68)) w := wp_load_agg ag_act x h
@[go_sem ↓] theorem store_act (x y : Operand) (h : aggOk w (a.eval x) 68 = true) (hy : plain (a.eval y) 68 = true) : Oper.wp Try.prog ⟨dst, .store 35 x y, ty, pos, aft, gd⟩ a w K Q = K (a.put dst undef) (putRow w (a.eval x) (cellsOf (a.eval y))) := wp_store_agg ag_act x y h hy
end
theorem zact_len : zact.data.length = 64 := length_zeros
theorem cut_acells (x : ActV) (h : x.data.length = 64) : cut (acells x) 2 64 = .agg (sec x.data) := by
  unfold cut acells
  congr 1
  apply Array.ext'
  simp [sec, u8s, h]
theorem acells_get (x : ActV) (h : x.data.length = 64) : (acells x)[0]? = some (.int .i64 x.kind) ∧ (acells x)[1]? = some (.int .i64 x.sector) ∧ (acells x)[66]? = some x.svv ∧ (acells x)[67]? = some (.int .i64 x.n) := by
  have hs : (sec x.data).size = 64 := by rw [size_sec, h]
  refine ⟨?_, ?_, ?_, ?_⟩ <;> simp [acells, hs]

theorem acells_get' (x : ActV) (h : x.data.length = 64) : (acells x)[0]'(by rw [size_acells]; omega) = .int .i64 x.kind ∧ (acells x)[1]'(by rw [size_acells]; omega) = .int .i64 x.sector ∧ (acells x)[66]'(by rw [size_acells]; omega) = x.svv ∧ (acells x)[67]'(by rw [size_acells]; omega) = .int .i64 x.n := by
  obtain ⟨a0, a1, a2, a3⟩ := acells_get x h
  exact ⟨(Array.getElem?_eq_some_iff.1 a0).2, (Array.getElem?_eq_some_iff.1 a1).2, (Array.getElem?_eq_some_iff.1 a2).2, (Array.getElem?_eq_some_iff.1 a3).2⟩

/-- A call, as a value. -/
def St.doit (st : St) (x : ActV) : St × List Int × Int :=
  if x.kind = 0 then ((st.write x.sector x.data).1, zeros, (st.write x.sector x.data).2)
  else if x.kind = 1 then (st.flush.1, zeros, st.flush.2)
  else if x.kind = 2 then st.read x.sector
  else if x.kind = 3 then (st.crash x.sv, zeros, 0)
  else if x.kind = 4 then (st.failAfter x.n, zeros, 0)
  else (st, zeros, 0)

theorem visible_len {w : World} {D g : Nat} {pv : Value} {st : St} (h : DiskIn w D g pv st) (n : Int) (h0 : 0 ≤ n) (hn : n < st.dur.length) : (st.visible n).length = 64 := by
  unfold St.visible
  split
  · rename_i y hy
    exact h.plen y (List.mem_reverse.1 (List.mem_of_find?_eq_some hy))
  · rw [List.getD_eq_getElem?_getD, List.getElem?_eq_getElem (by omega)]
    exact h.len _ (List.getElem_mem _)
theorem read_len {w : World} {D g : Nat} {pv : Value} {st : St} (h : DiskIn w D g pv st) (n : Int) : (st.read n).2.1.length = 64 := by
  unfold St.read
  split
  · exact length_zeros
  · split
    · exact length_zeros
    · exact visible_len h n (by omega) (by omega)
/-- The world with the two boxes of Do. -/
def doW (w : World) (x : ActV) : World := (w.alloc (.cells (acells x) 35)).alloc (.cells (sec zeros) 23)
structure DoAt (w : World) (x : ActV) (W : World) : Prop where
  below : Below w.heap.size w W
  box : rowOf W w.heap.size = acells x
  res : W.heap[w.heap.size + 1]? = some (.cells (sec zeros) 23 (0, 0))
  lt : w.heap.size < W.heap.size
  k0 : W.cell? ⟨w.heap.size, 0, none⟩ = some (.int .i64 x.kind)
  k1 : W.cell? ⟨w.heap.size, 1, none⟩ = some (.int .i64 x.sector)
  k2 : W.cell? ⟨w.heap.size, 66, none⟩ = some x.svv
  k3 : W.cell? ⟨w.heap.size, 67, none⟩ = some (.int .i64 x.n)
theorem doW_at (w : World) (x : ActV) (hx : x.data.length = 64) : DoAt w x (doW w x) := by
  obtain ⟨a0, a1, a2, a3⟩ := acells_get x hx
  have r0 : rowOf (doW w x) w.heap.size = acells x := rowOf_of (heap_alloc2_old w _ _)
  have hp : 0 < (rowOf (doW w x) w.heap.size).size := by rw [r0, size_acells]; omega
  exact ⟨((Below.refl _ w).alloc (Nat.le_refl _) _).alloc (by simp) _, r0, heap_alloc2_new w _ _, lt_of_row hp, by rw [cell_row hp, r0, a0], by rw [cell_row hp, r0, a1], by rw [cell_row hp, r0, a2], by rw [cell_row hp, r0, a3]⟩
/-- The result's box behind the call of the disk's method. -/
theorem do_res {D g : Nat} {pv : Value} {st : St} {w W w' : World} {x : ActV} (h : DiskIn w D g pv st) (hW : DoAt w x W) (hk : Kept (foot D g pv) W w') : w'.heap[w.heap.size + 1]? = some (.cells (sec zeros) 23 (0, 0)) := by
  rw [hk.block _ (lt_of_block hW.res) (fun f => by have := h.lt _ f; omega)]
  exact hW.res
/-- What Do leaves. -/
def Done (D g : Nat) (pv : Value) (st' : St) (w w' : World) : Prop := ∃ pv', DiskIn w' D g pv' st' ∧ Kept (foot D g pv) w w' ∧ Fresh w pv pv'
theorem do_end {D g : Nat} {pv : Value} {st st' : St} {w W w' : World} {x : ActV} (h : DiskIn w D g pv st) (hW : DoAt w x W) {pv' : Value} (hd : DiskIn w' D g pv' st') (hk : Kept (foot D g pv) W w') (hf : Fresh W pv pv') (s : List Int) :
    rowOf (w'.setRow (w.heap.size + 1) (sec s)) (w.heap.size + 1) = sec s ∧ Done D g pv st' w (w'.setRow (w.heap.size + 1) (sec s)) := by
  have hr := do_res h hW hk
  have hs := hW.below.size
  have hsW := lt_of_block hW.res
  have hfr : Fresh w pv pv' := fun k hk' => by
    rcases hf k hk' with e | e
    · exact .inl e
    · exact .inr (by omega)
  have hnot : ¬ foot D g pv' (w.heap.size + 1) := by
    rintro (e | e | e)
    · have := h.lt D (.inl rfl); omega
    · have := h.lt g (.inr (.inl rfl)); omega
    · rcases hf _ e with e' | e'
      · have := h.lt _ (.inr (.inr e')); omega
      · omega
  refine ⟨rowOf_of (setRow_heap _ _ _ _ _ _ hr), pv', ?_, ?_, hfr⟩
  · exact hd.kept (Kept.setRow w' (F := fun k => k = w.heap.size + 1) rfl _) (fun k hk' e => hnot (e ▸ hk'))
  · have h1 : Kept (foot D g pv) w W := Kept.of_below hW.below
    exact (h1.trans hk).trans' (Kept.setRow w' (F := fun k => k = w.heap.size + 1) rfl _) (fun i hi e => by omega)

set_option maxHeartbeats 1000000 in
theorem do_write {D g : Nat} {pv : Value} {st : St} (w : World) (h : DiskIn w D g pv st) (x : ActV) (hx : x.data.length = 64) (hpl : st.pend.length < 1000000) (hk : x.kind = 0) :
    Calls Try.prog 14 #[.pointer (some ⟨D, 0, none⟩), .agg (acells x)] w fun e w' => e = .returned (.tuple #[.agg (sec zeros), .int .i64 (st.write x.sector x.data).2]) ∧ Done D g pv (st.write x.sector x.data).1 w w' := by
  have hW := doW_at w x hx
  have hd := h.kept (Kept.of_below (F := fun _ => False) hW.below) (fun _ _ => id)
  obtain ⟨a0, a1, a2, a3⟩ := acells_get' x hx
  rw [hk] at a0
  have hcut := cut_acells x hx
  have hk' := Lib.hid hk
  clear hk
  go_enter Try.func14, Try.ntmps14
  go_wp2_with fail
  rw [show (w.alloc (.cells (acells x) 35)).alloc (.cells (sec zeros) 23) = doW w x from rfl]
  generalize doW w x = W at *
  refine (write_any _ hd x.sector x.data hx hpl).mono ?_
  rintro e w3 ⟨rfl, pv1, hd1, hk1, hf1⟩
  have r3 := rowOf_of (do_res h hW hk1)
  go_wp2
  obtain ⟨z1, z2⟩ := do_end h hW hd1 hk1 hf1 zeros
  exact bodyPost_ret (results_cell_tmp' rfl ag_sec _ rfl z1 (by simp only [size_sec]; first | exact length_zeros | exact hlen) (by omega)) rfl ⟨rfl, z2⟩
set_option maxHeartbeats 1000000 in
theorem do_flush {D g : Nat} {pv : Value} {st : St} (w : World) (h : DiskIn w D g pv st) (x : ActV) (hx : x.data.length = 64) (hpl : st.pend.length < 1000000) (hk : x.kind = 1) :
    Calls Try.prog 14 #[.pointer (some ⟨D, 0, none⟩), .agg (acells x)] w fun e w' => e = .returned (.tuple #[.agg (sec zeros), .int .i64 st.flush.2]) ∧ Done D g pv st.flush.1 w w' := by
  have hW := doW_at w x hx
  have hd := h.kept (Kept.of_below (F := fun _ => False) hW.below) (fun _ _ => id)
  obtain ⟨a0, a1, a2, a3⟩ := acells_get' x hx
  rw [hk] at a0
  have hcut := cut_acells x hx
  have hk' := Lib.hid hk
  clear hk
  go_enter Try.func14, Try.ntmps14
  go_wp2_with fail
  rw [show (w.alloc (.cells (acells x) 35)).alloc (.cells (sec zeros) 23) = doW w x from rfl]
  generalize doW w x = W at *
  refine (flush_any _ hd hpl).mono ?_
  rintro e w3 ⟨rfl, pv1, hd1, hk1, hf1⟩
  have r3 := rowOf_of (do_res h hW hk1)
  go_wp2
  obtain ⟨z1, z2⟩ := do_end h hW hd1 hk1 hf1 zeros
  exact bodyPost_ret (results_cell_tmp' rfl ag_sec _ rfl z1 (by simp only [size_sec]; first | exact length_zeros | exact hlen) (by omega)) rfl ⟨rfl, z2⟩
set_option maxHeartbeats 1000000 in
theorem do_read {D g : Nat} {pv : Value} {st : St} (w : World) (h : DiskIn w D g pv st) (x : ActV) (hx : x.data.length = 64) (hpl : st.pend.length < 1000000) (hk : x.kind = 2) :
    Calls Try.prog 14 #[.pointer (some ⟨D, 0, none⟩), .agg (acells x)] w fun e w' => e = .returned (.tuple #[.agg (sec (st.read x.sector).2.1), .int .i64 (st.read x.sector).2.2]) ∧ Done D g pv (st.read x.sector).1 w w' := by
  have hW := doW_at w x hx
  have hd := h.kept (Kept.of_below (F := fun _ => False) hW.below) (fun _ _ => id)
  obtain ⟨a0, a1, a2, a3⟩ := acells_get' x hx
  rw [hk] at a0
  have hcut := cut_acells x hx
  have hk' := Lib.hid hk
  clear hk
  go_enter Try.func14, Try.ntmps14
  go_wp2_with fail
  rw [show (w.alloc (.cells (acells x) 35)).alloc (.cells (sec zeros) 23) = doW w x from rfl]
  generalize doW w x = W at *
  refine (read_any _ hd x.sector hpl).mono ?_
  rintro e w3 ⟨rfl, hd1, hk1⟩
  have hf1 : Fresh W pv pv := fun k hk => .inl hk
  have r3 := rowOf_of (do_res h hW hk1)
  have hlen := read_len hd x.sector
  generalize hs : (st.read x.sector).2.1 = s at *
  have hs' := Lib.hid hs
  clear hs
  go_wp2
  obtain ⟨z1, z2⟩ := do_end h hW hd1 hk1 hf1 s
  exact bodyPost_ret (results_cell_tmp' rfl ag_sec _ rfl z1 (by simp only [size_sec]; first | exact length_zeros | exact hlen) (by omega)) rfl ⟨by rw [hs'.out]; rfl, z2⟩
set_option maxHeartbeats 1000000 in
theorem do_crash {D g : Nat} {pv : Value} {st : St} (w : World) (h : DiskIn w D g pv st) (x : ActV) (hx : x.data.length = 64) (hpl : st.pend.length < 1000000) (hs : IntsAt w (foot D g pv) x.svv x.sv) (hsl : x.sv.length < 1000000) (hk : x.kind = 3) :
    Calls Try.prog 14 #[.pointer (some ⟨D, 0, none⟩), .agg (acells x)] w fun e w' => e = .returned (.tuple #[.agg (sec zeros), .int .i64 0]) ∧ Done D g pv (st.crash x.sv) w w' := by
  have hW := doW_at w x hx
  have hd := h.kept (Kept.of_below (F := fun _ => False) hW.below) (fun _ _ => id)
  obtain ⟨a0, a1, a2, a3⟩ := acells_get' x hx
  rw [hk] at a0
  have hcut := cut_acells x hx
  have hk' := Lib.hid hk
  clear hk
  go_enter Try.func14, Try.ntmps14
  go_wp2_with fail
  rw [show (w.alloc (.cells (acells x) 35)).alloc (.cells (sec zeros) 23) = doW w x from rfl]
  generalize doW w x = W at *
  refine (crash_any _ hd x.svv x.sv (hs.kept (Kept.of_below hW.below)) hpl hsl).mono ?_
  rintro e w3 ⟨rfl, pv1, hd1, hk1, hf1⟩
  have r3 := rowOf_of (do_res h hW hk1)
  go_wp2
  obtain ⟨z1, z2⟩ := do_end h hW hd1 hk1 hf1 zeros
  exact bodyPost_ret (results_cell_tmp' rfl ag_sec _ rfl z1 (by simp only [size_sec]; first | exact length_zeros | exact hlen) (by omega)) rfl ⟨rfl, z2⟩
set_option maxHeartbeats 1000000 in
theorem do_failAfter {D g : Nat} {pv : Value} {st : St} (w : World) (h : DiskIn w D g pv st) (x : ActV) (hx : x.data.length = 64) (hk : x.kind = 4) :
    Calls Try.prog 14 #[.pointer (some ⟨D, 0, none⟩), .agg (acells x)] w fun e w' => e = .returned (.tuple #[.agg (sec zeros), .int .i64 0]) ∧ Done D g pv (st.failAfter x.n) w w' := by
  have hW := doW_at w x hx
  have hd := h.kept (Kept.of_below (F := fun _ => False) hW.below) (fun _ _ => id)
  obtain ⟨a0, a1, a2, a3⟩ := acells_get' x hx
  rw [hk] at a0
  have hcut := cut_acells x hx
  have hk' := Lib.hid hk
  clear hk
  go_enter Try.func14, Try.ntmps14
  go_wp2_with fail
  rw [show (w.alloc (.cells (acells x) 35)).alloc (.cells (sec zeros) 23) = doW w x from rfl]
  generalize doW w x = W at *
  refine (failAfter_any _ hd x.n).mono ?_
  rintro e w3 ⟨rfl, hd1, hk1⟩
  have hf1 : Fresh W pv pv := fun k hk => .inl hk
  have r3 := rowOf_of (do_res h hW hk1)
  go_wp2
  obtain ⟨z1, z2⟩ := do_end h hW hd1 hk1 hf1 zeros
  exact bodyPost_ret (results_cell_tmp' rfl ag_sec _ rfl z1 (by simp only [size_sec]; first | exact length_zeros | exact hlen) (by omega)) rfl ⟨rfl, z2⟩
set_option maxHeartbeats 1000000 in
theorem do_other {D g : Nat} {pv : Value} {st : St} (w : World) (h : DiskIn w D g pv st) (x : ActV) (hx : x.data.length = 64) (hk : ¬ (x.kind = 0 ∨ x.kind = 1 ∨ x.kind = 2 ∨ x.kind = 3 ∨ x.kind = 4)) :
    Calls Try.prog 14 #[.pointer (some ⟨D, 0, none⟩), .agg (acells x)] w fun e w' => e = .returned (.tuple #[.agg (sec zeros), .int .i64 0]) ∧ Done D g pv st w w' := by
  have hW := doW_at w x hx
  have hd := h.kept (Kept.of_below (F := fun _ => False) hW.below) (fun _ _ => id)
  obtain ⟨a0, a1, a2, a3⟩ := acells_get' x hx
  have hcut := cut_acells x hx
  have n0 : (x.kind == 0) = false := by simp; omega
  have n1 : (x.kind == 1) = false := by simp; omega
  have n2 : (x.kind == 2) = false := by simp; omega
  have n3 : (x.kind == 3) = false := by simp; omega
  have n4 : (x.kind == 4) = false := by simp; omega
  clear hk
  go_enter Try.func14, Try.ntmps14
  go_wp2_with fail
  rw [show (w.alloc (.cells (acells x) 35)).alloc (.cells (sec zeros) 23) = doW w x from rfl]
  generalize doW w x = W at *
  exact bodyPost_ret (results_cell_tmp' rfl ag_sec _ rfl (rowOf_of hW.res) (by simp only [size_sec]; exact length_zeros) (by omega)) rfl ⟨rfl, pv, hd, Kept.of_below hW.below, fun k hk => .inl hk⟩
/-- Do, of whatever call. -/
theorem do_any {D g : Nat} {pv : Value} {st : St} (w : World) (h : DiskIn w D g pv st) (x : ActV) (hx : x.data.length = 64) (hpl : st.pend.length < 1000000) (hs : IntsAt w (foot D g pv) x.svv x.sv) (hsl : x.sv.length < 1000000) :
    Calls Try.prog 14 #[.pointer (some ⟨D, 0, none⟩), .agg (acells x)] w fun e w' => e = .returned (.tuple #[.agg (sec (st.doit x).2.1), .int .i64 (st.doit x).2.2]) ∧ Done D g pv (st.doit x).1 w w' := by
  by_cases h0 : x.kind = 0
  · have e : st.doit x = ((st.write x.sector x.data).1, zeros, (st.write x.sector x.data).2) := by unfold St.doit; rw [if_pos h0]
    rw [e]
    exact do_write w h x hx hpl h0
  by_cases h1 : x.kind = 1
  · have e : st.doit x = (st.flush.1, zeros, st.flush.2) := by unfold St.doit; rw [if_neg h0, if_pos h1]
    rw [e]
    exact do_flush w h x hx hpl h1
  by_cases h2 : x.kind = 2
  · have e : st.doit x = st.read x.sector := by unfold St.doit; rw [if_neg h0, if_neg h1, if_pos h2]
    rw [e]
    exact do_read w h x hx hpl h2
  by_cases h3 : x.kind = 3
  · have e : st.doit x = (st.crash x.sv, zeros, 0) := by unfold St.doit; rw [if_neg h0, if_neg h1, if_neg h2, if_pos h3]
    rw [e]
    exact do_crash w h x hx hpl hs hsl h3
  by_cases h4 : x.kind = 4
  · have e : st.doit x = (st.failAfter x.n, zeros, 0) := by unfold St.doit; rw [if_neg h0, if_neg h1, if_neg h2, if_neg h3, if_pos h4]
    rw [e]
    exact do_failAfter w h x hx h4
  · have e : st.doit x = (st, zeros, 0) := by unfold St.doit; rw [if_neg h0, if_neg h1, if_neg h2, if_neg h3, if_neg h4]
    rw [e]
    exact do_other w h x hx (by omega)
end Go.Proofs.Ytakehkoicinlbaa.dk
