/- The reference of the disk (confluentref47) as a value in Lean, and what it means that a world holds it; its smallest functions, walked. -/
import Derived.Test.YtakehkoicinlbaaDCells
import Derived.OwnWalk
namespace Go.Proofs.Ytakehkoicinlbaa.dk
open Go.RowKit Go.Proofs.Ytakehkoicinlbaa.agg

/-- Where the contents and the pending writes of a State lie. -/
structure Ref where
  da : Option Addr
  dc : Nat
  pa : Option Addr
  pc : Nat
/-- A State as a value. -/
def Ref.row (r : Ref) (st : St) : Array Value := #[.slice r.da st.dur.length r.dc, .slice r.pa st.pend.length r.pc, .int .i64 st.left, .bool st.failed, .int .i64 st.rd, .int .i64 st.wr, .int .i64 st.fl]
def Ref.val (r : Ref) (st : St) : Value := .agg (r.row st)
theorem size_row (r : Ref) (st : St) : (r.row st).size = 7 := rfl
theorem one_row (r : Ref) (st : St) : oneCells (r.row st) = true := rfl
theorem row_0 (r : Ref) (st : St) : (r.row st)[0]? = some (.slice r.da st.dur.length r.dc) := rfl
theorem row_0' (r : Ref) (st : St) (h : 0 < (r.row st).size) : (r.row st)[0]'h = .slice r.da st.dur.length r.dc := rfl
theorem row_1 (r : Ref) (st : St) : (r.row st)[1]? = some (.slice r.pa st.pend.length r.pc) := rfl
theorem row_1' (r : Ref) (st : St) (h : 1 < (r.row st).size) : (r.row st)[1]'h = .slice r.pa st.pend.length r.pc := rfl
theorem row_2 (r : Ref) (st : St) : (r.row st)[2]? = some (.int .i64 st.left) := rfl
theorem row_2' (r : Ref) (st : St) (h : 2 < (r.row st).size) : (r.row st)[2]'h = .int .i64 st.left := rfl
theorem row_3 (r : Ref) (st : St) : (r.row st)[3]? = some (.bool st.failed) := rfl
theorem row_3' (r : Ref) (st : St) (h : 3 < (r.row st).size) : (r.row st)[3]'h = .bool st.failed := rfl
theorem row_4 (r : Ref) (st : St) : (r.row st)[4]? = some (.int .i64 st.rd) := rfl
theorem row_4' (r : Ref) (st : St) (h : 4 < (r.row st).size) : (r.row st)[4]'h = .int .i64 st.rd := rfl
theorem row_5 (r : Ref) (st : St) : (r.row st)[5]? = some (.int .i64 st.wr) := rfl
theorem row_5' (r : Ref) (st : St) (h : 5 < (r.row st).size) : (r.row st)[5]'h = .int .i64 st.wr := rfl
theorem row_6 (r : Ref) (st : St) : (r.row st)[6]? = some (.int .i64 st.fl) := rfl
theorem row_6' (r : Ref) (st : St) (h : 6 < (r.row st).size) : (r.row st)[6]'h = .int .i64 st.fl := rfl
def St.withLeft (st : St) (n : Int) : St := { st with left := n }
def St.withFailed (st : St) (b : Bool) : St := { st with failed := b }
def St.withRd (st : St) (n : Int) : St := { st with rd := n }
def St.withWr (st : St) (n : Int) : St := { st with wr := n }
def St.withFl (st : St) (n : Int) : St := { st with fl := n }
theorem set_row2 (r : Ref) (st : St) (n : Int) : (r.row st).setIfInBounds 2 (.int .i64 n) = r.row (st.withLeft n) := rfl
theorem set_row3 (r : Ref) (st : St) (b : Bool) : (r.row st).setIfInBounds 3 (.bool b) = r.row (st.withFailed b) := rfl
theorem set_row4 (r : Ref) (st : St) (n : Int) : (r.row st).setIfInBounds 4 (.int .i64 n) = r.row (st.withRd n) := rfl
theorem set_row5 (r : Ref) (st : St) (n : Int) : (r.row st).setIfInBounds 5 (.int .i64 n) = r.row (st.withWr n) := rfl
theorem set_row6 (r : Ref) (st : St) (n : Int) : (r.row st).setIfInBounds 6 (.int .i64 n) = r.row (st.withFl n) := rfl
def zrow : Array Value := #[.slice none 0 0, .slice none 0 0, .int .i64 0, .bool false, .int .i64 0, .int .i64 0, .int .i64 0]
theorem cut_row (r : Ref) (st : St) : cut (r.row st) 0 7 = .agg (r.row st) := cut_whole rfl
theorem over_row (c : Array Value) (r : Ref) (st : St) (h : c.size = 7) : overrow c 0 (r.row st) = r.row st := overrow_whole (by rw [h]; rfl)
theorem over_row' (r r' : Ref) (st st' : St) : overrow (r.row st) 0 (r'.row st') = r'.row st' := over_row _ _ _ rfl
theorem over_zrow (r' : Ref) (st' : St) : overrow zrow 0 (r'.row st') = r'.row st' := over_row _ _ _ rfl
theorem size_zrow : zrow.size = 7 := rfl
theorem row_cells {w : World} {b : Nat} {r : Ref} {st : St} {t : TypeId} (h : w.heap[b]? = some (.cells (r.row st) t (0, 0))) :
    w.cell? ⟨b, 0, none⟩ = some (.slice r.da st.dur.length r.dc) ∧ w.cell? ⟨b, 1, none⟩ = some (.slice r.pa st.pend.length r.pc) ∧ w.cell? ⟨b, 2, none⟩ = some (.int .i64 st.left) ∧ w.cell? ⟨b, 3, none⟩ = some (.bool st.failed) ∧
    w.cell? ⟨b, 4, none⟩ = some (.int .i64 st.rd) ∧ w.cell? ⟨b, 5, none⟩ = some (.int .i64 st.wr) ∧ w.cell? ⟨b, 6, none⟩ = some (.int .i64 st.fl) ∧ ∀ i, w.frozen? ⟨b, i, none⟩ = false := by
  simp [World.cell?, World.frozen?, h, Ref.row]
theorem ag_state : IsAgg Try.prog 55 7 := ⟨fun _ => by kernel_rfl, fun _ => by kernel_rfl⟩
theorem zero_state (w : World) : (zeroValue 55).run Try.prog w = .ok (.agg zrow) w := by kernel_rfl
section
variable {a : Act} {w : World} {K : Act → World → Prop} {Q : Exit → Act → World → Prop} {dst : Option Tmp} {ty : TypeId} {pos : String} {aft : Array Edge} {gd : Option (Nat × Bool)}
theorem alloc_state : Oper.wp Try.prog ⟨dst, .alloc 55, ty, pos, aft, gd⟩ a w K Q = K (a.put dst (.pointer (some ⟨w.heap.size, 0, none⟩))) (w.alloc (.cells zrow 55)) := wp_alloc_agg zero_state
theorem load_state (x : Operand) (h : aggOk w (a.eval x) 7 = true) : Oper.wp Try.prog ⟨dst, .load 55 x, ty, pos, aft, gd⟩ a w K Q = K (a.put dst (aggAt w (a.eval x) 7)) w := wp_load_agg ag_state x h
theorem store_state (x y : Operand) (h : aggOk w (a.eval x) 7 = true) (hy : plain (a.eval y) 7 = true) : Oper.wp Try.prog ⟨dst, .store 55 x y, ty, pos, aft, gd⟩ a w K Q = K (a.put dst undef) (putRow w (a.eval x) (cellsOf (a.eval y))) := wp_store_agg ag_state x y h hy
end
/-- What a State says, read in a world. -/
structure RefIn (w : World) (r : Ref) (st : St) : Prop where
  dur : w.ownsRow 0 23 64 (.slice r.da st.dur.length r.dc) st.dur.length (flatD st.dur)
  pend : w.ownsRow 0 46 65 (.slice r.pa st.pend.length r.pc) st.pend.length (flatP st.pend)
  len : ∀ s ∈ st.dur, s.length = 64
  plen : ∀ x ∈ st.pend, x.2.length = 64
  pin : ∀ x ∈ st.pend, 0 ≤ x.1 ∧ x.1 < st.dur.length
  few : st.dur.length ≤ 2048
theorem RefIn.below {w w' : World} {r : Ref} {st : St} (h : RefIn w r st) (hb : Below w.heap.size w w') : RefIn w' r st :=
  { h with dur := ownsRow_same h.dur (fun k hk => hb.block k (h.dur.lt k hk).2), pend := ownsRow_same h.pend (fun k hk => hb.block k (h.pend.lt k hk).2) }
/-- The counts and flags may turn freely. -/
theorem RefIn.turn {w : World} {r : Ref} {st st' : St} (h : RefIn w r st) (hd : st'.dur = st.dur) (hp : st'.pend = st.pend) : RefIn w r st' :=
  { dur := by rw [hd]; exact h.dur, pend := by rw [hp]; exact h.pend, len := by rw [hd]; exact h.len, plen := by rw [hp]; exact h.plen, pin := by rw [hd, hp]; exact h.pin, few := by rw [hd]; exact h.few }

/-- Three results: two in cells, both of many cells, one in a slot. -/
theorem results_cells_tmp {P : Program} {w : World} {fn : Func} {p q u : Tmp} {T U : TypeId} {n m : Nat} (hres : fn.results = #[.cell p T, .cell q U, .tmp u]) (hT : IsAgg P T n) (hU : IsAgg P U m) (tmps : Array Value) {g h : Nat}
    (hp : tmps.getD p undef = .pointer (some ⟨g, 0, none⟩)) (hq : tmps.getD q undef = .pointer (some ⟨h, 0, none⟩)) {c d : Array Value} (hr : rowOf w g = c) (hc : c.size = n) (hn : 0 < n) (hr2 : rowOf w h = d) (hd : d.size = m) (hm : 0 < m) :
    (results fn tmps).run P w = .ok (.tuple #[.agg c, .agg d, tmps.getD u undef]) w := by
  have hp' : tmps[p]?.getD undef = .pointer (some ⟨g, 0, none⟩) := by simpa using hp
  have hq' : tmps[q]?.getD undef = .pointer (some ⟨h, 0, none⟩) := by simpa using hq
  simp [results, hres, hp', hq', asAddr, run_loadVar_whole hT hr hc hn, run_loadVar_whole hU hr2 hd hm]
theorem rowOf_two {w : World} {b c : Nat} (x y : Array Value) (hne : b ≠ c) (hb : 0 < (rowOf w b).size) (hc : 0 < (rowOf w c).size) : rowOf ((w.setRow b x).setRow c y) b = x ∧ rowOf ((w.setRow b x).setRow c y) c = y :=
  ⟨(rowOf_setRow_other _ hne).trans (rowOf_setRow_same _ hb), rowOf_setRow_same _ (by rw [rowOf_setRow_other _ (fun e => hne e.symm)]; exact hc)⟩
theorem heap3 (w : World) (x y z : Obj) : (((w.alloc x).alloc y).alloc z).heap[w.heap.size]? = some x ∧ (((w.alloc x).alloc y).alloc z).heap[w.heap.size + 1]? = some y ∧ (((w.alloc x).alloc y).alloc z).heap[w.heap.size + 1 + 1]? = some z ∧ Below w.heap.size w (((w.alloc x).alloc y).alloc z) := by
  refine ⟨?_, ?_, ?_, (((Below.refl _ w).alloc (Nat.le_refl _) _).alloc (by simp) _).alloc (by simp; omega) _⟩
  · rw [Below.heap_alloc _ _ _ (by simp; omega), Below.heap_alloc _ _ _ (by simp), heap_alloc_new]
  · rw [Below.heap_alloc _ _ _ (by simp), heap_alloc2_new]
  · have := heap_alloc_new ((w.alloc x).alloc y) z
    simpa using this
theorem own_apart {w : World} {base : Nat} {e t : TypeId} {size : Nat} {v : Value} {n : Nat} {xs : List Value} (h : w.ownsRow base e size v n xs) {b : Nat} {c : Array Value} (hb : w.heap[b]? = some (.cells c t (0, 0))) (hne : t ≠ e) : ∀ k, v.ownBlock = some k → k ≠ b := by
  rintro k hk rfl
  rcases h.2 with ⟨rfl, _⟩ | ⟨g, cap, cur, rfl, _, hh, _⟩
  · cases hk
  · cases hk
    rw [hh] at hb
    exact hne (by injection hb with hb; injection hb with _ e; exact e.symm)
/-- The blocks of a State. -/
def Ref.own (r : Ref) (k : Nat) : Prop := (∃ o t, r.da = some ⟨k, o, t⟩) ∨ (∃ o t, r.pa = some ⟨k, o, t⟩)
/-- They are the former State's, or new. -/
def Newer (w : World) (r r' : Ref) : Prop := ∀ k, r'.own k → r.own k ∨ w.heap.size ≤ k
theorem Newer.refl (w : World) (r : Ref) : Newer w r r := fun _ h => .inl h
theorem RefIn.own_lt {w : World} {r : Ref} {st : St} (h : RefIn w r st) : ∀ k, r.own k → k < w.heap.size := by
  rintro k (⟨o, t, e⟩ | ⟨o, t, e⟩)
  · exact (h.dur.lt k (by rw [e]; rfl)).2
  · exact (h.pend.lt k (by rw [e]; rfl)).2
theorem RefIn.same {w w' : World} {r : Ref} {st : St} (h : RefIn w r st) (hk : ∀ k, r.own k → w'.heap[k]? = w.heap[k]?) : RefIn w' r st := by
  refine { h with dur := ownsRow_same h.dur (fun k e => hk k (.inl ?_)), pend := ownsRow_same h.pend (fun k e => hk k (.inr ?_)) }
  · cases hd : r.da with
    | none => rw [hd] at e; cases e
    | some a => rw [hd] at e; injection e with e; subst e; exact ⟨_, _, rfl⟩
  · cases hd : r.pa with
    | none => rw [hd] at e; cases e
    | some a => rw [hd] at e; injection e with e; subst e; exact ⟨_, _, rfl⟩
/-- Boxes of States may turn: what a State says stays. -/
theorem RefIn.other {w w' : World} {r : Ref} {st : St} (h : RefIn w r st) {b c : Nat} {x y : Array Value} (hb : w.heap[b]? = some (.cells x 55 (0, 0))) (hc : w.heap[c]? = some (.cells y 55 (0, 0)))
    (hk : ∀ k, k ≠ b → k ≠ c → w'.heap[k]? = w.heap[k]?) : RefIn w' r st :=
  { h with
    dur := ownsRow_same h.dur (fun k e => hk k (own_apart h.dur hb (by decide) k e) (own_apart h.dur hc (by decide) k e))
    pend := ownsRow_same h.pend (fun k e => hk k (own_apart h.pend hb (by decide) k e) (own_apart h.pend hc (by decide) k e)) }
theorem below_setRow {B k : Nat} {w w' : World} (h : Below B w w') (hk : B ≤ k) (c : Array Value) : Below B w (w'.setRow k c) :=
  ⟨h.os, h.tape, h.output, by simpa using h.size, fun i hi => (setRow_other w' k i c (by omega)).trans (h.block i hi)⟩

/-- call of the reference, as a value. -/
def St.rcall (st : St) : St :=
  if st.left = 0 then { st with failed := true, left := -1 } else if 0 < st.left then { st with left := wrap64 (st.left - 1) } else st
theorem St.rcall_dur (st : St) : st.rcall.dur = st.dur := by unfold St.rcall; split <;> (try split) <;> rfl
theorem St.rcall_pend (st : St) : st.rcall.pend = st.pend := by unfold St.rcall; split <;> (try split) <;> rfl
theorem St.rcall_wr (st : St) : st.rcall.wr = st.wr := by unfold St.rcall; split <;> (try split) <;> rfl
theorem St.rcall_fl (st : St) : st.rcall.fl = st.fl := by unfold St.rcall; split <;> (try split) <;> rfl
theorem St.rcall_rd (st : St) : st.rcall.rd = st.rd := by unfold St.rcall; split <;> (try split) <;> rfl

set_option maxHeartbeats 400000 in
theorem rcall_walk (w : World) (da pa : Option Addr) (dn dc pn pc : Nat) (l : Int) (f : Bool) (a b c : Int) :
    Calls Try.prog 40 #[.agg #[.slice da dn dc, .slice pa pn pc, .int .i64 l, .bool f, .int .i64 a, .int .i64 b, .int .i64 c]] w fun e w' =>
      e = .returned (.agg #[.slice da dn dc, .slice pa pn pc, .int .i64 (if l = 0 then -1 else if 0 < l then wrap64 (l - 1) else l), .bool (if l = 0 then true else f), .int .i64 a, .int .i64 b, .int .i64 c]) ∧ Below w.heap.size w w' := by
  by_cases h0 : l = 0
  · subst h0
    go_enter Try.func40, Try.ntmps40
    go_wp2
    exact bodyPost_ret (v := .agg #[.slice da dn dc, .slice pa pn pc, .int .i64 (-1), .bool true, .int .i64 a, .int .i64 b, .int .i64 c]) (by simp [results, Try.results40, go_sem]) rfl ⟨by simp, ((Below.refl _ w).alloc (Nat.le_refl _) _).alloc (by simp) _⟩
  · have hn : (l == 0) = false := by simpa using h0
    rw [if_neg h0, if_neg h0]
    by_cases h3 : 0 < l
    · rw [if_pos h3]
      go_enter Try.func40, Try.ntmps40
      go_wp2
      exact bodyPost_ret (v := .agg #[.slice da dn dc, .slice pa pn pc, .int .i64 (wrap64 (l - 1)), .bool f, .int .i64 a, .int .i64 b, .int .i64 c]) (by simp [results, Try.results40, go_sem]) rfl ⟨rfl, ((Below.refl _ w).alloc (Nat.le_refl _) _).alloc (by simp) _⟩
    · rw [if_neg h3]
      go_enter Try.func40, Try.ntmps40
      go_wp2
      exact bodyPost_ret (v := .agg #[.slice da dn dc, .slice pa pn pc, .int .i64 l, .bool f, .int .i64 a, .int .i64 b, .int .i64 c]) (by simp [results, Try.results40, go_sem]) rfl ⟨rfl, ((Below.refl _ w).alloc (Nat.le_refl _) _).alloc (by simp) _⟩
theorem rcall_any (w : World) (r : Ref) (st : St) : Calls Try.prog 40 #[r.val st] w fun e w' => e = .returned (r.val st.rcall) ∧ Below w.heap.size w w' := by
  refine (rcall_walk w _ _ _ _ _ _ _ _ _ _ _).mono ?_
  rintro e w' ⟨rfl, hb⟩
  refine ⟨?_, hb⟩
  unfold Ref.val Ref.row St.rcall
  by_cases h0 : st.left = 0
  · simp [h0]
  · by_cases h1 : 0 < st.left <;> simp [h0, h1]

set_option maxHeartbeats 400000 in
theorem rfail_walk (w : World) (da pa : Option Addr) (dn dc pn pc : Nat) (l n : Int) (f : Bool) (a b c : Int) :
    Calls Try.prog 37 #[.agg #[.slice da dn dc, .slice pa pn pc, .int .i64 l, .bool f, .int .i64 a, .int .i64 b, .int .i64 c], .int .i64 n] w fun e w' =>
      e = .returned (.agg #[.slice da dn dc, .slice pa pn pc, .int .i64 (if f then l else max n (-1)), .bool f, .int .i64 a, .int .i64 b, .int .i64 c]) ∧ Below w.heap.size w w' := by
  cases f
  · rw [if_neg (by decide)]
    go_enter Try.func37, Try.ntmps37
    go_wp2
    all_goals
      exact bodyPost_ret (v := .agg #[.slice da dn dc, .slice pa pn pc, .int .i64 (max n (-1)), .bool false, .int .i64 a, .int .i64 b, .int .i64 c]) (by simp [results, Try.results37, go_sem]; try omega) rfl ⟨rfl, ((Below.refl _ w).alloc (Nat.le_refl _) _).alloc (by simp) _⟩
  · rw [if_pos rfl]
    go_enter Try.func37, Try.ntmps37
    go_wp2
    exact bodyPost_ret (v := .agg #[.slice da dn dc, .slice pa pn pc, .int .i64 l, .bool true, .int .i64 a, .int .i64 b, .int .i64 c]) (by simp [results, Try.results37, go_sem]) rfl ⟨rfl, ((Below.refl _ w).alloc (Nat.le_refl _) _).alloc (by simp) _⟩
theorem rfail_any (w : World) (r : Ref) (st : St) (n : Int) : Calls Try.prog 37 #[r.val st, .int .i64 n] w fun e w' => e = .returned (r.val (st.failAfter n)) ∧ Below w.heap.size w w' := by
  refine (rfail_walk w _ _ _ _ _ _ _ _ _ _ _ _).mono ?_
  rintro e w' ⟨rfl, hb⟩
  refine ⟨?_, hb⟩
  unfold Ref.val Ref.row St.failAfter
  by_cases h : st.failed = true
  · simp [h]
  · simp [h]

theorem rmake_sec (n : Nat) (h2 : n ≤ 2048) (u : World) : (Instr.makeSlice 43 (.int .i64 (n : Int)) (.int .i64 (n : Int))).run Try.prog u =
      .ok (.slice (some ⟨u.heap.size, 0, none⟩) n n) (u.alloc (.cells (flatD (List.replicate n zeros)).toArray 23)) := by
  obtain ⟨i0, hi, hz0, hz1, hz2⟩ := info_parts info_sec
  have h := run_make (P := Try.prog) u 43 23 i0 (.agg (sec zeros)) Try.underlying43 hi hz0 .i64 .i64 (n : Int) (n : Int) (by omega) (Int.le_refl _) (by rw [hz2]; omega) (by omega)
  rw [← madeCells_sec]
  simpa [hz1, Value.cells] using h
set_option maxHeartbeats 400000 in
theorem rnew_no (n : Int) (hn : n < 1 ∨ 2048 < n) (w : World) :
    Calls Try.prog 23 #[.int .i64 n] w fun e w' => e = .returned (.tuple #[.agg zrow, .int .i64 1]) ∧ Below w.heap.size w w' := by
  by_cases h : n < 1
  · go_enter Try.func23, Try.ntmps23
    go_wp2
    exact bodyPost_ret (v := .tuple #[.agg #[.slice none 0 0, .slice none 0 0, .int .i64 0, .bool false, .int .i64 0, .int .i64 0, .int .i64 0], .int .i64 1]) (by simp [results, Try.results23, go_sem]) rfl ⟨rfl, (Below.refl _ w).alloc (Nat.le_refl _) _⟩
  · have h2 : 2048 < n := by omega
    go_enter Try.func23, Try.ntmps23
    go_wp2
    exact bodyPost_ret (v := .tuple #[.agg #[.slice none 0 0, .slice none 0 0, .int .i64 0, .bool false, .int .i64 0, .int .i64 0, .int .i64 0], .int .i64 1]) (by simp [results, Try.results23, go_sem]) rfl ⟨rfl, (Below.refl _ w).alloc (Nat.le_refl _) _⟩
set_option maxHeartbeats 400000 in
theorem rnew_any (n : Nat) (h1 : 1 ≤ n) (h2 : n ≤ 2048) (w : World) :
    Calls Try.prog 23 #[.int .i64 n] w fun e w' => ∃ r, e = .returned (.tuple #[r.val (St.new n), .int .i64 0]) ∧ RefIn w' r (St.new n) ∧ Below w.heap.size w w' := by
  have hmk := rmake_sec n h2
  go_enter Try.func23, Try.ntmps23
  go_wp2
  have hlen : (St.new n).dur.length = n := by simp [St.new]
  have hfl : (flatD (St.new n).dur).length = n * 64 := by
    rw [size_flatD _ (by intro s hs; rw [(List.mem_replicate.1 hs).2]; exact length_zeros), hlen]
  refine bodyPost_ret (v := .tuple #[.agg #[.slice (some ⟨w.heap.size + 1, 0, none⟩) n n, .slice none 0 0, .int .i64 (-1), .bool false, .int .i64 0, .int .i64 0, .int .i64 0], .int .i64 0]) (by simp [results, Try.results23, go_sem]) rfl
    ⟨⟨some ⟨w.heap.size + 1, 0, none⟩, n, none, 0⟩, by rw [Ref.val, Ref.row, hlen]; rfl, ?_, ((Below.refl _ w).alloc (Nat.le_refl _) _).alloc (by simp) _⟩
  refine ⟨?_, World.ownsRow_nil _ _ _ _, ?_, by simp [St.new], by simp [St.new], by rw [hlen]; exact h2⟩
  · refine ⟨by rw [hlen]; exact hfl, .inr ⟨w.heap.size + 1, n, (flatD (List.replicate n zeros)).toArray, by rw [hlen], Nat.zero_le _, ?_, by rw [hlen]; exact Nat.le_refl _, by unfold maxLen; omega, ?_, ?_⟩⟩
    · exact heap_alloc2_new w _ _
    · rw [List.size_toArray]; exact hfl
    · rw [hlen, List.toList_toArray]; exact List.take_of_length_le (Nat.le_of_eq hfl)
  · intro s hs
    rw [(List.mem_replicate.1 hs).2]; exact length_zeros
end Go.Proofs.Ytakehkoicinlbaa.dk
