/-
  Laws of the walk for values of many cells (arrays of bytes, structs that hold them), whatever the program: a load, a store and a comparison in one step. No function of the program is walked here.
-/
import Derived.Test.YthggagophcnkfaaGreatDoorRows
import Derived.WalkKit
import Derived.WalkSpells
import Derived.WalkLawsBesides
import Derived.Laws.CopyOwn
import Derived.Lib.Hide
namespace Go.Proofs.YthggagophcnkfaaGreatDoor.agg
open Go.RowKit

/-- The cells of a block that may be written. -/
def rowOf (w : World) (g : Nat) : Array Value := match w.heap[g]? with | some (.cells c _ (0, 0)) => c | _ => #[]
theorem rowOf_of {w : World} {g : Nat} {c : Array Value} {t : TypeId} (h : w.heap[g]? = some (.cells c t (0, 0))) : rowOf w g = c := by simp [rowOf, h]
theorem heap_of {w : World} {g : Nat} (h : 0 < (rowOf w g).size) : ∃ t, w.heap[g]? = some (.cells (rowOf w g) t (0, 0)) := by
  unfold rowOf at h ⊢
  split at h
  · rename_i c t hc
    exact ⟨t, by simp [hc]⟩
  · simp at h
@[go_sem] theorem rowOf_alloc_at {w : World} (c : Array Value) (t : TypeId) (n : Nat) (hn : n = w.heap.size) : rowOf (w.alloc (.cells c t)) n = c := by
  subst hn
  exact rowOf_of (heap_alloc_new w _)
@[go_sem] theorem rowOf_alloc_past {w : World} (o : Obj) (n : Nat) (hn : n < w.heap.size) : rowOf (w.alloc o) n = rowOf w n := by
  unfold rowOf
  rw [Below.heap_alloc w o n hn]
@[go_sem] theorem rowOf_drew {w : World} (n : Nat) : rowOf w.drew n = rowOf w n := rfl
theorem lt_of_row {w : World} {g : Nat} (h : 0 < (rowOf w g).size) : g < w.heap.size := by
  obtain ⟨t, ht⟩ := heap_of h
  exact (Array.getElem?_eq_some_iff.1 ht).1
theorem rowOf_setRow_same {w : World} {g : Nat} (c : Array Value) (h : 0 < (rowOf w g).size) : rowOf (w.setRow g c) g = c := by
  obtain ⟨t, ht⟩ := heap_of h
  exact rowOf_of (setRow_heap w g _ c t _ ht)
theorem rowOf_setRow_other {w : World} {g k : Nat} (c : Array Value) (h : k ≠ g) : rowOf (w.setRow g c) k = rowOf w k := by
  unfold rowOf
  rw [setRow_other w g k c h]
theorem rowOf_setCell_other {w : World} {a : Addr} {k : Nat} (v : Value) (h : k ≠ a.block) : rowOf (w.setCell a v) k = rowOf w k := by
  unfold rowOf
  rw [heap_setCell_other w a k v h]
theorem rowOf_block {w w' : World} {k : Nat} (h : w'.heap[k]? = w.heap[k]?) : rowOf w' k = rowOf w k := by
  unfold rowOf
  rw [h]
theorem cell_row {w : World} {g i : Nat} (h : 0 < (rowOf w g).size) : w.cell? ⟨g, i, none⟩ = (rowOf w g)[i]? := by
  obtain ⟨t, ht⟩ := heap_of h
  exact cell_of_row w g i _ t _ ht
theorem free_row {w : World} {g i : Nat} (h : 0 < (rowOf w g).size) : w.frozen? ⟨g, i, none⟩ = false := by
  obtain ⟨t, ht⟩ := heap_of h
  exact frozen_of_row w g i _ t ht
@[go_sem] theorem setRow_alloc_at {w : World} (c d : Array Value) (t : TypeId) (n : Nat) (hn : n = w.heap.size) : (w.alloc (.cells c t)).setRow n d = w.alloc (.cells d t) := by
  subst hn
  unfold World.setRow World.alloc
  congr 1
  apply Array.ext_getElem?
  intro k
  simp only [Array.getElem?_modify, Array.getElem?_push]
  by_cases hk : k = w.heap.size
  · subst hk; simp
  · simp [hk]; omega
@[go_sem] theorem setRow_alloc_past {w : World} (o : Obj) (d : Array Value) (n : Nat) (hn : n < w.heap.size) : (w.alloc o).setRow n d = (w.setRow n d).alloc o := by
  unfold World.setRow World.alloc
  congr 1
  apply Array.ext_getElem?
  intro k
  simp only [Array.getElem?_modify, Array.getElem?_push, Array.size_modify]
  by_cases hk : k = w.heap.size
  · subst hk; simp [Nat.ne_of_lt hn]
  · simp [hk]
@[go_sem] theorem setRow_drew {w : World} (d : Array Value) (n : Nat) : w.drew.setRow n d = (w.setRow n d).drew := rfl

/-- Some cells of a row as one value. -/
def cut (c : Array Value) (o n : Nat) : Value := .agg (c.extract o (o + n))
@[go_sem] theorem cut_whole {c : Array Value} {n : Nat} (h : c.size = n) : cut c 0 n = .agg c := by
  subst h
  simp [cut]
/-- A row in which some cells are replaced. -/
def overrow (c : Array Value) (o : Nat) (v : Array Value) : Array Value := (c.toList.take o ++ v.toList ++ c.toList.drop (o + v.size)).toArray
@[go_sem] theorem overrow_whole {c v : Array Value} (h : v.size = c.size) : overrow c 0 v = v := by
  apply Array.ext'
  have : (List.drop v.size c.toList) = [] := by simp; omega
  simp [overrow, this]
theorem size_overrow {c v : Array Value} {o : Nat} (h : o + v.size ≤ c.size) : (overrow c o v).size = c.size := by
  simp [overrow]
  omega

def aggAt (w : World) (v : Value) (n : Nat) : Value := match v with | .pointer (some ⟨g, o, _⟩) => cut (rowOf w g) o n | _ => undef
def aggOk (w : World) (v : Value) (n : Nat) : Bool := match v with | .pointer (some ⟨g, o, none⟩) => decide (o + n ≤ (rowOf w g).size ∧ 0 < n) | _ => false
@[go_sem] theorem aggAt_mk (w : World) (g o n : Nat) : aggAt w (.pointer (some ⟨g, o, none⟩)) n = cut (rowOf w g) o n := rfl
@[go_sem] theorem aggOk_mk (w : World) (g o n : Nat) : aggOk w (.pointer (some ⟨g, o, none⟩)) n = decide (o + n ≤ (rowOf w g).size ∧ 0 < n) := rfl
/-- The cells of a value of many cells. -/
def cellsOf (v : Value) : Array Value := match v with | .agg c => c | _ => #[]
@[go_sem] theorem cellsOf_agg (c : Array Value) : cellsOf (.agg c) = c := rfl
/-- None of the cells is a value of many. -/
def oneCells (c : Array Value) : Bool := c.toList.all Value.oneCell'
def plain (v : Value) (n : Nat) : Bool := match v with | .agg c => decide (c.size = n) && oneCells c | _ => false
@[go_sem] theorem plain_agg (c : Array Value) (n : Nat) : plain (.agg c) n = (decide (c.size = n) && oneCells c) := rfl
def putRow (w : World) (v : Value) (cs : Array Value) : World := match v with | .pointer (some ⟨g, o, _⟩) => w.setRow g (overrow (rowOf w g) o cs) | _ => w
@[go_sem] theorem putRow_mk (w : World) (g o : Nat) (cs : Array Value) : putRow w (.pointer (some ⟨g, o, none⟩)) cs = w.setRow g (overrow (rowOf w g) o cs) := rfl

section
variable {P : Program} {a : Act} {w : World} {K : Act → World → Prop} {Q : Exit → Act → World → Prop} {dst : Option Tmp} {ty : TypeId} {pos : String} {aft : Array Edge} {gd : Option (Nat × Bool)} {ops : Array Oper}

/-- The type T is one of many cells, of n. -/
structure IsAgg (P : Program) (T : TypeId) (n : Nat) : Prop where
  agg : ∀ w, (isAgg T).run P w = .ok true w
  size : ∀ w, (sizeOf T).run P w = .ok n w

theorem run_loadVar {T : TypeId} {n : Nat} (hT : IsAgg P T n) {g o : Nat} (h : o + n ≤ (rowOf w g).size) (hn : 0 < n) :
    (loadVar T ⟨g, o, none⟩).run P w = .ok (cut (rowOf w g) o n) w := by
  have hp : 0 < (rowOf w g).size := by omega
  have hl : ((rowOf w g).extract o (o + n)).toList.length = n := by simp; omega
  have hr : (loadCells ⟨g, o, none⟩ n).run P w = .ok ((rowOf w g).extract o (o + n)) w := by
    have := run_loadCells_list (P := P) w ⟨g, o, none⟩ ((rowOf w g).extract o (o + n)).toList (fun j v hv => by
      rw [Addr.add_lit, cell_row hp]
      have hj : j < n := by
        have := (List.getElem?_eq_some_iff.1 hv).1
        omega
      rw [Array.getElem?_toList, Array.getElem?_extract] at hv
      split at hv
      · exact hv
      · cases hv)
    rw [hl] at this
    rw [this, Array.toArray_toList]
  simp [loadVar, hT.agg, hT.size, hr, cut]

theorem run_storeVar {T : TypeId} {n : Nat} (hT : IsAgg P T n) {g o : Nat} {c : Array Value} (h : o + n ≤ (rowOf w g).size) (hn : 0 < n) (hc : c.size = n) (h1 : ∀ u ∈ c.toList, u.oneCell' = true) :
    (storeVar T ⟨g, o, none⟩ (.agg c)).run P w = .ok () (w.setRow g (overrow (rowOf w g) o c)) := by
  have hp : 0 < (rowOf w g).size := by omega
  obtain ⟨t, ht⟩ := heap_of hp
  have hs := run_storeCells_at P g o t c.toList 0 (rowOf w g) w ht (by simp; omega) h1
  simp only [Nat.add_zero] at hs
  simp [storeVar, Value.cells, hT.size, hc, hs, overrow]

theorem exec_load_agg {T : TypeId} {n : Nat} (hT : IsAgg P T n) (x : Operand) (h : aggOk w (a.eval x) n = true) :
    (execOp a.eval ⟨dst, .load T x, ty, pos, aft, gd⟩).run P w = .ok (.value (aggAt w (a.eval x) n)) w := by
  unfold execOp
  simp only
  generalize a.eval x = v0 at *
  unfold aggOk at h
  split at h
  · rename_i g o
    have h' : o + n ≤ (rowOf w g).size ∧ 0 < n := by simpa using h
    simp [Instr.loadAt, Instr.sureAddr, run_loadVar hT h'.1 h'.2, aggAt]
  · simp at h
theorem wp_load_agg {T : TypeId} {n : Nat} (hT : IsAgg P T n) (x : Operand) (h : aggOk w (a.eval x) n = true) :
    Oper.wp P ⟨dst, .load T x, ty, pos, aft, gd⟩ a w K Q = K (a.put dst (aggAt w (a.eval x) n)) w := by
  unfold Oper.wp
  rw [exec_load_agg hT x h]
  rfl

/-- A load of a value of many cells out of memory that is only read. -/
theorem wpList_load_cells {rest : List Oper} {o : Oper} {T : TypeId} {n : Nat} (hT : IsAgg P T n) (hg : o.guard = none) (x : Operand) (ho : o.op = .load T x) (b off : Nat) (hx : a.eval x = .pointer (some ⟨b, off, none⟩)) (cs : Array Value) (hc : cs.size = n)
    (h : ∀ j u, cs.toList[j]? = some u → w.cell? ⟨b, off + j, none⟩ = some u) (hK : wpList P ops Q rest (a.put o.dst (.agg cs)) w) : wpList P ops Q (o :: rest) a w := by
  refine wpList_plain hg fun K hK' => ?_
  have hl := run_loadCells_list (P := P) w ⟨b, off, none⟩ cs.toList (fun j v hv => by rw [Addr.add_lit]; exact h j v hv)
  rw [Array.length_toList, hc, Array.toArray_toList] at hl
  unfold Oper.wp execOp
  simp only [ho, hx, Instr.loadAt, Instr.sureAddr, Sem.run_bind, Sem.run_pure, Result.andThen_ok, loadVar, hT.agg, hT.size, if_true, hl]
  exact hK' _ _ hK

theorem exec_store_agg {T : TypeId} {n : Nat} (hT : IsAgg P T n) (x y : Operand) (h : aggOk w (a.eval x) n = true) (hy : plain (a.eval y) n = true) :
    (execOp a.eval ⟨dst, .store T x y, ty, pos, aft, gd⟩).run P w = .ok .skip (putRow w (a.eval x) (cellsOf (a.eval y))) := by
  unfold execOp
  simp only
  generalize a.eval x = v0 at *
  generalize a.eval y = v1 at *
  unfold aggOk at h
  unfold plain at hy
  split at h
  · rename_i g o
    split at hy
    · rename_i c
      have h' : o + n ≤ (rowOf w g).size ∧ 0 < n := by simpa using h
      have hy' : c.size = n ∧ ∀ u ∈ c.toList, u.oneCell' = true := by simpa only [oneCells, Bool.and_eq_true, decide_eq_true_eq, List.all_eq_true] using hy
      simp [Instr.storeAt, Instr.sureAddr, run_storeVar hT h'.1 h'.2 hy'.1 hy'.2, putRow, cellsOf]
    · simp at hy
  · simp at h
theorem wp_store_agg {T : TypeId} {n : Nat} (hT : IsAgg P T n) (x y : Operand) (h : aggOk w (a.eval x) n = true) (hy : plain (a.eval y) n = true) :
    Oper.wp P ⟨dst, .store T x y, ty, pos, aft, gd⟩ a w K Q = K (a.put dst undef) (putRow w (a.eval x) (cellsOf (a.eval y))) := by
  unfold Oper.wp
  rw [exec_store_agg hT x y h hy]
  rfl

section
variable {F : Fence} {m : Nat}
theorem wpIn_value {o : Oper} {v : Value} {w' : World} (hc : ∀ c, o.op ≠ .call c) (hd : ∀ c, o.op ≠ .defer c) (hr : (execOp a.eval o).run P w = .ok (.value v) w') : o.wpIn F m P a w K Q = K (a.put o.dst v) w' := by
  unfold Oper.wpIn
  rw [Oper.semAt_eq _ _ _ hd, hr]
  have : ∀ f, o.about P w a.eval = some f → F.fn f := by
    intro f hf
    unfold Oper.about at hf
    split at hf
    · rename_i c hcc; exact absurd hcc (hc c)
    · cases hf
  exact propext ⟨fun h => h.2, fun h => ⟨this, h⟩⟩
theorem wpIn_skip {o : Oper} {w' : World} (hc : ∀ c, o.op ≠ .call c) (hd : ∀ c, o.op ≠ .defer c) (hr : (execOp a.eval o).run P w = .ok .skip w') : o.wpIn F m P a w K Q = K (a.put o.dst undef) w' := by
  unfold Oper.wpIn
  rw [Oper.semAt_eq _ _ _ hd, hr]
  have : ∀ f, o.about P w a.eval = some f → F.fn f := by
    intro f hf
    unfold Oper.about at hf
    split at hf
    · rename_i c hcc; exact absurd hcc (hc c)
    · cases hf
  exact propext ⟨fun h => h.2, fun h => ⟨this, h⟩⟩
theorem wpIn_load_agg {T : TypeId} {n : Nat} (hT : IsAgg P T n) (x : Operand) (h : aggOk w (a.eval x) n = true) :
    Oper.wpIn F m P ⟨dst, .load T x, ty, pos, aft, gd⟩ a w K Q = K (a.put dst (aggAt w (a.eval x) n)) w :=
  wpIn_value (fun _ e => by cases e) (fun _ e => by cases e) (exec_load_agg hT x h)
theorem wpIn_store_agg {T : TypeId} {n : Nat} (hT : IsAgg P T n) (x y : Operand) (h : aggOk w (a.eval x) n = true) (hy : plain (a.eval y) n = true) :
    Oper.wpIn F m P ⟨dst, .store T x y, ty, pos, aft, gd⟩ a w K Q = K (a.put dst undef) (putRow w (a.eval x) (cellsOf (a.eval y))) :=
  wpIn_skip (fun _ e => by cases e) (fun _ e => by cases e) (exec_store_agg hT x y h hy)
end

/-- Bytes as cells, and back. -/
def u8s (xs : List Int) : List Value := xs.map (Value.int .u8)
@[go_sem] theorem length_u8s (xs : List Int) : (u8s xs).length = xs.length := by simp [u8s]
def sec (xs : List Int) : Array Value := (u8s xs).toArray
@[go_sem] theorem size_sec (xs : List Int) : (sec xs).size = xs.length := by simp [sec, u8s]
theorem sec_get (xs : List Int) (i : Nat) (h : i < xs.length) : (sec xs)[i]? = some (.int .u8 (xs.getD i 0)) := by simp [sec, u8s, List.getD, h]
theorem sec_oneCell (xs : List Int) : ∀ u ∈ (sec xs).toList, u.oneCell' = true := ints_oneCell .u8 xs
@[go_sem] theorem all_sec (xs : List Int) : oneCells (sec xs) = true := by unfold oneCells; rw [List.all_eq_true]; exact sec_oneCell xs
def intOfV (v : Value) : Int := match v with | .int _ n => n | _ => 0
/-- The bytes of a value of bytes. -/
def bytesOf (v : Value) : List Int := (cellsOf v).toList.map intOfV
@[go_sem] theorem bytesOf_sec (xs : List Int) : bytesOf (.agg (sec xs)) = xs := by
  unfold bytesOf sec u8s
  simp only [cellsOf_agg, List.map_map]
  exact List.map_id'' (fun _ => rfl) xs
def isSec (v : Value) (n : Nat) : Prop := ∃ xs : List Int, v = .agg (sec xs) ∧ xs.length = n
@[go_sem] theorem isSec_sec (xs : List Int) (n : Nat) : isSec (.agg (sec xs)) n ↔ xs.length = n :=
  ⟨fun ⟨ys, e, h⟩ => by
    have e' := congrArg bytesOf e
    rw [bytesOf_sec, bytesOf_sec] at e'
    rw [e']; exact h, fun h => ⟨xs, rfl, h⟩⟩

theorem run_part_sec {E : TypeId} (hs : ∀ w, (isAgg E).run P w = .ok false w) (xs : List Int) (i : Nat) (h : i < xs.length) (w : World) : (part E (sec xs) i).run P w = .ok (.int .u8 xs[i]) w := by
  simp [part, Sem.run_bind, hs, sec, u8s, h]

theorem run_equal_loop {E : TypeId} (hE : P.underlying E = some (.int .u8)) (hA : ∀ w, (isAgg E).run P w = .ok false w) (xs ys : List Int) (hxy : xs.length = ys.length) (d : Nat) (w : World) : ∀ (m k : Nat), k + m = xs.length →
    (forIn (m := Sem) (List.range' k m) ((none, ()) : Option Bool × Unit) fun i _ => do
            let x ← part E (sec xs) (i * 1)
            let y ← part E (sec ys) (i * 1)
            let r ← Op.equalIn (d + 1) E x y
            if (!r) = true then pure (ForInStep.done (some false, ())) else pure (ForInStep.yield (none, ()))).run P w = .ok (if xs.drop k = ys.drop k then (none, ()) else (some false, ())) w
  | 0, k, h => by
    have e1 : xs.drop k = [] := by simp; omega
    have e2 : ys.drop k = [] := by simp; omega
    simp [e1, e2]
  | m + 1, k, h => by
    have hk : k < xs.length := by omega
    have hk' : k < ys.length := by omega
    have ih := run_equal_loop hE hA xs ys hxy d w m (k + 1) (by omega)
    rw [List.range'_succ, List.forIn_cons]
    simp only [Sem.run_bind, Nat.mul_one, run_part_sec hA xs k hk, run_part_sec hA ys k hk', Result.andThen_ok, run_equalIn_int w d E .u8 .u8 _ _ hE, Sem.run_ite, Sem.run_pure]
    simp only [Nat.mul_one] at ih
    have hd : (xs.drop k = ys.drop k) ↔ (xs[k] = ys[k] ∧ xs.drop (k + 1) = ys.drop (k + 1)) := by
      rw [List.drop_eq_getElem_cons hk, List.drop_eq_getElem_cons hk', List.cons.injEq]
    by_cases he : xs[k] = ys[k]
    · simp only [he, beq_self_eq_true, Bool.not_true, Bool.false_eq_true, if_false, Result.andThen_ok, ih, hd, true_and]
    · have hb : (xs[k] == ys[k]) = false := by simpa using he
      simp only [hb, Bool.not_false, if_true, Sem.run_pure, Result.andThen_ok, hd, he, false_and, if_false]

theorem run_equal_sec {T E : TypeId} {n : Nat} (hT : P.underlying T = some (.array n E)) (hE : P.underlying E = some (.int .u8)) (hs : ∀ w, (sizeOf E).run P w = .ok 1 w) (hA : ∀ w, (isAgg E).run P w = .ok false w)
    (xs ys : List Int) (hx : xs.length = n) (hy : ys.length = n) (d : Nat) :
    (Op.equalIn (d + 1 + 1) T (.agg (sec xs)) (.agg (sec ys))).run P w = .ok (decide (xs = ys)) w := by
  rw [Op.equalIn]
  simp only [Sem.run_bind, run_underlying hT, Result.andThen_ok, hs]
  rw [Std.Legacy.Range.forIn_eq_forIn_range']
  have h := run_equal_loop hE hA xs ys (by omega) d w n 0 (by omega)
  simp only [Std.Legacy.Range.size, Nat.sub_zero, Nat.add_sub_cancel, Nat.div_one]
  rw [h]
  by_cases he : xs = ys <;> simp [he]

theorem wp_eql_sec {T E : TypeId} {n : Nat} (hT : P.underlying T = some (.array n E)) (hE : P.underlying E = some (.int .u8)) (hs : ∀ w, (sizeOf E).run P w = .ok 1 w) (hA : ∀ w, (isAgg E).run P w = .ok false w) (hg : P.eqGuardType P.depth T = false)
    (x y : Operand) {T' : TypeId} (hx : isSec (a.eval x) n) (hy : isSec (a.eval y) n) :
    Oper.wp P ⟨dst, .binOp .eql T x y T', ty, pos, aft, gd⟩ a w K Q = K (a.put dst (.bool (decide (bytesOf (a.eval x) = bytesOf (a.eval y))))) w := by
  obtain ⟨xs, ex, hx⟩ := hx
  obtain ⟨ys, ey, hy⟩ := hy
  unfold Oper.wp execOp
  simp only [ex, ey, bytesOf_sec, Sem.run_bind, run_eqGuard_agg w .eql T x y (sec xs) (sec ys) hg, run_eql_struct w T (sec xs) (sec ys), Result.andThen_ok, run_equal_sec hT hE hs hA xs ys hx hy 9998]
  rfl
theorem wp_neq_sec {T E : TypeId} {n : Nat} (hT : P.underlying T = some (.array n E)) (hE : P.underlying E = some (.int .u8)) (hs : ∀ w, (sizeOf E).run P w = .ok 1 w) (hA : ∀ w, (isAgg E).run P w = .ok false w) (hg : P.eqGuardType P.depth T = false)
    (x y : Operand) {T' : TypeId} (hx : isSec (a.eval x) n) (hy : isSec (a.eval y) n) :
    Oper.wp P ⟨dst, .binOp .neq T x y T', ty, pos, aft, gd⟩ a w K Q = K (a.put dst (.bool (!decide (bytesOf (a.eval x) = bytesOf (a.eval y))))) w := by
  obtain ⟨xs, ex, hx⟩ := hx
  obtain ⟨ys, ey, hy⟩ := hy
  unfold Oper.wp execOp
  simp only [ex, ey, bytesOf_sec, Sem.run_bind, run_eqGuard_agg w .neq T x y (sec xs) (sec ys) hg, run_neq_struct w T (sec xs) (sec ys), Result.andThen_ok, run_equal_sec hT hE hs hA xs ys hx hy 9998]
  rfl

/-- A new variable of many cells, at its zero value. -/
theorem exec_alloc_agg {T : TypeId} {z : Array Value} (hz : ∀ w, (zeroValue T).run P w = .ok (.agg z) w) :
    (execOp a.eval ⟨dst, .alloc T, ty, pos, aft, gd⟩).run P w = .ok (.value (.pointer (some ⟨w.heap.size, 0, none⟩))) (w.alloc (.cells z T)) := by
  unfold execOp
  simp [Instr.alloc, hz, newVar, newRow, Value.cells]
theorem wp_alloc_agg {T : TypeId} {z : Array Value} (hz : ∀ w, (zeroValue T).run P w = .ok (.agg z) w) :
    Oper.wp P ⟨dst, .alloc T, ty, pos, aft, gd⟩ a w K Q = K (a.put dst (.pointer (some ⟨w.heap.size, 0, none⟩))) (w.alloc (.cells z T)) := by
  unfold Oper.wp
  rw [exec_alloc_agg hz]
  rfl
theorem wpIn_alloc_agg {F : Fence} {m : Nat} {T : TypeId} {z : Array Value} (hz : ∀ w, (zeroValue T).run P w = .ok (.agg z) w) :
    Oper.wpIn F m P ⟨dst, .alloc T, ty, pos, aft, gd⟩ a w K Q = K (a.put dst (.pointer (some ⟨w.heap.size, 0, none⟩))) (w.alloc (.cells z T)) :=
  wpIn_value (fun _ e => by cases e) (fun _ e => by cases e) (exec_alloc_agg hz)

theorem run_loadVar_whole {T : TypeId} {n : Nat} (hT : IsAgg P T n) {g : Nat} {c : Array Value} (hr : rowOf w g = c) (hc : c.size = n) (hn : 0 < n) : (loadVar T ⟨g, 0, none⟩).run P w = .ok (.agg c) w := by
  rw [run_loadVar hT (by rw [hr]; omega) hn, hr, cut_whole hc]

/-- A function's result that lies in a cell, of many cells. -/
theorem results_cell {fn : Func} {p : Tmp} {T : TypeId} {n : Nat} (hres : fn.results = #[.cell p T]) (hT : IsAgg P T n) (tmps : Array Value) {g : Nat} (hp : tmps.getD p undef = .pointer (some ⟨g, 0, none⟩)) {c : Array Value} (hr : rowOf w g = c)
    (hc : c.size = n) (hn : 0 < n) : (results fn tmps).run P w = .ok (.agg c) w := by
  have hp' : tmps[p]?.getD undef = .pointer (some ⟨g, 0, none⟩) := by simpa using hp
  simp [results, hres, hp', asAddr, run_loadVar_whole hT hr hc hn]
/-- Two results, the first one in a cell, of many cells. -/
theorem results_cell_tmp' {fn : Func} {p u : Tmp} {T : TypeId} {n : Nat} (hres : fn.results = #[.cell p T, .tmp u]) (hT : IsAgg P T n) (tmps : Array Value) {g : Nat} (hp : tmps.getD p undef = .pointer (some ⟨g, 0, none⟩)) {c : Array Value} (hr : rowOf w g = c)
    (hc : c.size = n) (hn : 0 < n) : (results fn tmps).run P w = .ok (.tuple #[.agg c, tmps.getD u undef]) w := by
  have hp' : tmps[p]?.getD undef = .pointer (some ⟨g, 0, none⟩) := by simpa using hp
  simp [results, hres, hp', asAddr, run_loadVar_whole hT hr hc hn]
/-- Two results in cells, the first one of many cells. -/
theorem results_cells {fn : Func} {p q : Tmp} {T U : TypeId} {n : Nat} (hres : fn.results = #[.cell p T, .cell q U]) (hT : IsAgg P T n) (hU : ∀ w, (isAgg U).run P w = .ok false w) (tmps : Array Value) {g h : Nat}
    (hp : tmps.getD p undef = .pointer (some ⟨g, 0, none⟩)) (hq : tmps.getD q undef = .pointer (some ⟨h, 0, none⟩)) {c : Array Value} (hr : rowOf w g = c)
    (hc : c.size = n) (hn : 0 < n) {v : Value} (hv : w.cell? ⟨h, 0, none⟩ = some v) : (results fn tmps).run P w = .ok (.tuple #[.agg c, v]) w := by
  have hp' : tmps[p]?.getD undef = .pointer (some ⟨g, 0, none⟩) := by simpa using hp
  have hq' : tmps[q]?.getD undef = .pointer (some ⟨h, 0, none⟩) := by simpa using hq
  have hl : (loadVar U ⟨h, 0, none⟩).run P w = .ok v w := by simp [loadVar, hU, hv]
  simp [results, hres, hp', hq', asAddr, run_loadVar_whole hT hr hc hn, hl]

theorem fold_overrow (off : Nat) : ∀ (vs : List Value) (k : Nat) (cs : Array Value), off + k + vs.length ≤ cs.size →
    ((vs.zipIdx k).foldl (fun cs (x : Value × Nat) => cs.setIfInBounds (off + x.2) x.1) cs).toList = cs.toList.take (off + k) ++ vs ++ cs.toList.drop (off + k + vs.length)
  | [], k, cs, _ => by simp
  | v :: vs, k, cs, h => by
    have hi : off + k < cs.size := by simp at h; omega
    rw [List.zipIdx_cons, List.foldl_cons, fold_overrow off vs (k + 1) _ (by simp at h ⊢; omega)]
    have e := list_seg_step cs.toList (off + k) v vs (by simp at h ⊢; omega)
    simp only [Array.toList_setIfInBounds]
    rw [← Nat.add_assoc]
    rw [e]
    simp [Nat.add_assoc]
theorem fold_overrow' (off : Nat) (vs cs : Array Value) (h : off + vs.size ≤ cs.size) : vs.zipIdx.foldl (fun cs (x : Value × Nat) => cs.setIfInBounds (off + x.2) x.1) cs = overrow cs off vs := by
  apply Array.ext'
  rw [← Array.foldl_toList]
  have := fold_overrow off vs.toList 0 cs (by simpa using h)
  simpa [overrow] using this
theorem fill_cons (place : Nat → Option (Nat × Nat)) (cells : Array Value) (i : Nat) (v : Value) (rest : List (Nat × Value)) {off size : Nat} (hp : place i = some (off, size)) (hs : v.cells.size = size) (hc : off + size ≤ cells.size) :
    Instr.fill place cells ((i, v) :: rest) = Instr.fill place (overrow cells off v.cells) rest := by
  subst hs
  have e := fold_overrow' off v.cells cells hc
  have hn : ¬ (off + v.cells.size > cells.size) := by omega
  simp only [Instr.fill, hp]
  rw [if_neg (by simp [hn]), ← e]

/-- A struct of two fields, the first one of one cell. -/
structure IsPair (P : Program) (T : TypeId) (n : Nat) (z : Array Value) : Prop where
  desc : ∃ f0 f1, P.underlying T = some (.struct #[f0, f1]) ∧ f0.offset = 0 ∧ f1.offset = 1 ∧ (∀ w, (sizeOf f0.type).run P w = .ok 1 w) ∧ (∀ w, (sizeOf f1.type).run P w = .ok n w)
  zero : ∀ w, (zeroValue T).run P w = .ok (.agg z) w
  size : z.size = 1 + n
theorem run_build2 {T : TypeId} {n : Nat} {z : Array Value} (hT : IsPair P T n z) (v : Value) (c : Array Value) (hv : v.oneCell' = true) (hc : c.size = n) :
    (Instr.build T #[(0, v), (1, .agg c)]).run P w = .ok (.agg (#[v] ++ c)) w := by
  obtain ⟨f0, f1, hu, h0, h1, s0, s1⟩ := hT.desc
  have hvc : v.cells = #[v] := by cases v <;> first | rfl | simp [Value.oneCell'] at hv
  have hz := hT.size
  have hf : Instr.fill (fun i => (#[(0, 1), (1, n)] : Array (Nat × Nat))[i]?) z [(0, v), (1, .agg c)] = some (#[v] ++ c) := by
    rw [fill_cons _ _ 0 v _ (off := 0) (size := 1) rfl (by rw [hvc]; rfl) (by omega), hvc,
      fill_cons _ _ 1 (.agg c) _ (off := 1) (size := n) rfl (by simpa [Value.cells] using hc) (by rw [size_overrow (by simp; omega)]; omega)]
    simp only [Instr.fill, Value.cells]
    congr 1
    apply Array.ext'
    have e : List.drop (1 + c.size) (v :: z.toList.drop 1) = [] := by simp; omega
    simp only [overrow, Nat.zero_add, List.take_zero, List.nil_append, List.size_toArray, List.length_cons, List.length_nil, List.cons_append]
    rw [e]
    simp
  simp [Instr.build, Sem.run_bind, hT.zero, run_underlying hu, h0, h1, s0, s1, Value.cells] at hf ⊢
  rw [hf]
  rfl

@[go_sem] theorem one_int (k : IntKind) (n : Int) : (Value.int k n).oneCell' = true := rfl
/-- One cell and a value of many as one value. -/
def pairOf (v u : Value) : Value := .agg (#[v] ++ cellsOf u)
def sized (v : Value) (n : Nat) : Prop := ∃ c, v = .agg c ∧ c.size = n
@[go_sem] theorem sized_agg (c : Array Value) (n : Nat) : sized (.agg c) n ↔ c.size = n := ⟨fun ⟨d, e, h⟩ => by cases e; exact h, fun h => ⟨c, rfl, h⟩⟩
theorem wp_build2 {T : TypeId} {n : Nat} {z : Array Value} (hT : IsPair P T n z) (x y : Operand) (hx : (a.eval x).oneCell' = true) (hy : sized (a.eval y) n) :
    Oper.wp P ⟨dst, .build T #[(0, x), (1, y)], ty, pos, aft, gd⟩ a w K Q = K (a.put dst (pairOf (a.eval x) (a.eval y))) w := by
  obtain ⟨c, ey, hc⟩ := hy
  unfold Oper.wp execOp
  have hr := run_build2 (w := w) hT (a.eval x) c hx hc
  simp [ey, hr, Oper.upon, pairOf, cellsOf]
theorem run_buildSlice1 {S E : TypeId} {n : Nat} {z : Array Value} (hS : P.underlying S = some (.slice E)) (hs : ∀ w, (sizeOf E).run P w = .ok n w) (hz : ∀ w, (zeroValue E).run P w = .ok (.agg z) w) (hn : 0 < n) (hn' : n ≤ 2 ^ 24) (c : Array Value) (hc : c.size = n) :
    (Instr.buildSlice S 1 #[(0, .agg c)]).run P w = .ok (.slice (some ⟨w.heap.size, 0, none⟩) 1 1) (w.alloc (.cells c E)) := by
  have h1 : ¬ (n > 2 ^ 24) := by omega
  have h2 : ¬ (n = 0) := by omega
  have hf : Instr.fill (fun i => some (i * n, n)) (Array.map (fun x => z[x % z.size]!) (Array.range n)) [(0, .agg c)] = some c := by
    rw [fill_cons _ _ 0 (.agg c) _ (off := 0) (size := n) (by simp) (by simpa [Value.cells] using hc) (by simp)]
    simp only [Instr.fill, Value.cells]
    rw [overrow_whole (by simp [hc])]
  simp only [Instr.buildSlice, Sem.run_bind, run_underlying hS, Result.andThen_ok, hs, Nat.one_mul, h1, h2, if_false, hz, Sem.run_pure, Value.cells, newRow]
  simp only [hf]
  rfl
theorem wp_buildSlice1 {S E : TypeId} {n : Nat} {z : Array Value} (hS : P.underlying S = some (.slice E)) (hs : ∀ w, (sizeOf E).run P w = .ok n w) (hz : ∀ w, (zeroValue E).run P w = .ok (.agg z) w) (hn : 0 < n) (hn' : n ≤ 2 ^ 24) (x : Operand) (hx : sized (a.eval x) n) :
    Oper.wp P ⟨dst, .buildSlice S 1 #[(0, x)], ty, pos, aft, gd⟩ a w K Q = K (a.put dst (.slice (some ⟨w.heap.size, 0, none⟩) 1 1)) (w.alloc (.cells (cellsOf (a.eval x)) E)) := by
  obtain ⟨c, ex, hc⟩ := hx
  unfold Oper.wp execOp
  have hr := run_buildSlice1 (w := w) hS hs hz hn hn' c hc
  simp [ex, hr, Oper.upon, cellsOf]

/-- append onto a slice of the call's own (or nil): what it leaves, and where the new slice lies. -/
theorem append_own {w : World} {base : Nat} {t ty e : TypeId} {i : TypeInfo} {z : Value} {size bytes : Nat} (ht : P.underlying t = some (.slice e)) (hi : P.info? e = some i) (hz : i.zero = some z)
    (hsize : i.size = size) (hby : i.bytes = bytes) (hzs : z.cells.size = size)
    {v : Value} {n : Nat} {xs : List Value} (hown : w.ownsRow base e size v n xs)
    {ad : Addr} {m c : Nat} {news : List Value} (hl : news.length = m * size) (hm : 0 < m) (hnews : ∀ j u, news[j]? = some u → w.cell? (ad.add j) = some u) (h1 : ∀ u ∈ news, u.oneCell' = true)
    (h63 : n + m ≤ maxLen) (hbytes : (n + m) * bytes ≤ 140737488355328) (hbase : base ≤ w.heap.size) :
    ∃ g cap w', (Builtin.append_ #[t, t] ty #[v, .slice (some ad) m c]).run P w = .ok (.slice (some ⟨g, 0, none⟩) (n + m) cap) w' ∧ w'.ownsRow base e size (.slice (some ⟨g, 0, none⟩) (n + m) cap) (n + m) (xs ++ news) ∧ w.grownBy w' v.ownBlock ∧
      (v.ownBlock = some g ∨ g = w.heap.size) := by
  subst hsize
  subst hby
  have hlen : (xs ++ news).length = (n + m) * i.size := by rw [List.length_append, hown.1, hl, Nat.add_mul]
  have hsmall : n + m ≤ 9223372036854775807 := by simp only [maxLen] at h63; omega
  have made : ∀ cap : Nat, n + m ≤ cap → cap ≤ maxLen → (w.drew.alloc (.cells (xs.toArray ++ news.toArray ++ Builtin.zeroCells z.cells (cap - (n + m))) e)).ownsRow base e i.size (.slice (some ⟨w.heap.size, 0, none⟩) (n + m) cap) (n + m) (xs ++ news) := by
    intro cap h h'
    refine ⟨hlen, .inr ⟨w.heap.size, cap, _, rfl, hbase, heap_alloc_new w.drew _, h, h', ?_, ?_⟩⟩
    · simp only [Array.size_append, List.size_toArray, size_zeroCells, hzs, hown.1, hl]
      rw [← Nat.add_mul, ← Nat.add_mul]
      congr 1
      omega
    · simp only [Array.toList_append, List.append_assoc]
      rw [← List.append_assoc, ← hlen]
      exact List.take_left
  have kept : ∀ (o : Obj) (row : Option Nat), w.grownBy (w.drew.alloc o) row := fun o row => ⟨rfl, rfl, rfl, by simp, fun k hk _ => Below.heap_alloc w.drew o k hk⟩
  rcases hown.2 with ⟨rfl, rfl⟩ | ⟨g, cap, cur, rfl, hbg, hg, hnc, hcm, hcs, htake⟩
  · have hx : xs = [] := List.eq_nil_of_length_eq_zero (by simpa using hown.1)
    subst hx
    have hr := run_append_nil (P := P) w t ty e i z ht hi hz ad m c news hl hnews (by omega) (by omega) (by have hb := hbytes; simp only [Nat.zero_add] at hb; omega)
    have hmd := made (grownCap w (0 + m) 0 e) (grownCap_ge w _ _ _) (grownCap_le_maxLen w _ _ _ h63)
    simp only [Nat.zero_add, List.nil_append, Array.empty_append] at hmd hr ⊢
    exact ⟨_, _, _, hr, hmd, kept _ _, .inr rfl⟩
  · by_cases hroom : n + m ≤ cap
    · have hfit : n * i.size + news.length ≤ cur.size := by rw [hl, hcs, ← Nat.add_mul]; exact Nat.mul_le_mul_right _ hroom
      have hr := run_append_room (P := P) w t ty e i ht hi g n cap cur hg ad m c news hl hnews h1 hroom hfit
      refine ⟨g, cap, _, hr, ⟨hlen, .inr ⟨g, cap, _, rfl, hbg, setRow_heap w g cur _ e _ hg, hroom, hcm, ?_, ?_⟩⟩, ⟨rfl, rfl, rfl, by simp, fun k _ hk => setRow_other w g k _ (fun e => hk (by simp [Value.ownBlock, e]))⟩, .inl rfl⟩
      · simp only [List.size_toArray, List.length_append, List.length_take, List.length_drop, Array.length_toList]
        omega
      · rw [htake, ← hlen]
        exact List.take_left
    · have holds : ∀ j u, xs[j]? = some u → w.cell? ((⟨g, 0, none⟩ : Addr).add j) = some u := hown.cells (g := g) rfl
      have hr := run_append_grow (P := P) w t ty e i z ht hi hz ⟨g, 0, none⟩ n cap xs hown.1 holds ad m c news hl hnews (by omega) (by omega) (growslice_fits (by omega) hbytes)
      exact ⟨_, _, _, hr, made _ (grownCap_ge w _ _ _) (grownCap_le_maxLen w _ _ _ h63), kept _ _, .inr rfl⟩
theorem wp_append_mine {o : Oper} (s x : Operand) (t : TypeId)
    (ho : o.op = .call { callee := .builtin .append, args := #[s, x], argTypes := #[t, t] })
    (base : Nat) (e : TypeId) (i : TypeInfo) (z : Value) (size bytes : Nat) (ht : P.underlying t = some (.slice e)) (hi : P.info? e = some i) (hz : i.zero = some z)
    (hsize : i.size = size) (hby : i.bytes = bytes) (hzs : z.cells.size = size)
    (v : Value) (n : Nat) (xs : List Value) (hs : a.eval s = v) (hown : w.ownsRow base e size v n xs)
    (ad : Addr) (m c : Nat) (news : List Value) (hx : a.eval x = .slice (some ad) m c) (hl : news.length = m * size) (hm : 0 < m) (hnews : ∀ j u, news[j]? = some u → w.cell? (ad.add j) = some u) (h1 : ∀ u ∈ news, u.oneCell' = true)
    (h63 : n + m ≤ maxLen) (hbytes : (n + m) * bytes ≤ 140737488355328) (hbase : base ≤ w.heap.size)
    (h : ∀ g cap w', w'.ownsRow base e size (.slice (some ⟨g, 0, none⟩) (n + m) cap) (n + m) (xs ++ news) → w.grownBy w' v.ownBlock → (v.ownBlock = some g ∨ g = w.heap.size) → K (a.put o.dst (.slice (some ⟨g, 0, none⟩) (n + m) cap)) w') :
    o.wp P a w K Q := by
  obtain ⟨g, cap, w', hr, h2, h3, h4⟩ := append_own (P := P) (ty := o.type) (c := c) ht hi hz hsize hby hzs hown hl hm hnews h1 h63 hbytes hbase
  unfold Oper.wp execOp
  simp only [ho, resolve, invoke, builtin, Sem.run_bind, Sem.run_pure, Result.andThen_ok, List.map_toArray, List.map_cons, List.map_nil, hs, hx, hr]
  exact h g cap w' h2 h3 h4
/-- The same as a step of a region that draws its order. -/
theorem step_append_mine {o : Oper} {E' : Prop} (hg : o.guard = none) (s x : Operand) (t : TypeId)
    (ho : o.op = .call { callee := .builtin .append, args := #[s, x], argTypes := #[t, t] })
    (base : Nat) (e : TypeId) (i : TypeInfo) (z : Value) (size bytes : Nat) (ht : P.underlying t = some (.slice e)) (hi : P.info? e = some i) (hz : i.zero = some z)
    (hsize : i.size = size) (hby : i.bytes = bytes) (hzs : z.cells.size = size)
    (v : Value) (n : Nat) (xs : List Value) (hs : a.eval s = v) (hown : w.ownsRow base e size v n xs)
    (ad : Addr) (m c : Nat) (news : List Value) (hx : a.eval x = .slice (some ad) m c) (hl : news.length = m * size) (hm : 0 < m) (hnews : ∀ j u, news[j]? = some u → w.cell? (ad.add j) = some u) (h1 : ∀ u ∈ news, u.oneCell' = true)
    (h63 : n + m ≤ maxLen) (hbytes : (n + m) * bytes ≤ 140737488355328) (hbase : base ≤ w.heap.size)
    (h : ∀ g cap w', w'.ownsRow base e size (.slice (some ⟨g, 0, none⟩) (n + m) cap) (n + m) (xs ++ news) → w.grownBy w' v.ownBlock → (v.ownBlock = some g ∨ g = w.heap.size) → K (a.put o.dst (.slice (some ⟨g, 0, none⟩) (n + m) cap)) w') :
    if Region.wanted o (yielded ops a.tmps) = true then Oper.wp P o a w K Q else E' := by
  have hw : Region.wanted o (yielded ops a.tmps) = true := by simp [Region.wanted, hg]
  rw [if_pos hw]
  exact wp_append_mine s x t ho base e i z size bytes ht hi hz hsize hby hzs v n xs hs hown ad m c news hx hl hm hnews h1 h63 hbytes hbase h
theorem wpList_append_mine {o : Oper} {rest : List Oper} (hg : o.guard = none) (s x : Operand) (t : TypeId)
    (ho : o.op = .call { callee := .builtin .append, args := #[s, x], argTypes := #[t, t] })
    (base : Nat) (e : TypeId) (i : TypeInfo) (z : Value) (size bytes : Nat) (ht : P.underlying t = some (.slice e)) (hi : P.info? e = some i) (hz : i.zero = some z)
    (hsize : i.size = size) (hby : i.bytes = bytes) (hzs : z.cells.size = size)
    (v : Value) (n : Nat) (xs : List Value) (hs : a.eval s = v) (hown : w.ownsRow base e size v n xs)
    (ad : Addr) (m c : Nat) (news : List Value) (hx : a.eval x = .slice (some ad) m c) (hl : news.length = m * size) (hm : 0 < m) (hnews : ∀ j u, news[j]? = some u → w.cell? (ad.add j) = some u) (h1 : ∀ u ∈ news, u.oneCell' = true)
    (h63 : n + m ≤ maxLen) (hbytes : (n + m) * bytes ≤ 140737488355328) (hbase : base ≤ w.heap.size)
    (h : ∀ g cap w', w'.ownsRow base e size (.slice (some ⟨g, 0, none⟩) (n + m) cap) (n + m) (xs ++ news) → w.grownBy w' v.ownBlock → (v.ownBlock = some g ∨ g = w.heap.size) → wpList P ops Q rest (a.put o.dst (.slice (some ⟨g, 0, none⟩) (n + m) cap)) w') :
    wpList P ops Q (o :: rest) a w :=
  wpList_plain hg fun _ hK => wp_append_mine s x t ho base e i z size bytes ht hi hz hsize hby hzs v n xs hs hown ad m c news hx hl hm hnews h1 h63 hbytes hbase fun g cap w' h2 h3 h4 => hK _ _ (h g cap w' h2 h3 h4)

/-- copy between two rows of cells. -/
theorem run_copy {w : World} {T1 T2 ty E : TypeId} (hu : P.underlying T1 = some (.slice E)) (hs : ∀ w, (sizeOf E).run P w = .ok 1 w) {g o dl dc h p sl sc n : Nat} (hn : Nat.min sl dl = n)
    (hg : o + n ≤ (rowOf w g).size) (hh : p + n ≤ (rowOf w h).size) (hp : 0 < (rowOf w g).size) (hq : 0 < (rowOf w h).size) (h1 : oneCells (rowOf w h) = true) :
    (Builtin.copy_ #[T1, T2] ty #[.slice (some ⟨g, o, none⟩) dl dc, .slice (some ⟨h, p, none⟩) sl sc]).run P w = .ok (.int .i64 n) (w.setRow g (overrow (rowOf w g) o ((rowOf w h).extract p (p + n)))) := by
  obtain ⟨t, ht⟩ := heap_of hp
  have hl : ((rowOf w h).extract p (p + n)).toList.length = n * 1 := by simp; omega
  have hf := run_firstCells_some (P := P) w 1 n ⟨h, p, none⟩ sl sc ((rowOf w h).extract p (p + n)).toList hl (fun j v hv => by
    rw [Addr.add_lit, cell_row hq]
    rw [Array.getElem?_toList, Array.getElem?_extract] at hv
    split at hv
    · exact hv
    · cases hv)
  have ho : ∀ u ∈ ((rowOf w h).extract p (p + n)).toList, u.oneCell' = true := by
    intro u hu
    have h1' : ∀ u ∈ (rowOf w h).toList, u.oneCell' = true := by simpa only [oneCells, List.all_eq_true] using h1
    refine h1' u ?_
    simp only [Array.toList_extract] at hu
    exact List.mem_of_mem_drop (List.mem_of_mem_take hu)
  have hst := run_storeCells_at P g o t ((rowOf w h).extract p (p + n)).toList 0 (rowOf w g) w ht (by rw [hl]; omega) ho
  simp only [Nat.add_zero] at hst
  simp only [Builtin.copy_, List.getElem?_toArray, List.getElem?_cons_zero, List.getElem?_cons_succ, Sem.run_bind, run_underlying hu, Result.andThen_ok, Builtin.lenOf, Sem.run_pure, hs, hn, hf, Array.toArray_toList, hst]
  simp only [goInt, overrow, Array.length_toList, List.append_assoc]
theorem wp_copy {o : Oper} (s x : Operand) (T1 T2 : TypeId) (ho : o.op = .call { callee := .builtin .copy, args := #[s, x], argTypes := #[T1, T2] })
    {E : TypeId} (hu : P.underlying T1 = some (.slice E)) (hs : ∀ w, (sizeOf E).run P w = .ok 1 w) (g off dl dc h p sl sc n : Nat) (h1 : a.eval s = .slice (some ⟨g, off, none⟩) dl dc) (h2 : a.eval x = .slice (some ⟨h, p, none⟩) sl sc) (hn : Nat.min sl dl = n)
    (hg : off + n ≤ (rowOf w g).size) (hh : p + n ≤ (rowOf w h).size) (hp : 0 < (rowOf w g).size) (hq : 0 < (rowOf w h).size) (h3 : oneCells (rowOf w h) = true)
    (hK : K (a.put o.dst (.int .i64 n)) (w.setRow g (overrow (rowOf w g) off ((rowOf w h).extract p (p + n))))) : o.wp P a w K Q := by
  have hr := run_copy (P := P) (T2 := T2) (ty := o.type) (dc := dc) (sc := sc) hu hs hn hg hh hp hq h3
  unfold Oper.wp execOp
  simp only [ho, resolve, invoke, builtin, Sem.run_bind, Sem.run_pure, Result.andThen_ok, List.map_toArray, List.map_cons, List.map_nil, h1, h2, hr]
  exact hK
theorem step_copy {o : Oper} {E' : Prop} (hgd : o.guard = none) (s x : Operand) (T1 T2 : TypeId) (ho : o.op = .call { callee := .builtin .copy, args := #[s, x], argTypes := #[T1, T2] })
    {E : TypeId} (hu : P.underlying T1 = some (.slice E)) (hs : ∀ w, (sizeOf E).run P w = .ok 1 w) (g off dl dc h p sl sc n : Nat) (h1 : a.eval s = .slice (some ⟨g, off, none⟩) dl dc) (h2 : a.eval x = .slice (some ⟨h, p, none⟩) sl sc) (hn : Nat.min sl dl = n)
    (hg : off + n ≤ (rowOf w g).size) (hh : p + n ≤ (rowOf w h).size) (hp : 0 < (rowOf w g).size) (hq : 0 < (rowOf w h).size) (h3 : oneCells (rowOf w h) = true)
    (hK : K (a.put o.dst (.int .i64 n)) (w.setRow g (overrow (rowOf w g) off ((rowOf w h).extract p (p + n))))) :
    if Region.wanted o (yielded ops a.tmps) = true then Oper.wp P o a w K Q else E' := by
  have hw : Region.wanted o (yielded ops a.tmps) = true := by simp [Region.wanted, hgd]
  rw [if_pos hw]
  exact wp_copy s x T1 T2 ho hu hs g off dl dc h p sl sc n h1 h2 hn hg hh hp hq h3 hK

/-- The cells of a block that has just been made. -/
theorem cells_new (w : World) (c : Array Value) (t : TypeId) : ∀ j u, c.toList[j]? = some u → (w.alloc (.cells c t)).cell? ((⟨w.heap.size, 0, none⟩ : Addr).add j) = some u := by
  intro j u hu
  rw [Addr.add_lit, Nat.zero_add, World.cell?_alloc_new]
  simpa using hu
theorem own_slice {w : World} {base : Nat} {e : TypeId} {size : Nat} {v : Value} {n : Nat} {xs : List Value} (h : w.ownsRow base e size v (n + 1) xs) : ∃ g cap, v = .slice (some ⟨g, 0, none⟩) (n + 1) cap := by
  rcases h.2 with ⟨_, h0⟩ | ⟨g, cap, cur, hv, _⟩
  · omega
  · exact ⟨g, cap, hv⟩
end

end Go.Proofs.YthggagophcnkfaaGreatDoor.agg
