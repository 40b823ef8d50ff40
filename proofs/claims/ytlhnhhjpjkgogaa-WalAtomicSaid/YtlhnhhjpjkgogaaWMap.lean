/- A map from ints to frames that the call has made, filled with new keys alone. -/
import Derived.Test.YtlhnhhjpjkgogaaWSuper
import Derived.MapKept
import Derived.ChangeMaps5
import Derived.Carry
namespace Go.Proofs.Ytlhnhhjpjkgogaa.wl
open Go.RowKit Go.ChangeMaps Go.MapKept Go.Proofs.Ytlhnhhjpjkgogaa.agg Go.Proofs.Ytlhnhhjpjkgogaa.dk
set_option linter.unusedSimpArgs false
set_option linter.unusedVariables false

/-- The map at block b. -/
def MapIn (w : World) (b : Nat) (m : List (Nat × Fr)) : Prop :=
  ∃ es clock, w.heap[b]? = some (.map es clock) ∧ es.toList.map (fun e => (e.key, e.val)) = m.map (fun x => (Value.int .i64 (x.1 : Nat), Value.agg x.2.cells))
def getFr (m : List (Nat × Fr)) (k : Int) : Option Fr := (m.find? (fun x => (x.1 : Int) == k)).map (·.2)
theorem MapIn.same {w w' : World} {b : Nat} {m : List (Nat × Fr)} (h : MapIn w b m) (e : w'.heap[b]? = w.heap[b]?) : MapIn w' b m := by
  obtain ⟨es, c, h1, h2⟩ := h
  exact ⟨es, c, e.trans h1, h2⟩
theorem MapIn.lt {w : World} {b : Nat} {m : List (Nat × Fr)} (h : MapIn w b m) : b < w.heap.size := by
  obtain ⟨es, c, h1, h2⟩ := h
  exact (Array.getElem?_eq_some_iff.1 h1).1
theorem findNow_own (k : Int) : ∀ (es : List MapEntry) (m : List (Nat × Fr)) (i : Nat), es.map (fun e => (e.key, e.val)) = m.map (fun x => (Value.int .i64 (x.1 : Nat), Value.agg x.2.cells)) →
    ∃ r, Instr.findNow (.int .i64) (.int .i64 k) es i = some r ∧ r.map (·.2) = (getFr m k).map (fun f => Value.agg f.cells)
  | [], m, i, h => by
    cases m with
    | nil => exact ⟨none, rfl, rfl⟩
    | cons _ _ => simp at h
  | e :: es, m, i, h => by
    cases m with
    | nil => simp at h
    | cons x m =>
      simp only [List.map_cons, List.cons.injEq, Prod.mk.injEq] at h
      obtain ⟨⟨h1, h2⟩, h3⟩ := h
      by_cases hk : k = (x.1 : Int)
      · refine ⟨some (i, e.val), ?_, ?_⟩
        · simp [Instr.findNow, Instr.sameNow, h1, hk]
        · simp [getFr, hk, h2]
      · obtain ⟨r, hr1, hr2⟩ := findNow_own k es m (i + 1) h3
        refine ⟨r, ?_, ?_⟩
        · have e1 : (k == (x.1 : Int)) = false := by simpa using hk
          simp only [Instr.findNow, Instr.sameNow, h1, if_true, e1]
          exact hr1
        · have e2 : ((x.1 : Int) == k) = false := by simpa using fun e => hk e.symm
          rw [hr2]
          simp [getFr, e2]
theorem run_check_int (w : World) (e : Bool) (k : Int) : (Instr.checkKey e 10000 3 (.int .i64 k)).run Try.prog w = .ok () w := by
  unfold Instr.checkKey
  simp only [Sem.run_bind, run_underlying Try.underlying3, Result.andThen_ok]
  rfl
theorem zero_fr (w : World) : (zeroValue 87).run Try.prog w = .ok (.agg Fr.none.cells) w := by kernel_rfl
theorem run_lookup_own {w : World} {b : Nat} {m : List (Nat × Fr)} (h : MapIn w b m) (k : Int) (c : Bool) :
    (Instr.lookup 79 (.map (some b)) (.int .i64 k) c).run Try.prog w = .ok (if c then .tuple #[.agg ((getFr m k).getD Fr.none).cells, .bool (getFr m k).isSome] else .agg ((getFr m k).getD Fr.none).cells) w := by
  obtain ⟨es, clock, h1, h2⟩ := h
  obtain ⟨r, hr1, hr2⟩ := findNow_own k es.toList m 0 h2
  have hk : (Instr.findKey 3 (.int .i64 k) es.toList).run Try.prog w = .ok r w := by
    unfold Instr.findKey
    simp only [Sem.run_bind, run_underlying Try.underlying3, Result.andThen_ok, hr1]
    rfl
  unfold Instr.lookup
  simp only [Sem.run_bind, run_underlying Try.underlying79, Result.andThen_ok, MapKept.run_getObj_map h1, Sem.run_pure, run_check_int, hk]
  cases hg : getFr m k with
  | none =>
    rw [hg] at hr2
    have : r = none := by simpa using hr2
    subst this
    cases c <;> simp [Result.andThen] <;> rfl
  | some f =>
    rw [hg] at hr2
    obtain ⟨j, v⟩ : ∃ j, r = some j := by
      cases r with
      | none => simp at hr2
      | some j => exact ⟨j, rfl⟩
    subst v
    obtain ⟨j, v⟩ := j
    simp at hr2
    subst hr2
    cases c <;> simp [Result.andThen]
theorem run_update_own {w : World} {b : Nat} {m : List (Nat × Fr)} (h : MapIn w b m) (k : Nat) (f : Fr) (hn : getFr m k = none) :
    ∃ w', (Instr.mapUpdate 79 (.map (some b)) (.int .i64 (k : Nat)) (.agg f.cells)).run Try.prog w = .ok () w' ∧ MapIn w' b (m ++ [(k, f)]) ∧ w.grownBy w' (some b) := by
  obtain ⟨es, clock, h1, h2⟩ := h
  obtain ⟨r, hr1, hr2⟩ := findNow_own k es.toList m 0 h2
  rw [hn] at hr2
  have : r = none := by simpa using hr2
  subst this
  have hk : (Instr.findKey 3 (.int .i64 (k : Nat)) es.toList).run Try.prog w = .ok none w := by
    unfold Instr.findKey
    simp only [Sem.run_bind, run_underlying Try.underlying3, Result.andThen_ok, hr1]
    rfl
  refine ⟨setBlock w b (.map (es.push ⟨.int .i64 (k : Nat), .agg f.cells, clock⟩) (clock + 1)), ?_, ⟨_, _, heap_setBlock_same h1 _, ?_⟩, rfl, rfl, rfl, by simp [setBlock], fun i _ hi => heap_setBlock_other h1 _ (fun e => hi (by rw [e]))⟩
  · unfold Instr.mapUpdate
    simp only [Sem.run_bind, run_underlying Try.underlying79, Result.andThen_ok, MapKept.run_getObj_map h1, run_check_int, hk, MapKept.run_setObj_map _ h1]
    rfl
  · simp [h2]
theorem wpList_update_own {w : World} {ops : Array Oper} {rest : List Oper} {o : Oper} {a : Act} {Q : Exit → Act → World → Prop} (hg : o.guard = none) (t x v : Operand) (hop : o.op = .mapUpdate 79 t x v) (b : Nat) (m : List (Nat × Fr)) (k : Nat) (f : Fr)
    (ht : a.eval t = .map (some b)) (hx : a.eval x = .int .i64 (k : Nat)) (hv : a.eval v = .agg f.cells) (hm : MapIn w b m) (hn : getFr m k = none)
    (hK : ∀ w', MapIn w' b (m ++ [(k, f)]) → w.grownBy w' (some b) → wpList Try.prog ops Q rest (a.put o.dst undef) w') : wpList Try.prog ops Q (o :: rest) a w := by
  refine wpList_plain hg fun K' hK' => ?_
  obtain ⟨w', hrun, r1, r2⟩ := run_update_own hm k f hn
  unfold Oper.wp
  simp [execOp, hop, ht, hx, hv, hrun, Result.andThen]
  exact hK' _ _ (hK w' r1 r2)
end Go.Proofs.Ytlhnhhjpjkgogaa.wl
