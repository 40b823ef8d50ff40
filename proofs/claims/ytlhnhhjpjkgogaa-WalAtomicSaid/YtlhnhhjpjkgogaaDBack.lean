/- slices.Backward over the pending writes: the contract of its iterator. -/
import Derived.RangeFuncNested
import Derived.RangeFuncBound
import Derived.RangeFuncCalls
import Derived.RangeFuncLeaves
import Derived.Shelf.Abstract
import Derived.Shelf.RegionOpen
import Derived.WalkKit
import Derived.OwnWalkIn
import Derived.TacticsInMore
import Derived.LoopNIn
import Derived.LoopIn
import Derived.Test.YtlhnhhjpjkgogaaDFlush
namespace Go.Proofs.Ytlhnhhjpjkgogaa.dk
open Go.RowKit Go.Shelf Go.Proofs.Ytlhnhhjpjkgogaa.agg
attribute [local go_sem] Oper.semAt_some

section
variable {F : Fence} {m : Nat} {a : Act} {w : World} {K : Act → World → Prop} {Q : Exit → Act → World → Prop} {dst : Option Tmp} {ty : TypeId} {pos : String} {aft : Array Edge} {gd : Option (Nat × Bool)}
@[go_sem ↓] theorem load_secI (x : Operand) (h : aggOk w (a.eval x) 64 = true) : Oper.wpIn F m Try.prog ⟨dst, .load 26 x, ty, pos, aft, gd⟩ a w K Q = K (a.put dst (aggAt w (a.eval x) 64)) w := wpIn_load_agg ag_sec x h
@[go_sem ↓] theorem store_secI (x y : Operand) (h : aggOk w (a.eval x) 64 = true) (hy : plain (a.eval y) 64 = true) : Oper.wpIn F m Try.prog ⟨dst, .store 26 x y, ty, pos, aft, gd⟩ a w K Q = K (a.put dst undef) (putRow w (a.eval x) (cellsOf (a.eval y))) := wpIn_store_agg ag_sec x y h hy
@[go_sem ↓] theorem alloc_secI : Oper.wpIn F m Try.prog ⟨dst, .alloc 26, ty, pos, aft, gd⟩ a w K Q = K (a.put dst (.pointer (some ⟨w.heap.size, 0, none⟩))) (w.alloc (.cells (sec zeros) 26)) := wpIn_alloc_agg zero_sec
@[go_sem ↓] theorem load_dwI (x : Operand) (h : aggOk w (a.eval x) 65 = true) : Oper.wpIn F m Try.prog ⟨dst, .load 104 x, ty, pos, aft, gd⟩ a w K Q = K (a.put dst (aggAt w (a.eval x) 65)) w := wpIn_load_agg ag_dw x h
@[go_sem ↓] theorem store_dwI (x y : Operand) (h : aggOk w (a.eval x) 65 = true) (hy : plain (a.eval y) 65 = true) : Oper.wpIn F m Try.prog ⟨dst, .store 104 x y, ty, pos, aft, gd⟩ a w K Q = K (a.put dst undef) (putRow w (a.eval x) (cellsOf (a.eval y))) := wpIn_store_agg ag_dw x y h hy
@[go_sem ↓] theorem alloc_dwI : Oper.wpIn F m Try.prog ⟨dst, .alloc 104, ty, pos, aft, gd⟩ a w K Q = K (a.put dst (.pointer (some ⟨w.heap.size, 0, none⟩))) (w.alloc (.cells (wrow 0 zeros) 104)) := wpIn_alloc_agg zero_dw
end

/-- What the iterator hands out: a place and a write. -/
abbrev Item := Nat × (Int × List Int)
def fix64 (xs : List Int) : List Int := if xs.length = 64 then xs else zeros
theorem length_fix64 (xs : List Int) : (fix64 xs).length = 64 := by unfold fix64; split <;> simp_all [length_zeros]
theorem fix64_of {xs : List Int} (h : xs.length = 64) : fix64 xs = xs := by unfold fix64; rw [if_pos h]
def encs (x : Item) : Array Value := #[.int .i64 (x.1 : Int), .agg (wrow x.2.1 (fix64 x.2.2))]
/-- The first k items, from the last write back. -/
def back (l : List (Int × List Int)) (k : Nat) : List Item := (List.range k).map fun i => (l.length - 1 - i, l.getD (l.length - 1 - i) (0, []))
theorem back_succ (l : List (Int × List Int)) (k : Nat) : back l (k + 1) = back l k ++ [(l.length - 1 - k, l.getD (l.length - 1 - k) (0, []))] := by simp [back, List.range_succ]
theorem back_length (l : List (Int × List Int)) (k : Nat) : (back l k).length = k := by simp [back]

set_option maxHeartbeats 1000000 in
theorem backward_in (F : Fence) (n : Nat) (h30 : F.fn 55) (hro : F.round = none) (a : Option Addr) (len cap : Nat) (w : World) :
    CallsIn F n Try.prog 55 #[.slice a len cap] w fun e w' => e = .returned (.func (.func 66) #[] #[.pointer (some ⟨w.heap.size, 0, none⟩)]) ∧ w' = w.alloc (.cells #[.slice a len cap] 90) := by
  refine callsIn_of_wp Try.func55 rfl h30 ?_ hro
  simp only [Try.ntmps55, List.size_toArray, List.length_cons, List.length_nil, Nat.reduceAdd, Nat.reduceSub, Array.replicate_succ, Array.replicate_zero, List.push_toArray, List.append_toArray, List.nil_append, List.cons_append]
  gi_wp2
  go_ret
  exact ⟨rfl, rfl⟩

set_option maxRecDepth 100000 in
set_option maxHeartbeats 2000000 in
theorem back1_in (F : Fence) (n : Nat) (h39 : F.fn 66) (hro : F.round = none) (hn : 1 ≤ n) (lp Bs n₀ q cap : Nat) (l : List (Int × List Int)) (hlen : l.length < 1000000) (hl : ∀ x ∈ l, x.2.length = 64) (hq : q < n₀) (J Jx : List Item → World → Prop)
    (hY : ∀ pre x W, J pre W → pre.length < l.length → YieldAt F (n - 1) Try.prog lp (encs x) W fun e W' =>
      (e = .returned (.bool true) ∧ J (pre ++ [x]) W' ∧ Below n₀ W W') ∨ (e = .returned (.bool false) ∧ Jx (pre ++ [x]) W'))
    (W : World) (hBn : Bs < n₀) (hBs : W.cell? ⟨Bs, 0, none⟩ = some (.slice (some ⟨q, 0, none⟩) l.length cap)) (hown : W.ownsRow 0 104 65 (.slice (some ⟨q, 0, none⟩) l.length cap) l.length (flatP l)) (h0 : J [] W) :
    CallsIn F n Try.prog 66 #[.func (.yield lp) #[] #[], .pointer (some ⟨Bs, 0, none⟩)] W fun e W' => (∃ v, e = .returned v) ∧
      ((∃ ys, ys = back l l.length ∧ J ys W') ∨ (∃ pre, (∃ k, k ≤ l.length ∧ pre = back l k) ∧ Jx pre W')) := by
  generalize hm : l.length = len at *
  have hm' := Lib.hid hm
  clear hm
  refine callsIn_of_wp Try.func66 rfl h39 ?_ hro
  simp only [Try.ntmps66, List.size_toArray, List.length_cons, List.length_nil, Nat.reduceAdd, Nat.reduceSub, Array.replicate_succ, Array.replicate_zero, List.push_toArray, List.append_toArray, List.nil_append, List.cons_append]
  gi_wp2
  gi_loopw [3] (fun i wr => ∃ j : Nat, j ≤ len ∧ i = .int .i64 ((j : Int) - 1) ∧ J (back l (len - j)) wr ∧ Below n₀ W wr)
    (fun i _ => (intOf i + 1).toNat)
  case atStart => exact ⟨len, Nat.le_refl _, rfl, by rw [Nat.sub_self]; exact h0, Below.refl _ _⟩
  case round =>
    obtain ⟨j, hj, rfl, hJs, hnx⟩ := hrel
    have hBs1 : wr.cell? ⟨Bs, 0, none⟩ = some (.slice (some ⟨q, 0, none⟩) len cap) := (hnx.cell (p := ⟨Bs, 0, none⟩) hBn).trans hBs
    rcases Nat.eq_zero_or_pos j with rfl | hp
    · gi_wp2
      go_end0
      exact ⟨⟨_, rfl⟩, .inl ⟨_, rfl, hJs⟩⟩
    · obtain ⟨t, rfl⟩ : ∃ t, j = t + 1 := ⟨j - 1, by omega⟩
      have et : ((t + 1 : Nat) : Int) - 1 = (t : Int) := by omega
      rw [et]
      have ht : t < l.length := by rw [hm'.out]; omega
      have hown1 := ownsRow_same hown (fun k hk => hnx.block k (by simp [Value.ownBlock] at hk; omega))
      obtain ⟨q1, q2, q3⟩ := pend_at hm'.out hown1 hl t ht
      have hx := hl l[t] (List.getElem_mem ht)
      have hlast : l.length - 1 - (len - (t + 1)) = t := by rw [hm'.out]; omega
      have hit : (l.length - 1 - (len - (t + 1)), l.getD (l.length - 1 - (len - (t + 1))) (0, [])) = (t, l[t]) := by rw [hlast, List.getD_eq_getElem?_getD, List.getElem?_eq_getElem ht]; rfl
      have hnext : back l (len - t) = back l (len - (t + 1)) ++ [(t, l[t])] := by
        rw [show len - t = len - (t + 1) + 1 by omega, back_succ, hit]
      have hnext' := Lib.hid hnext
      clear hnext hlast hit
      generalize l[t] = x at *
      obtain ⟨fn, tmps, assign, body, hy, hR⟩ := hY _ (t, x) wr hJs (by rw [back_length]; omega)
      dsimp only [encs] at hy
      rw [fix64_of hx] at hy
      have htl : t < len := by omega
      gi_wp2
      refine hR.mono ?_
      rintro e W3 (⟨rfl, hJ3, hk3⟩ | ⟨rfl, hJx3⟩)
      · gi_wp2
        go_roundw
        case rel => exact ⟨t, by omega, rfl, by rw [hnext'.out]; exact hJ3, hnx.trans hk3⟩
        case measure => simp [intOf]
      · gi_wp2
        refine bodyPost_ret (results_none rfl _ _ _) rfl ?_
        exact ⟨⟨_, rfl⟩, .inr ⟨_, ⟨len - t, by omega, hnext'.out.symm⟩, hJx3⟩⟩
set_option maxRecDepth 100000 in
set_option maxHeartbeats 1000000 in
/-- .. at the nil slice: no round. -/
theorem back1_nil_in (F : Fence) (n : Nat) (h39 : F.fn 66) (hro : F.round = none) (lp Bs : Nat) (J : List Item → World → Prop) (W : World) (hBs : W.cell? ⟨Bs, 0, none⟩ = some (.slice none 0 0)) (h0 : J [] W) :
    CallsIn F n Try.prog 66 #[.func (.yield lp) #[] #[], .pointer (some ⟨Bs, 0, none⟩)] W fun e W' => (∃ v, e = .returned v) ∧ J [] W' := by
  refine callsIn_of_wp Try.func66 rfl h39 ?_ hro
  simp only [Try.ntmps66, List.size_toArray, List.length_cons, List.length_nil, Nat.reduceAdd, Nat.reduceSub, Array.replicate_succ, Array.replicate_zero, List.push_toArray, List.append_toArray, List.nil_append, List.cons_append]
  gi_wp2
  gi_loopw [3] (fun i wr => i = .int .i64 (-1) ∧ J [] wr) (fun _ _ => 0)
  case atStart => exact ⟨rfl, h0⟩
  case round =>
    obtain ⟨rfl, hJs⟩ := hrel
    gi_wp2
    go_end0
    exact ⟨⟨_, rfl⟩, hJs⟩

/-- The iterator over the pending writes, in memory below n₀. -/
theorem back_stops (F : Fence) (n : Nat) (h39 : F.fn 66) (hro : F.round = none) (hn : 1 ≤ n) (Bs n₀ : Nat) (pv : Value) (l : List (Int × List Int)) (hlen : l.length < 1000000) (hl : ∀ x ∈ l, x.2.length = 64) (w : World) (hBs : Bs < n₀) (hn₀ : n₀ ≤ w.heap.size)
    (hc : w.cell? ⟨Bs, 0, none⟩ = some pv) (hown : w.ownsRow 0 104 65 pv l.length (flatP l)) (hq : ∀ k, pv.ownBlock = some k → k < n₀) :
    SeqStopsK F n Try.prog 66 #[.pointer (some ⟨Bs, 0, none⟩)] encs (Below n₀) (fun ys => ys = back l l.length) (fun pre => ∃ k, k ≤ l.length ∧ pre = back l k) l.length w := fun lp J Jx W hW _ _ hY h0 => by
  have hc' := (hW.cell (p := ⟨Bs, 0, none⟩) (by show Bs < w.heap.size; omega)).trans hc
  have hown' := ownsRow_same hown (fun k hk => hW.block k (by have := hq k hk; omega))
  rcases pend_form hown with ⟨rfl, rfl⟩ | ⟨q, cap, rest, rfl, _⟩
  · exact (back1_nil_in F n h39 hro lp Bs J W hc' h0).mono fun e W' ⟨he, hj⟩ => ⟨he, .inl ⟨_, rfl, hj⟩⟩
  · exact back1_in F n h39 hro hn lp Bs n₀ q cap l hlen hl (hq q rfl) J Jx hY W hBs hc' hown' h0
end Go.Proofs.Ytlhnhhjpjkgogaa.dk
