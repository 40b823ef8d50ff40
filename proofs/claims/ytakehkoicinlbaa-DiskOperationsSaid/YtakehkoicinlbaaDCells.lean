/- Cells of rows of sectors and of writes, one by one. No program is walked here. -/
import Derived.Test.YtakehkoicinlbaaDClone
import Derived.Test.YtakehkoicinlbaaDWrites
namespace Go.Proofs.Ytakehkoicinlbaa.dk
open Go.RowKit Go.Proofs.Ytakehkoicinlbaa.agg

theorem flatP_get : ∀ (l : List Wr) (t : Nat) (ht : t < l.length), (∀ x ∈ l, x.2.length = 64) → ∀ j, j < 65 → (flatP l)[t * 65 + j]? = (wrow l[t].1 l[t].2).toList[j]?
  | [], t, ht, _, _, _ => by simp at ht
  | x :: l, 0, _, h, j, hj => by
    have hx := h x (by simp)
    have hl : (wcells x).length = 65 := by simp [wcells, u8s, hx]
    show (wcells x ++ flatP l)[0 * 65 + j]? = _
    rw [Nat.zero_mul, Nat.zero_add, List.getElem?_append_left (by omega), List.getElem_cons_zero, wrow_toList]
  | x :: l, t + 1, ht, h, j, hj => by
    have hx := h x (by simp)
    have hl : (wcells x).length = 65 := by simp [wcells, u8s, hx]
    show (wcells x ++ flatP l)[(t + 1) * 65 + j]? = _
    rw [List.getElem?_append_right (by omega), hl, show (t + 1) * 65 + j - 65 = t * 65 + j by omega]
    exact flatP_get l t (by simpa using ht) (fun y hy => h y (by simp [hy])) j hj
theorem own_len {w : World} {base : Nat} {e : TypeId} {size : Nat} {ao : Option Addr} {n c k : Nat} {xs : List Value} (h : w.ownsRow base e size (.slice ao n c) k xs) : n = k := by
  rcases h.2 with ⟨e, rfl⟩ | ⟨g, cap, cur, e, _⟩
  · cases e; rfl
  · cases e; rfl
theorem own_cells {w : World} {base : Nat} {e : TypeId} {size : Nat} {ao : Option Addr} {n c k : Nat} {xs : List Value} (h : w.ownsRow base e size (.slice ao n c) k xs) (hk : 0 < k) :
    ∃ q, ao = some ⟨q, 0, none⟩ ∧ base ≤ q ∧ q < w.heap.size ∧ ∀ j u, xs[j]? = some u → w.cell? ⟨q, j, none⟩ = some u := by
  rcases h.2 with ⟨_, rfl⟩ | ⟨g, cap, cur, e, hg, hh, _, _, _, ht⟩
  · omega
  · cases e
    refine ⟨g, rfl, hg, lt_of_block hh, fun j u hu => ?_⟩
    simp only [World.cell?, hh]
    rw [← ht, List.getElem?_take] at hu
    split at hu
    · simpa using hu
    · cases hu
theorem writes_cells {w : World} {base : Nat} {ao : Option Addr} {n c : Nat} {dn : List Wr} (h : w.ownsRow base 46 65 (.slice ao n c) dn.length (flatP dn)) (h64 : ∀ x ∈ dn, x.2.length = 64) (t : Nat) (ht : t < dn.length) :
    ∃ q, ao = some ⟨q, 0, none⟩ ∧ base ≤ q ∧ q < w.heap.size ∧ ∀ j u, (wrow dn[t].1 dn[t].2).toList[j]? = some u → w.cell? ⟨q, t * 65 + j, none⟩ = some u := by
  obtain ⟨q, rfl, h1, h2, hc⟩ := own_cells h (by omega)
  refine ⟨q, rfl, h1, h2, fun j u hu => hc _ _ ?_⟩
  have hj : j < 65 := by
    have := (List.getElem?_eq_some_iff.1 hu).1
    rw [Array.length_toList, size_wrow, h64 _ (List.getElem_mem ht)] at this
    exact this
  rw [flatP_get dn t ht h64 j hj]
  exact hu
def natInts (l : List Nat) : List Value := l.map (fun i : Nat => Value.int .i64 (i : Int))
theorem sec_cell {w : World} {b : Nat} {x : List Int} {t : TypeId} (h : w.heap[b]? = some (.cells (sec x) t (0, 0))) (hx : x.length = 64) (i : Nat) (hi : i < 64) : w.cell? ⟨b, i, none⟩ = some (.int .u8 (x.getD i 0)) := by
  simp only [World.cell?, h]
  exact sec_get x i (by omega)
theorem flatD_get : ∀ (l : List (List Int)) (n : Nat), n < l.length → (∀ s ∈ l, s.length = 64) → ∀ b, b < 64 → (flatD l)[n * 64 + b]? = some (.int .u8 ((l.getD n []).getD b 0))
  | [], n, hn, _, _, _ => by simp at hn
  | x :: l, 0, _, h, b, hb => by
    have hx := h x (by simp)
    have hl : (u8s x).length = 64 := by rw [length_u8s, hx]
    show (u8s x ++ flatD l)[0 * 64 + b]? = _
    rw [Nat.zero_mul, Nat.zero_add, List.getElem?_append_left (by omega)]
    simp [u8s, List.getD, hx, hb]
  | x :: l, n + 1, hn, h, b, hb => by
    have hx := h x (by simp)
    have hl : (u8s x).length = 64 := by rw [length_u8s, hx]
    show (u8s x ++ flatD l)[(n + 1) * 64 + b]? = _
    rw [List.getElem?_append_right (by omega), hl, show (n + 1) * 64 + b - 64 = n * 64 + b by omega]
    exact flatD_get l n (by simpa using hn) (fun y hy => h y (by simp [hy])) b hb
theorem row_cell {w : World} {bb : Nat} {d : List (List Int)} {t : TypeId} (h : w.heap[bb]? = some (.cells (flatD d).toArray t (0, 0))) (hd : ∀ s ∈ d, s.length = 64) (n : Nat) (hn : n < d.length) (b : Nat) (hb : b < 64) :
    w.cell? ⟨bb, n * 64 + b, none⟩ = some (.int .u8 ((d.getD n []).getD b 0)) := by
  simp only [World.cell?, h]
  rw [List.getElem?_toArray]
  exact flatD_get d n hn hd b hb
theorem wrow_byte (n : Int) (xs : List Int) (hx : xs.length = 64) (b : Nat) (hb : b < 64) : (wrow n xs).toList[1 + b]? = some (.int .u8 (xs.getD b 0)) := by
  rw [wrow_toList, wcells, Nat.add_comm 1 b, List.getElem?_cons_succ]
  simp [u8s, List.getD, hx, hb]
end Go.Proofs.Ytakehkoicinlbaa.dk
