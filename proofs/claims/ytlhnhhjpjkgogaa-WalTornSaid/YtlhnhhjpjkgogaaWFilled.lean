/- The walk of filled: a disk with some durable contents. -/
import Derived.Test.YtlhnhhjpjkgogaaWPlain
import Derived.Test.YtlhnhhjpjkgogaaDApply
import Derived.Test.YtlhnhhjpjkgogaaDNew
import Derived.Test.YtlhnhhjpjkgogaaDWrite
import Derived.Test.YtlhnhhjpjkgogaaDFlush
namespace Go.Proofs.Ytlhnhhjpjkgogaa.wl
open Go.RowKit Go.Proofs.Ytlhnhhjpjkgogaa.agg Go.Proofs.Ytlhnhhjpjkgogaa.dk

theorem flatD_get : ∀ (l : List (List Int)) (n : Nat), n < l.length → (∀ s ∈ l, s.length = 64) → ∀ b, b < 64 → (flatD l)[n * 64 + b]? = some (.int .u8 ((l.getD n []).getD b 0))
  | [], n, hn, _, _, _ => by simp at hn
  | x :: l, 0, _, h, b, hb => by
    have hx := h x (by simp)
    have hl : (u8s x).length = 64 := by rw [length_u8s, hx]
    show (u8s x ++ flatD l)[0 * 64 + b]? = _
    rw [Nat.zero_mul, Nat.zero_add, List.getElem?_append_left (by omega)]
    simp [u8s, List.getD, hx, hb]
  | x :: l, n + 1, hn, h, b, hb => by
    have hx := h x (by simp)
    have hl : (u8s x).length = 64 := by rw [length_u8s, hx]
    show (u8s x ++ flatD l)[(n + 1) * 64 + b]? = _
    rw [List.getElem?_append_right (by omega), hl, show (n + 1) * 64 + b - 64 = n * 64 + b by omega]
    exact flatD_get l n (by simpa using hn) (fun y hy => h y (by simp [hy])) b hb
theorem row_cell {w : World} {bb : Nat} {d : List (List Int)} {t : TypeId} (h : w.heap[bb]? = some (.cells (flatD d).toArray t (0, 0))) (hd : ∀ s ∈ d, s.length = 64) (n : Nat) (hn : n < d.length) (b : Nat) (hb : b < 64) :
    w.cell? ⟨bb, n * 64 + b, none⟩ = some (.int .u8 ((d.getD n []).getD b 0)) := by
  simp only [World.cell?, h]
  rw [List.getElem?_toArray]
  exact flatD_get d n hn hd b hb
theorem wrow_byte (n : Int) (xs : List Int) (hx : xs.length = 64) (b : Nat) (hb : b < 64) : (wrow n xs).toList[1 + b]? = some (.int .u8 (xs.getD b 0)) := by
  rw [wrow_toList, wcells, Nat.add_comm 1 b, List.getElem?_cons_succ]
  simp [u8s, List.getD, hx, hb]
/-- The disk behind k writes. -/
def fillK (secs : List (List Int)) : Nat → St
  | 0 => St.new secs.length
  | k + 1 => ((fillK secs k).write k (secs.getD k [])).1
def fillSt (secs : List (List Int)) : St := (fillK secs secs.length).flush.1
theorem fillK_pend (secs : List (List Int)) : ∀ k, (fillK secs k).pend.length ≤ k
  | 0 => by simp [fillK, St.new]
  | k + 1 => by
    have ih := fillK_pend secs k
    have : ∀ (st : St) (n : Int) (d : List Int), (st.write n d).1.pend.length ≤ st.pend.length + 1 := by
      intro st n d
      unfold St.write
      split
      · simp
      · split
        · rw [St.call_pend]; omega
        · simp
    have := this (fillK secs k) k (secs.getD k [])
    simp only [fillK]
    omega
def FillEnd (w : World) (st : St) (e : Ending) (w' : World) : Prop :=
  ∃ D g pv, e = .returned (.pointer (some ⟨D, 0, none⟩)) ∧ DiskIn w' D g pv st ∧ Below w.heap.size w w' ∧ ∀ k, foot D g pv k → w.heap.size ≤ k
structure FillAt (w : World) (D g : Nat) (secs : List (List Int)) (k : Nat) (wr : World) : Prop where
  disk : ∃ pv, DiskIn wr D g pv (fillK secs k) ∧ ∀ i, foot D g pv i → w.heap.size ≤ i
  below : Below w.heap.size w wr

set_option maxRecDepth 100000 in
set_option maxHeartbeats 1000000 in
theorem filled_walk (w : World) (b cap : Nat) (secs : List (List Int)) (h1 : 1 ≤ secs.length) (h2 : secs.length ≤ 40) (hs : ∀ s ∈ secs, s.length = 64) {T : TypeId} (hb : w.heap[b]? = some (.cells (flatD secs).toArray T (0, 0))) :
    Calls Try.prog 11 #[.slice (some ⟨b, 0, none⟩) secs.length cap] w (FillEnd w (fillSt secs)) := by
  have hnew := fun W => new_any secs.length h1 (by omega) W
  have hnew' := Lib.hid hnew
  have hs' := Lib.hid hs
  have hb' := Lib.hid hb
  obtain ⟨n, hn⟩ : ∃ n, secs.length = n := ⟨_, rfl⟩
  rw [hn] at h1 h2 hnew' ⊢
  have g1 : ¬ (n : Int) < 1 := by omega
  have g2 : ¬ (40 : Int) < n := by omega
  have hn' := Lib.hid hn
  clear hnew hs hb hn
  go_enter Try.func11, Try.ntmps11
  go_wp2_with (go_at_call 14; refine (hnew'.out _).mono ?_; rintro e w1 ⟨D, g, rfl, hd1, hb1, hD, hg⟩)
  have hA0 : FillAt w D g secs 0 w1 := ⟨⟨_, by rw [fillK, hn'.out]; exact hd1, by
    rintro k (rfl | rfl | hk)
    · exact hD
    · exact hg
    · simp [Value.ownBlock] at hk⟩, hb1⟩
  have hA0' := Lib.hid hA0
  clear hA0 hd1 hb1
  go_loopw [29] (fun i wr => ∃ k : Nat, k ≤ n ∧ i = .int .i64 k ∧ FillAt w D g secs k wr) (fun i _ => n - (intOf i).toNat)
  case atStart => exact ⟨0, Nat.zero_le _, rfl, hA0'.out⟩
  case round =>
    obtain ⟨k, hk, rfl, hA⟩ := hrel
    obtain ⟨pv, hd, hl⟩ := hA.disk
    have hbl := hA.below
    by_cases hlt : k < n
    · have hkl : k < secs.length := by rw [hn'.out]; exact hlt
      have hsl : (secs.getD k []).length = 64 := hs'.out _ (by rw [List.getD_eq_getElem?_getD, List.getElem?_eq_getElem hkl]; exact List.getElem_mem _)
      have hbr : wr.heap[b]? = some (.cells (flatD secs).toArray T (0, 0)) := (hbl.block _ (lt_of_block hb'.out)).trans hb'.out
      have hck : ∀ j u, (sec (secs.getD k [])).toList[j]? = some u → wr.cell? ⟨b, k * 64 + j, none⟩ = some u := by
        intro j u hu
        have hj : j < 64 := by
          have := (List.getElem?_eq_some_iff.1 hu).1
          rw [Array.length_toList, size_sec] at this
          omega
        rw [row_cell hbr hs'.out k hkl j hj]
        rw [Array.getElem?_toList, sec_get _ _ (by omega)] at hu
        exact hu
      have hnext : fillK secs (k + 1) = ((fillK secs k).write k (secs.getD k [])).1 := rfl
      have hp := fillK_pend secs k
      have hd' := Lib.hid hd
      have hl' := Lib.hid hl
      have hbl' := Lib.hid hbl
      have hnext' := Lib.hid hnext
      clear hbr hd hl hbl hnext hA
      generalize secs.getD k [] = s at *
      go_wp2_with (first
        | (with_reducible refine wpList_load_cells ag_sec rfl (.tmp 32) rfl b (k * 64) rfl (sec s) (by rw [size_sec]; exact hsl) hck ?_)
        | (go_at_call 41; refine (write_any _ (hd'.out.alloc _) k s hsl (by omega)).mono ?_; rintro e w3 ⟨rfl, pv3, hd3, hk3, hf3⟩))
      go_roundw
      case rel =>
        have hk4 := (Kept.alloc (F := foot D g pv) wr _).trans hk3
        have hf4 : Fresh wr pv pv3 := fun i hi => by
          rcases hf3 i hi with e | e
          · exact .inl e
          · refine .inr ?_
            simp at e
            omega
        obtain ⟨hl4, hb4⟩ := live_step hl'.out hbl'.out.size hk4 hf4
        exact ⟨k + 1, by omega, by go_num, ⟨pv3, by rw [hnext'.out]; exact hd3, hl4⟩, hbl'.out.trans hb4⟩
      case measure => simp [intOf]; omega
    · obtain rfl : k = n := by omega
      have hp := fillK_pend secs k
      have hd' := Lib.hid hd
      have hl' := Lib.hid hl
      have hbl' := Lib.hid hbl
      clear hd hl hbl hA
      go_wp2_with (go_at_call 42; refine (flush_any _ hd'.out (by omega)).mono ?_; rintro e w3 ⟨rfl, pv3, hd3, hk3, hf3⟩)
      go_ret
      obtain ⟨hl4, hb4⟩ := live_step hl'.out hbl'.out.size hk3 hf3
      exact ⟨D, g, pv3, rfl, by unfold fillSt; rw [hn'.out]; exact hd3, hbl'.out.trans hb4, hl4⟩
end Go.Proofs.Ytlhnhhjpjkgogaa.wl
