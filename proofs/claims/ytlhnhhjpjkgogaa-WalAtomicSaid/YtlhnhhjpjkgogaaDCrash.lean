/- The walk of (*disk.Disk).Crash. -/
import Derived.Test.YtlhnhhjpjkgogaaDFlush
import Derived.Deep.RegionLaw
namespace Go.Proofs.Ytlhnhhjpjkgogaa.dk
open Go.RowKit Go.Proofs.Ytlhnhhjpjkgogaa.agg

/-- Some bytes of each of the pending writes: sv tells how many. -/
def layCrash (sv : List Int) : List (List Int) → Nat → List (Int × List Int) → List (List Int)
  | d, _, [] => d
  | d, i, x :: l => layCrash sv (if i < sv.length then lay d x (sv.getD i 0) else d) (i + 1) l
theorem layCrash_snoc (sv : List Int) (x : Int × List Int) : ∀ (l : List (Int × List Int)) (d : List (List Int)) (i : Nat),
    layCrash sv d i (l ++ [x]) = if i + l.length < sv.length then lay (layCrash sv d i l) x (sv.getD (i + l.length) 0) else layCrash sv d i l
  | [], d, i => by simp [layCrash]
  | y :: l, d, i => by
    simp only [List.cons_append, layCrash]
    rw [layCrash_snoc sv x l]
    rw [show i + 1 + l.length = i + (y :: l).length by simp; omega]
/-- Crash, as a value. -/
def St.crash (st : St) (sv : List Int) : St := { st with dur := layCrash sv st.dur 0 st.pend, pend := [], left := -1, failed := false }

/-- A slice of ints that is read, in memory outside of a disk. -/
def IntsAt (w : World) (F : Nat → Prop) (v : Value) (sv : List Int) : Prop :=
  ∃ ao cap, v = .slice ao sv.length cap ∧ (0 < sv.length → ∃ b o, ao = some ⟨b, o, none⟩ ∧ ¬ F b ∧ ∀ i, i < sv.length → w.cell? ⟨b, o + i, none⟩ = some (.int .i64 (sv.getD i 0)))
theorem IntsAt.kept {w w' : World} {F : Nat → Prop} {v : Value} {sv : List Int} (h : IntsAt w F v sv) (hk : Kept F w w') : IntsAt w' F v sv := by
  obtain ⟨ao, cap, rfl, h⟩ := h
  refine ⟨ao, cap, rfl, fun h0 => ?_⟩
  obtain ⟨b, o, rfl, hb, hc⟩ := h h0
  refine ⟨b, o, rfl, hb, fun i hi => ?_⟩
  have := hc i hi
  rw [World.cell?_of_block (w := w) (a := ⟨b, o + i, none⟩) (hk.block b (World.block_lt_of_cell? w ⟨b, o + i, none⟩ this) hb)]
  exact this

theorem crash_end {D g : Nat} {pv : Value} {st : St} {w w' : World} (h : DiskIn w' D g pv st) (hk : Kept (foot D g pv) w w') :
    DiskIn (((w'.setCell ⟨D, 1, none⟩ (.slice none 0 0)).setCell ⟨D, 2, none⟩ (.int .i64 (-1))).setCell ⟨D, 3, none⟩ (.bool false)) D g (.slice none 0 0) { st with pend := [], left := -1, failed := false } ∧
      Kept (foot D g pv) w (((w'.setCell ⟨D, 1, none⟩ (.slice none 0 0)).setCell ⟨D, 2, none⟩ (.int .i64 (-1))).setCell ⟨D, 3, none⟩ (.bool false)) := by
  refine ⟨?_, ((hk.trans (Kept.setCell _ (.inl rfl) _)).trans (Kept.setCell _ (.inl rfl) _)).trans (Kept.setCell _ (.inl rfl) _)⟩
  have hne : g ≠ D := fun e => h.ne1 e.symm
  exact
    { blk := by
        rw [heap_setCell_same _ _ _ _ _ _ (heap_setCell_same _ _ _ _ _ _ (heap_setCell_same _ _ _ _ _ _ h.blk))]
        simp [dcells]
      dur := by
        rw [heap_setCell_other _ _ _ _ hne, heap_setCell_other _ _ _ _ hne, heap_setCell_other _ _ _ _ hne]
        exact h.dur
      len := h.len
      plen := by simp
      pin := by simp
      pend := World.ownsRow_nil _ _ _ _
      few := h.few
      cap := h.cap
      pne := fun e => absurd rfl e
      ne1 := h.ne1
      ne2 := by simp [Value.ownBlock]
      ne3 := by simp [Value.ownBlock] }

set_option maxHeartbeats 400000 in
theorem crash_nil {D g : Nat} {st : St} (w : World) (h : DiskIn w D g (.slice none 0 0) st) (sv : List Int) (ao : Option Addr) (cap : Nat) (hp : st.pend = []) :
    Calls Try.prog 33 #[.pointer (some ⟨D, 0, none⟩), .slice ao sv.length cap] w fun e w' => e = .returned (.tuple #[]) ∧ Applied D g (.slice none 0 0) (st.crash sv) w w' := by
  have hp' := Lib.hid hp
  clear hp
  obtain ⟨d0, d1, d2, d3, d4, d5, d6⟩ := h.cell
  have f1 := h.free 1
  have f2 := h.free 2
  have f3 := h.free 3
  go_enter Try.func33, Try.ntmps33
  go_wp2_with fail
  refine wp_loop_rounds 1 ?_
  rw [rounds_succ]
  go_wp2
  go_end0
  have he := crash_end h (Kept.refl _ w)
  have e : st.crash sv = { st with pend := [], left := -1, failed := false } := by simp only [St.crash, hp'.out]; rfl
  rw [e]
  exact ⟨rfl, he⟩

set_option maxHeartbeats 800000 in
theorem crash_slice {D g q cap : Nat} {st : St} (w : World) (h : DiskIn w D g (.slice (some ⟨q, 0, none⟩) st.pend.length cap) st) (sv : List Int) (ao : Option Addr) (cap' : Nat) (hpl : st.pend.length < 1000000) (hsl : sv.length < 1000000)
    (hs : IntsAt w (foot D g (.slice (some ⟨q, 0, none⟩) st.pend.length cap)) (.slice ao sv.length cap') sv) :
    Calls Try.prog 33 #[.pointer (some ⟨D, 0, none⟩), .slice ao sv.length cap'] w fun e w' => e = .returned (.tuple #[]) ∧ DiskIn w' D g (.slice none 0 0) (st.crash sv) ∧ Kept (foot D g (.slice (some ⟨q, 0, none⟩) st.pend.length cap)) w w' := by
  generalize hn : st.pend.length = n at *
  have hn' := Lib.hid hn
  clear hn
  obtain ⟨d0, d1, d2, d3, d4, d5, d6⟩ := h.cell
  clear d0 d2 d3 d4 d5 d6
  generalize hm : sv.length = m at *
  have hm' := Lib.hid hm
  clear hm
  go_enter Try.func33, Try.ntmps33
  go_wp2_with fail
  go_loopw [11] (fun i wr => ∃ k : Nat, k ≤ n ∧ i = .int .i64 k ∧ DiskIn wr D g (.slice (some ⟨q, 0, none⟩) n cap) { st with dur := layCrash sv st.dur 0 (st.pend.take k) } ∧ Kept (foot D g (.slice (some ⟨q, 0, none⟩) n cap)) w wr)
    (fun i _ => n - (intOf i).toNat)
  case atStart => exact ⟨0, Nat.zero_le _, rfl, h, Kept.refl _ _⟩
  case round =>
    obtain ⟨k, hk, rfl, hd, hkp⟩ := hrel
    by_cases hlt : k < n
    · have hlt' : k < st.pend.length := by rw [hn'.out]; exact hlt
      obtain ⟨q1, q2, q3⟩ := pend_at (w := wr) hn'.out (by have := hd.pend; simp only at this; rw [hn'.out] at this; exact this) hd.plen k hlt'
      have hx := hd.plen st.pend[k] (by simp)
      have hin := hd.pin st.pend[k] (by simp)
      have hsn : layCrash sv st.dur 0 (st.pend.take (k + 1)) = if k < sv.length then lay (layCrash sv st.dur 0 (st.pend.take k)) st.pend[k] (sv.getD k 0) else layCrash sv st.dur 0 (st.pend.take k) := by
        rw [take_snoc' _ _ hlt', layCrash_snoc]
        simp only [Nat.zero_add, List.length_take]
        rw [Nat.min_eq_left (by omega)]
      rw [hm'.out] at hsn
      have hsn' := Lib.hid hsn
      clear hsn
      generalize st.pend[k] = x at *
      have hD := lt_of_block hd.blk
      have hd1 := hd.alloc (.cells (wrow x.1 x.2) 104)
      by_cases hkm : k < m
      · obtain ⟨ao', cap2, e1, hs2⟩ := hs.kept hkp
        obtain ⟨b, o, e2, hb, hc⟩ := hs2 (by rw [hm'.out]; omega)
        cases e1
        subst e2
        have hc' := hc k (by rw [hm'.out]; exact hkm)
        have hbl := World.block_lt_of_cell? wr ⟨b, o + k, none⟩ hc'
        simp only at hbl
        generalize sv.getD k 0 = y at *
        clear hc hs2
        go_wp2_with fail
        go_region_law (go_simp; go_at_call 54; refine (apply_any _ hd1.drew x y hx hin).mono ?_; rintro e w3 ⟨rfl, hd3, hk3⟩)
        all_goals
          go_wp2
          go_roundw
          case rel => exact ⟨k + 1, by omega, by go_num, by rw [hsn'.out, if_pos hkm]; exact hd3, (hkp.trans ((Kept.alloc wr _).trans (Kept.drew _))).trans hk3⟩
          case measure => simp [intOf]; omega
      · go_wp2
        go_roundw
        case rel => exact ⟨k + 1, by omega, by go_num, by rw [hsn'.out, if_neg hkm]; exact hd1, hkp.trans (Kept.alloc wr _)⟩
        case measure => simp [intOf]; omega
    · obtain rfl : k = n := by omega
      obtain ⟨d0, d1, d2, d3, d4, d5, d6⟩ := hd.cell
      have f1 := hd.free 1
      have f2 := hd.free 2
      have f3 := hd.free 3
      go_wp2
      go_end0
      have he := crash_end hd hkp
      have e2 : layCrash sv st.dur 0 (st.pend.take k) = layCrash sv st.dur 0 st.pend := by rw [List.take_of_length_le (by rw [hn'.out]; omega)]
      have h1 := he.1
      rw [e2] at h1
      exact ⟨rfl, h1, he.2⟩
/-- Crash, of whatever disk. -/
theorem crash_any {D g : Nat} {pv : Value} {st : St} (w : World) (h : DiskIn w D g pv st) (v : Value) (sv : List Int) (hs : IntsAt w (foot D g pv) v sv) (hpl : st.pend.length < 1000000) (hsl : sv.length < 1000000) :
    Calls Try.prog 33 #[.pointer (some ⟨D, 0, none⟩), v] w fun e w' => e = .returned (.tuple #[]) ∧ ∃ pv', DiskIn w' D g pv' (st.crash sv) ∧ Kept (foot D g pv) w w' ∧ Fresh w pv pv' := by
  obtain ⟨ao, cap', rfl, hs'⟩ := hs
  rcases pend_form h.pend with ⟨rfl, hp⟩ | ⟨q, cap, rest, rfl, _⟩
  · refine (crash_nil w h sv ao cap' hp).mono ?_
    rintro e w' ⟨rfl, h1⟩
    exact ⟨rfl, _, h1.1, h1.2, fun k hk => by simp [Value.ownBlock] at hk⟩
  · refine (crash_slice w h sv ao cap' hpl hsl ⟨ao, cap', rfl, hs'⟩).mono ?_
    rintro e w' ⟨rfl, h1, h2⟩
    exact ⟨rfl, _, h1, h2, fun k hk => by simp [Value.ownBlock] at hk⟩
end Go.Proofs.Ytlhnhhjpjkgogaa.dk
