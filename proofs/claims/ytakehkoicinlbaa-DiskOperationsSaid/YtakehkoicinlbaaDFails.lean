/- The walk of confluentlaw47.DiskFails. -/
import Derived.Test.YtakehkoicinlbaaDFailPlain
namespace Go.Proofs.Ytakehkoicinlbaa.dk
open Go.RowKit Go.Proofs.Ytakehkoicinlbaa.agg

theorem nil_ints (w : World) (F : Nat → Prop) : IntsAt w F (.slice none 0 0) [] := ⟨none, 0, rfl, fun h => by simp at h⟩
theorem remT_lt (i m : Nat) (hm : 1 ≤ m) : 0 ≤ Int.tmod (i : Int) m ∧ Int.tmod (i : Int) m < m := by
  refine ⟨Int.tmod_nonneg _ (by omega), Int.tmod_lt_of_pos _ (by omega)⟩

theorem Live.drew {B D g : Nat} {w0 w : World} {pv : Value} {st : St} (h : Live B D g w0 w pv st) : Live B D g w0 w.drew pv st :=
  ⟨h.disk.drew, h.ge, h.below.drew⟩

set_option maxHeartbeats 4000000 in
theorem fails_walk (w : World) (sectors : Int) (lv : Value) (l : List ActV) (hl : ActsIn w.heap.size w lv l) (hlm : l.length ≤ 9223372036854775807) (after : Int) (hafter : 0 ≤ after ∧ after ≤ 255) (data : List Int) (hdata : data.length = 64) :
    Calls Try.prog 5 #[.int .i64 sectors, lv, .int .u8 after, .agg (sec data)] w fun e w' => e = .returned (.bool true) ∧ Below w.heap.size w w' := by
  obtain ⟨al, lcap, rfl, hat⟩ := hl.at_
  clear hat
  have B0 : Below w.heap.size w (w.alloc (.cells (sec data) 23)) := (Below.refl _ w).alloc (Nat.le_refl _) _
  have x0 : (w.alloc (.cells (sec data) 23)).heap[w.heap.size]? = some (.cells (sec data) 23 (0, 0)) := heap_alloc_new w _
  go_enter Try.func5, Try.ntmps5
  go_wp2_with fail
  generalize hW : w.alloc (.cells (sec data) 23) = W at *
  have hBW : w.heap.size + 1 = W.heap.size := by rw [← hW]; simp
  have hW' := Lib.hid hW
  clear hW
  refine (awake_calls W).mono ?_
  rintro e w1 ⟨rfl, hb1⟩
  have hBW' := Lib.hid hBW
  clear hBW
  have B1 : Below w.heap.size w w1 := B0.trans (hb1.mono B0.size)
  go_wp2_with fail
  refine (few_any w.heap.size _ _ l (hl.below B1) 30 hlm).mono ?_
  rintro e w2 ⟨rfl, rfl⟩
  by_cases hfew : fewB l 30 = true
  · by_cases h8 : sectors ≤ 8
    · by_cases h1 : sectors < 1
      · go_wp2_with fail
        refine (begin_no sectors (.inl h1) _ _).mono ?_
        rintro e w3 ⟨rfl, rfl⟩
        go_wp2
        go_ret
        exact ⟨rfl, B1⟩
      · obtain ⟨m, rfl⟩ := Int.eq_ofNat_of_zero_le (show 0 ≤ sectors by omega)
        obtain ⟨hf1, hf2⟩ := fewB_true hfew
        go_wp2_with fail
        refine (begin_any w1 m (by omega) (by omega) (B := w.heap.size) (by have := B1.size; omega) _ l (hl.below B1) (by omega) hf1).mono ?_
        rintro e w3 ⟨D, g, pv, rfl, L3⟩
        obtain ⟨hq1, hq2⟩ := runAll_len l (St.new m)
        have hq3 : (runAll (St.new m) l).pend.length < 1000 := by
          have : (St.new m).pend.length = 0 := rfl
          omega
        have hq4 : (runAll (St.new m) l).dur.length = m := by rw [hq1]; simp [St.new]
        clear hq1 hq2
        generalize runAll (St.new m) l = st3 at *
        have hx1 := (hb1.block w.heap.size (by rw [← hBW'.out]; omega)).trans x0
        have hxl := lt_of_block hx1
        go_wp2_with fail
        refine (crash_any _ L3.disk (.slice none 0 0) [] (nil_ints _ _) (by omega) (by simp)).mono ?_
        rintro e w4 ⟨rfl, hd4⟩
        obtain ⟨pv4, L4⟩ := L3.done (Nat.le_refl _) hd4
        have k4 := crash_works st3 []
        rw [hq4] at k4
        have hp4 : (st3.crash []).pend.length = 0 := rfl
        generalize st3.crash [] = st4 at *
        clear L3 hd4 hq3 hq4
        obtain ⟨af, rfl⟩ := Int.eq_ofNat_of_zero_le hafter.1
        go_wp2_with fail
        refine (failAfter_any _ L4.disk af).mono ?_
        rintro e w5 ⟨rfl, hd5⟩
        have L5 := L4.applied (Nat.le_refl _) hd5
        have k5 := works_failAfter k4 af (by omega)
        have hp5 : (st4.failAfter af).pend.length = 0 := by rw [(failAfter_pend st4 af).2]; exact hp4
        generalize st4.failAfter af = st5 at *
        clear L4 hd5 k4 hp4
        go_wp2_with fail
        go_loopw [42] (fun i wr => ∃ k : Nat, k ≤ af ∧ i = .int .i64 k ∧ ∃ pv st, Live w1.heap.size D g w1 wr pv st ∧ Works m ((af : Int) - k) st ∧ st.pend.length ≤ k)
          (fun i _ => af - (intOf i).toNat)
        case atStart => exact ⟨0, Nat.zero_le _, rfl, pv4, st5, L5, by simpa using k5, by omega⟩
        case round =>
          obtain ⟨k, hk, rfl, pv, st, L, hw, hp⟩ := hrel
          clear L5 k5 hp5
          by_cases hlt : k < af
          · have r3 := rowOf_of ((L.below.block _ (by omega)).trans hx1)
            have hrem := remT_lt k m (by omega)
            have hm0 : ¬ m = 0 := by omega
            rcases Bool.eq_false_or_eq_true ((k : Int) % 3 == 2) with hr | hr
            · obtain ⟨f1, f2, f3⟩ := works_flush (m := m) (k := (af : Int) - k - 1) (st := st) (by rw [show (af : Int) - k - 1 + 1 = af - k by omega]; exact hw) (by omega) (by omega)
              go_wp2_with fail
              refine (flush_any _ L.disk (by omega)).mono ?_
              rintro e w6 ⟨rfl, hd6⟩
              obtain ⟨pv6, L6⟩ := L.done (Nat.le_refl _) hd6
              generalize st.flush.1 = st6 at *
              rw [f1]
              clear f1 L hd6
              go_wp2_with fail
              refine (failed_any _ L6.disk).mono ?_
              rintro e w7 ⟨rfl, rfl⟩
              have ok6 := f2.ok
              rw [ok6]
              go_wp2_with fail
              go_roundw
              case rel => exact ⟨k + 1, by omega, by go_num, pv6, st6, L6, by rw [show (af : Int) - ((k + 1 : Nat) : Int) = af - k - 1 by omega]; exact f2, by omega⟩
              case measure => simp [intOf]; omega
            · obtain ⟨f1, f2, f3⟩ := works_write (m := m) (k := (af : Int) - k - 1) (st := st) (by rw [show (af : Int) - k - 1 + 1 = af - k by omega]; exact hw) (by omega) (by omega) hrem data
              go_wp2_with fail
              have Ld := L.drew
              have r3' : rowOf wr.drew w.heap.size = sec data := r3
              go_region_law (go_simp; go_at_call 12; refine (write_any _ Ld.disk _ data hdata (by omega)).mono ?_; rintro e w6 ⟨rfl, hd6⟩)
              obtain ⟨pv6, L6⟩ := Ld.done (Nat.le_refl _) hd6
              generalize (st.write (Int.tmod (k : Int) m) data).1 = st6 at *
              clear f1 L Ld hd6 r3 r3'
              go_wp2_with fail
              refine (failed_any _ L6.disk).mono ?_
              rintro e w7 ⟨rfl, rfl⟩
              have ok6 := f2.ok
              rw [ok6]
              go_wp2_with fail
              go_roundw
              case rel => exact ⟨k + 1, by omega, by go_num, pv6, st6, L6, by rw [show (af : Int) - ((k + 1 : Nat) : Int) = af - k - 1 by omega]; exact f2, by omega⟩
              case measure => simp [intOf]; omega
          · obtain rfl : k = af := by omega
            rw [Int.sub_self] at hw
            have q0 := lt_of_block hx1
            go_wp2_with fail
            refine (pending_any _ L.disk).mono ?_
            rintro e w6 ⟨rfl, rfl⟩
            have r6 := rowOf_of ((L.below.block _ q0).trans hx1)
            have hr0 := works_range hw data
            have hr2 : (st.write m data).2 = 2 := by rw [hr0]
            have hr1 : (st.write m data).1 = st := by rw [hr0]
            clear hr0
            go_wp2_with fail
            refine (write_any _ L.disk m data hdata (by omega)).mono ?_
            rintro e w7 ⟨rfl, hd7⟩
            rw [hr1] at hd7
            rw [hr2]
            obtain ⟨pv7, L7⟩ := L.done (Nat.le_refl _) hd7
            clear hr1 hr2 hd7 L r6
            go_wp2_with fail
            refine (failed_any _ L7.disk).mono ?_
            rintro e w8 ⟨rfl, rfl⟩
            have ok7 := hw.ok
            rw [ok7]
            have r7 := rowOf_of ((L7.below.block _ q0).trans hx1)
            obtain ⟨g1, g2⟩ := works_fail hw (by omega) data
            generalize hpd : st.pend = pd at *
            have hpl : pd.length < 1000000 := by omega
            go_wp2_with fail
            refine (write_any _ L7.disk 0 data hdata (by rw [hpd]; exact hpl)).mono ?_
            rintro e w9 ⟨rfl, hd9⟩
            obtain ⟨pv9, L9⟩ := L7.done (Nat.le_refl _) hd9
            generalize (st.write 0 data).1 = st9 at *
            rw [g1]
            clear g1 hd9 L7 r7 ok7 hw hpd hp
            go_wp2_with fail
            refine (failed_any _ L9.disk).mono ?_
            rintro e w10 ⟨rfl, rfl⟩
            have bad9 := g2.bad
            rw [bad9]
            clear bad9
            have fl9 := failed_flush g2
            have fl91 : st9.flush.1 = st9 := by rw [fl9]
            have fl92 : st9.flush.2 = 12 := by rw [fl9]
            clear fl9
            go_wp2_with fail
            refine (flush_any _ L9.disk (by rw [g2.pend]; exact hpl)).mono ?_
            rintro e w11 ⟨rfl, hd11⟩
            rw [fl91] at hd11
            rw [fl92]
            obtain ⟨pv11, L11⟩ := L9.done (Nat.le_refl _) hd11
            clear L9 hd11 fl91 fl92
            go_wp2_with fail
            refine (pending_any _ L11.disk).mono ?_
            rintro e w12 ⟨rfl, rfl⟩
            have hpp := g2.pend
            rw [hpp]
            clear hpp
            have rd := failed_read g2 (by omega)
            have rd1 : (st9.read 0).1 = st9 := by rw [rd]
            have rd2 : (st9.read 0).2.1 = zeros := by rw [rd]
            have rd3 : (st9.read 0).2.2 = 12 := by rw [rd]
            clear rd
            go_wp2_with fail
            refine (read_any _ L11.disk 0 (by rw [g2.pend]; exact hpl)).mono ?_
            rintro e w13 ⟨rfl, hd13⟩
            rw [rd1] at hd13
            rw [rd2, rd3]
            have L13 := L11.applied (Nat.le_refl _) hd13
            clear L11 hd13 rd1 rd2 rd3
            have hlz := length_zeros
            go_wp2_with fail
            have L14 := L13.quiet (Nat.le_refl _) ((Below.refl w13.heap.size w13).alloc (Nat.le_refl _) (.cells (sec zeros) 23))
            have fa := failed_failAfter g2 5
            clear L13
            refine (failAfter_any _ L14.disk 5).mono ?_
            rintro e w15 ⟨rfl, hd15⟩
            rw [fa] at hd15
            have L15 := L14.applied (Nat.le_refl _) hd15
            clear L14 hd15 fa
            have fl9 := failed_flush g2
            have fl91 : st9.flush.1 = st9 := by rw [fl9]
            have fl92 : st9.flush.2 = 12 := by rw [fl9]
            clear fl9
            go_wp2_with fail
            refine (flush_any _ L15.disk (by rw [g2.pend]; exact hpl)).mono ?_
            rintro e w16 ⟨rfl, hd16⟩
            rw [fl91] at hd16
            rw [fl92]
            obtain ⟨pv16, L16⟩ := L15.done (Nat.le_refl _) hd16
            clear L15 hd16 fl91 fl92
            go_wp2_with fail
            refine (crash_any _ L16.disk (.slice none 0 0) [] (nil_ints _ _) (by rw [g2.pend]; exact hpl) (by simp)).mono ?_
            rintro e w17 ⟨rfl, hd17⟩
            obtain ⟨pv17, L17⟩ := L16.done (Nat.le_refl _) hd17
            have k17 := crash_works st9 []
            rw [g2.len] at k17
            have hp17 : (st9.crash []).pend.length = 0 := rfl
            generalize st9.crash [] = st17 at *
            clear L16 hd17 g2
            have wr0 := works_read k17 0 (by omega)
            rw [show ((0 : Nat) : Int) = 0 from rfl] at wr0
            obtain ⟨rd1, k18, hp18⟩ := wr0
            have rd2 : (st17.read 0).2.2 = 0 := by rw [rd1]
            have rd3 := read_len L17.disk 0
            clear rd1
            go_wp2_with fail
            refine (read_any _ L17.disk 0 (by omega)).mono ?_
            rintro e w18 ⟨rfl, hd18⟩
            have L18 := L17.applied (Nat.le_refl _) hd18
            generalize (st17.read 0).2.1 = sx at *
            rw [rd2]
            generalize (st17.read 0).1 = st18 at *
            clear L17 hd18 rd2
            go_wp2_with fail
            have L19 := L18.quiet (Nat.le_refl _) ((Below.refl w18.heap.size w18).alloc (Nat.le_refl _) (.cells (sec sx) 23))
            clear L18
            refine (failed_any _ L19.disk).mono ?_
            rintro e w20 ⟨rfl, rfl⟩
            have ok18 := k18.ok
            rw [ok18]
            have fl := free_flush k18
            have fl2 : st18.flush.2 = 0 := by rw [fl]
            clear fl
            go_wp2_with fail
            refine (flush_any _ L19.disk (by rw [hp18]; omega)).mono ?_
            rintro e w21 ⟨rfl, hd21⟩
            rw [fl2]
            obtain ⟨pv21, L21⟩ := L19.done (Nat.le_refl _) hd21
            have B21 := B1.trans (L21.below.mono B1.size)
            clear L19 hd21 L21 fl2
            go_wp2
            go_ret
            exact ⟨rfl, B21⟩
    · go_wp2
      go_ret
      exact ⟨rfl, B1⟩
  · have hfew' : fewB l 30 = false := by simpa using hfew
    clear hfew
    go_wp2
    go_ret
    exact ⟨rfl, B1⟩
end Go.Proofs.Ytakehkoicinlbaa.dk
