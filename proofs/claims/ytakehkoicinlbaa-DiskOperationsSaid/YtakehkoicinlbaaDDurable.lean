/- The walk of confluentlaw47.DiskDurable. -/
import Derived.Test.YtakehkoicinlbaaDPlain
import Derived.Test.YtakehkoicinlbaaDAwake
namespace Go.Proofs.Ytakehkoicinlbaa.dk
open Go.RowKit Go.Proofs.Ytakehkoicinlbaa.agg

theorem ge_foot {B D g : Nat} (hD : B ≤ D) (hg : B ≤ g) : ∀ k, foot D g (.slice none 0 0) k → B ≤ k := by
  rintro k (rfl | rfl | h)
  · exact hD
  · exact hg
  · simp [Value.ownBlock] at h

/-- A disk in blocks from B on, and the world below B as it was. -/
structure Live (B D g : Nat) (w0 w : World) (pv : Value) (st : St) : Prop where
  disk : DiskIn w D g pv st
  ge : ∀ k, foot D g pv k → B ≤ k
  below : Below B w0 w
theorem Live.done {B D g : Nat} {w0 w w' : World} {pv : Value} {st st' : St} (h : Live B D g w0 w pv st) (hB : B ≤ w0.heap.size) (hd : Done D g pv st' w w') : ∃ pv', Live B D g w0 w' pv' st' := by
  obtain ⟨pv', h1, h2, h3⟩ := hd
  obtain ⟨h4, h5⟩ := live_step h.ge (Nat.le_trans hB h.below.size) h2 h3
  exact ⟨pv', h1, h4, h.below.trans h5⟩
theorem Live.applied {B D g : Nat} {w0 w w' : World} {pv : Value} {st st' : St} (h : Live B D g w0 w pv st) (hB : B ≤ w0.heap.size) (hd : Applied D g pv st' w w') : Live B D g w0 w' pv st' := by
  obtain ⟨h4, h5⟩ := live_step h.ge (Nat.le_trans hB h.below.size) hd.2 (fresh_same _ _)
  exact ⟨hd.1, h4, h.below.trans h5⟩
theorem Live.quiet {B D g : Nat} {w0 w w' : World} {pv : Value} {st : St} (h : Live B D g w0 w pv st) (hB : B ≤ w0.heap.size) (hb : Below w.heap.size w w') : Live B D g w0 w' pv st :=
  ⟨h.disk.kept (Kept.of_below (F := fun _ => False) hb) (fun _ _ => id), h.ge, h.below.trans (hb.mono (Nat.le_trans hB h.below.size))⟩

set_option maxHeartbeats 2000000 in
theorem durable_walk (w : World) (sectors n : Int) (data : List Int) (hdata : data.length = 64) (lv : Value) (l : List ActV) (hl : ActsIn w.heap.size w lv l) (hlm : l.length ≤ 9223372036854775807) (svv : Value) (sv : List Int) (hs : IntsIn w.heap.size w svv sv) :
    Calls Try.prog 3 #[.int .i64 sectors, .int .i64 n, .agg (sec data), lv, svv] w fun e w' => e = .returned (.bool true) ∧ Below w.heap.size w w' := by
  obtain ⟨al, lcap, rfl, hat⟩ := hl.at_
  obtain ⟨ao, cap, rfl, hs2⟩ := hs
  have hs : IntsIn w.heap.size w (.slice ao sv.length cap) sv := ⟨ao, cap, rfl, hs2⟩
  clear hs2
  have B0 : Below w.heap.size w (w.alloc (.cells (sec data) 23)) := (Below.refl _ w).alloc (Nat.le_refl _) _
  have x0 : (w.alloc (.cells (sec data) 23)).heap[w.heap.size]? = some (.cells (sec data) 23 (0, 0)) := heap_alloc_new w _
  go_enter Try.func3, Try.ntmps3
  go_wp2_with fail
  generalize hW : w.alloc (.cells (sec data) 23) = W at *
  have hBW : w.heap.size + 1 = W.heap.size := by rw [← hW]; simp
  have hW' := Lib.hid hW
  clear hW
  refine (awake_calls W).mono ?_
  rintro e w1 ⟨rfl, hb1⟩
  have hBW' := Lib.hid hBW
  clear hBW
  go_wp2_with fail
  refine (few_any w.heap.size _ _ l ((hl.below B0).below (hb1.mono B0.size)) 30 hlm).mono ?_
  rintro e w2 ⟨rfl, rfl⟩
  by_cases hfew : fewB l 30 = true
  · by_cases h8 : sectors ≤ 8
    · by_cases h60 : sv.length ≤ 60
      · have hd60 : decide ((60 : Int) < (sv.length : Int)) = false := by simp; omega
        by_cases h1 : sectors < 1
        · go_wp2_with fail
          refine (new_no sectors (.inl h1) _).mono ?_
          rintro e w3 ⟨rfl, rfl⟩
          go_wp2
          go_ret
          exact ⟨rfl, B0.trans (hb1.mono B0.size)⟩
        · obtain ⟨m, rfl⟩ := Int.eq_ofNat_of_zero_le (show 0 ≤ sectors by omega)
          go_wp2_with fail
          refine (new_any m (by omega) (by omega) _).mono ?_
          rintro e w3 ⟨D, g, rfl, hd3, hb3, hD, hg⟩
          have L3 : Live W.heap.size D g W w3 (.slice none 0 0) (St.new m) := ⟨hd3, ge_foot (Nat.le_trans hb1.size hD) (Nat.le_trans hb1.size hg), hb1.trans (hb3.mono hb1.size)⟩
          clear hd3 hb3 hD hg hb1
          have r3 := rowOf_of ((L3.below.block _ (by rw [← hBW'.out]; omega)).trans x0)
          by_cases hn : 0 ≤ n ∧ n < m
          · obtain ⟨n, rfl⟩ := Int.eq_ofNat_of_zero_le hn.1
            obtain ⟨p1, p2, p3, p4, p5⟩ := new_write (m := m) (n := n) (by omega) data hdata
            go_wp2_with fail
            refine (write_any _ L3.disk n data hdata (by simp [St.new])).mono ?_
            rintro e w4 ⟨rfl, hd4⟩
            obtain ⟨pv4, L4⟩ := L3.done (Nat.le_refl _) hd4
            have q4 : ((St.new m).write n data).1.pend.length < 1000000 := by
              obtain ⟨_, h | ⟨_, _, h⟩⟩ := write_pend (St.new m) n data <;> rw [h] <;> simp [St.new]
            generalize ((St.new m).write n data).1 = st4 at *
            clear L3 hd4 r3
            go_wp2_with fail
            refine (flush_any _ L4.disk q4).mono ?_
            rintro e w5 ⟨rfl, hd5⟩
            obtain ⟨pv5, L5⟩ := L4.done (Nat.le_refl _) hd5
            clear L4 hd5
            generalize st4.flush.1 = st5 at *
            obtain ⟨hf1, hf2⟩ := fewB_true hfew
            go_wp2_with fail
            clear p1 p2
            go_loopw [60] (fun i wr => ∃ k : Nat, k ≤ l.length ∧ i = .int .i64 k ∧ ∃ pv st, Live W.heap.size D g W wr pv st ∧ Keeps n data st ∧ st.pend.length ≤ k ∧ st.dur.length = m)
              (fun i _ => l.length - (intOf i).toNat)
            case atStart => exact ⟨0, Nat.zero_le _, rfl, pv5, st5, L5, p3, by rw [p5]; simp, p4⟩
            case round =>
              obtain ⟨k, hk, rfl, pv, st, L, hkeep, hpl, hm⟩ := hrel
              by_cases hlt : k < l.length
              · have hmem : l[k] ∈ l := List.getElem_mem hlt
                obtain ⟨b, o, rfl, hB, hc⟩ := hat (by omega)
                have hBr : Below w.heap.size w wr := B0.trans (L.below.mono B0.size)
                have hck : ∀ j u, (acells l[k]).toList[j]? = some u → wr.cell? ⟨b, o + k * 68 + j, none⟩ = some u := fun j u hu => (hBr.cell (p := ⟨b, o + k * 68 + j, none⟩) hB).trans (hc k hlt j u hu)
                have hxd := hl.data l[k] hmem
                have hxi := (hl.ints l[k] hmem).below hBr
                have hxs := hf1 l[k] hmem
                obtain ⟨xa, xc, hxv, _⟩ := hl.ints l[k] hmem
                have hone : l[k].svv.oneCell' = true := by rw [hxv]; rfl
                obtain ⟨a0, a1, a2, a3⟩ := acells_get' l[k] hxd
                have hcut := cut_acells l[k] hxd
                have hz := zact_len
                clear hxv hc hat
                generalize l[k] = x at *
                have hD := lt_of_block L.disk.blk
                by_cases hx : x.kind = 0 ∧ x.sector = n
                · have c0 : (x.kind != 0) = false := by simpa using hx.1
                  have c1 : (x.sector != (n : Int)) = false := by simpa using hx.2
                  clear hx
                  go_wp2_with (with_reducible refine wpList_load_cells ag_act rfl (.tmp 62) rfl b (o + k * 68) rfl (acells x) (by rw [size_acells, hxd]) hck ?_)
                  go_roundw
                  case rel => exact ⟨k + 1, by omega, by go_num, pv, st, L.quiet (Nat.le_refl _) ((Below.refl _ _).alloc (Nat.le_refl _) _), hkeep, by omega, hm⟩
                  case measure => simp [intOf]; omega
                · have hx' : x.kind ≠ 0 ∨ x.sector ≠ n := by omega
                  have Lq := L.quiet (Nat.le_refl _) ((Below.refl wr.heap.size wr).alloc (Nat.le_refl _) (.cells (acells x) 35))
                  have hdo := do_any _ Lq.disk x hxd (by omega) (((hxi.below ((Below.refl _ wr).alloc hBr.size _))).at (fun q hq => by have := Lq.ge q hq; have := hBW'.out; omega)) (by omega)
                  have hkp := doit_keeps hkeep L.disk.pin x hx'
                  obtain ⟨hm2, hp2⟩ := doit_len st x
                  have hdec : ((x.kind != 0) = true) ∨ ((x.kind != 0) = false ∧ (x.sector != (n : Int)) = true) := by
                    by_cases h : x.kind = 0
                    · exact .inr ⟨by simpa using h, by simpa using (by omega : x.sector ≠ n)⟩
                    · exact .inl (by simpa using h)
                  have hdo' := Lib.hid hdo
                  have hm2' := Lib.hid hm2
                  have hkp' := Lib.hid hkp
                  clear hx hx' hdo hm2 hkp hkeep
                  rcases hdec with c0 | ⟨c0, c1⟩
                  all_goals
                    go_wp2_with (with_reducible refine wpList_load_cells ag_act rfl (.tmp 62) rfl b (o + k * 68) rfl (acells x) (by rw [size_acells, hxd]) hck ?_)
                    refine (hdo'.out).mono ?_
                    rintro e w6 ⟨rfl, hd6⟩
                    obtain ⟨pv6, L6⟩ := Lq.done (Nat.le_refl _) hd6
                    go_wp2_with fail
                    go_roundw
                    case rel => exact ⟨k + 1, by omega, by go_num, pv6, _, L6, hkp'.out, by omega, by rw [hm2'.out, hm]⟩
                    case measure => simp [intOf]; omega
              · obtain rfl : k = l.length := by omega
                have hBr : Below w.heap.size w wr := B0.trans (L.below.mono B0.size)
                have hcr := crash_read hkeep L.disk.pin (by omega) sv
                have hsr := (hs.below hBr).at (F := foot D g pv) (fun q hq => by have := L.ge q hq; have := hBW'.out; omega)
                have hcr1 : ((st.crash sv).read n).2.1 = data := by rw [hcr]
                have hcr2 : ((st.crash sv).read n).2.2 = 0 := by rw [hcr]
                clear hcr hkeep
                go_wp2_with fail
                refine (crash_any _ L.disk (.slice ao sv.length cap) sv hsr (by omega) (by omega)).mono ?_
                rintro e w6 ⟨rfl, hd6⟩
                obtain ⟨pv6, L6⟩ := L.done (Nat.le_refl _) hd6
                go_wp2_with fail
                refine (read_any _ L6.disk n (by simp [St.crash])).mono ?_
                rintro e w7 ⟨rfl, hd7⟩
                have L7 := L6.applied (Nat.le_refl _) hd7
                have hcr1' := Lib.hid hcr1
                have hsz := L7.below.size
                have x7 := (L7.below.block w.heap.size (by rw [← hBW'.out]; omega)).trans x0
                have r7 := rowOf_of x7
                have hl7 := lt_of_block x7
                rw [hcr1]
                clear hcr1
                go_wp2
                go_ret
                refine ⟨by simp, B0.trans ((L7.quiet (Nat.le_refl _) ((Below.refl _ _).alloc (Nat.le_refl _) _)).below.mono B0.size)⟩
          · have hw : (St.new m).write n data = (St.new m, 2) := by
              unfold St.write
              rw [if_pos (by simp [St.new]; omega)]
            have hw2 : ((St.new m).write n data).2 = 2 := by rw [hw]
            have hn' : decide (n < 0) = true ∨ (decide (n < 0) = false ∧ decide ((m : Int) ≤ n) = true) := by
              by_cases h0 : n < 0
              · exact .inl (by simpa using h0)
              · exact .inr ⟨by simpa using h0, by simp; omega⟩
            clear hw
            go_wp2_with fail
            refine (write_any _ L3.disk n data hdata (by simp [St.new])).mono ?_
            rintro e w4 ⟨rfl, hd4⟩
            obtain ⟨pv4, L4⟩ := L3.done (Nat.le_refl _) hd4
            have B4 := B0.trans (L4.below.mono B0.size)
            clear L3 L4 hd4 r3 hn
            rcases hn' with hn' | ⟨hn1, hn2⟩
            · go_wp2
              go_ret
              exact ⟨rfl, B4⟩
            · go_wp2
              go_ret
              exact ⟨rfl, B4⟩
      · have hd60 : decide ((60 : Int) < (sv.length : Int)) = true := by simp; omega
        go_wp2
        go_ret
        exact ⟨rfl, B0.trans (hb1.mono B0.size)⟩
    · go_wp2
      go_ret
      exact ⟨rfl, B0.trans (hb1.mono B0.size)⟩
  · have hfew' : fewB l 30 = false := by simpa using hfew
    clear hfew
    go_wp2
    go_ret
    exact ⟨rfl, B0.trans (hb1.mono B0.size)⟩
end Go.Proofs.Ytakehkoicinlbaa.dk
