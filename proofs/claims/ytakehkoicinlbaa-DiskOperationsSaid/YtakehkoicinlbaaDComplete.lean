/- The walk of confluentlaw47.DiskComplete. -/
import Derived.Test.YtakehkoicinlbaaDShow
namespace Go.Proofs.Ytakehkoicinlbaa.dk
open Go.RowKit Go.Proofs.Ytakehkoicinlbaa.agg

theorem info_int : (Try.prog.info? 3).map (fun i => (i.zero, i.size, i.bytes)) = some (some (.int .i64 0), 1, 8) := by kernel_rfl
/-- A disk on which nothing has failed, and on which no number of calls is set. -/
def St.fresh (st : St) : St := (if st.failed then st.crash [] else st).failAfter (-1)
theorem fresh_works (st : St) : Works st.dur.length (-1) st.fresh ∧ st.fresh.pend.length ≤ st.pend.length := by
  unfold St.fresh
  by_cases h : st.failed = true
  · rw [if_pos h]
    refine ⟨⟨?_, ?_, ?_⟩, ?_⟩ <;> simp [St.failAfter, St.crash, length_layCrash]
  · rw [if_neg h]
    have h' : st.failed = false := by simpa using h
    refine ⟨⟨?_, ?_, ?_⟩, ?_⟩ <;> simp [St.failAfter, h']
theorem works_shows {m : Nat} {k : Int} {st : St} (h : Works m k st) : Shows m (fun n => st.visible n) st.pend.length st := ⟨h.len, h.ok, rfl, fun _ _ => rfl⟩
theorem row_ints {w : World} {base : Nat} {v : Value} {k : Nat} {xs : List Int} (hk : xs.length = k) (h : w.ownsRow base 3 1 v k (xs.map (Value.int .i64))) {F : Nat → Prop} (hF : ∀ b, F b → b < base) : IntsAt w F v xs := by
  rcases h.2 with ⟨rfl, rfl⟩ | ⟨g, cap, cur, rfl, hg, hh, _, _, _, ht⟩
  · exact ⟨none, 0, by rw [hk], fun h => by omega⟩
  · refine ⟨some ⟨g, 0, none⟩, cap, by rw [hk], fun h0 => ⟨g, 0, rfl, fun f => by have := hF g f; omega, fun i hi => ?_⟩⟩
    simp only [World.cell?, hh, Nat.zero_add]
    have h2 : (xs.map (Value.int .i64))[i]? = some (.int .i64 (xs.getD i 0)) := by
      rw [List.getElem?_map, List.getElem?_eq_getElem hi]
      simp [List.getD, hi]
    rw [← ht, List.getElem?_take] at h2
    split at h2
    · simpa using h2
    · cases h2

theorem shows_flat {m : Nat} {d : List (List Int)} {st : St} (hl : st.dur.length = m) (ho : st.failed = false) (hp : st.pend = []) (hd : st.dur = d) : Shows m (fun n => d.getD n []) 0 st :=
  ⟨hl, ho, by rw [hp]; rfl, fun n _ => by
    unfold St.visible
    rw [hp, hd]
    rfl⟩
theorem crash_shows {m : Nat} {k : Int} {st : St} (h : Works m k st) (sv : List Int) (hs : sv = List.replicate st.pend.length 64) : Shows m (fun n => (layAll st.dur st.pend).getD n []) 0 (st.crash sv) := by
  refine shows_flat ((length_layCrash _ _ _ _).trans h.len) rfl rfl ?_
  show layCrash sv st.dur 0 st.pend = _
  refine layCrash_all sv _ _ _ (fun j hj => ?_)
  rw [hs, Nat.zero_add, List.length_replicate]
  exact ⟨hj, by rw [List.getD_eq_getElem?_getD, List.getElem?_replicate, if_pos hj]; rfl⟩
theorem flush_shows {m : Nat} {st : St} (h : Works m (-1) st) : st.flush.2 = 0 ∧ Shows m (fun n => (layAll st.dur st.pend).getD n []) 0 (st.flush.1.crash []) ∧ st.flush.1.pend = [] := by
  rw [free_flush h]
  refine ⟨rfl, shows_flat ?_ rfl rfl rfl, rfl⟩
  show (layCrash _ _ _ _).length = m
  rw [length_layCrash, length_layAll]
  exact h.len

set_option maxHeartbeats 4000000 in
theorem complete_walk (w : World) (sectors : Int) (lv : Value) (l : List ActV) (hl : ActsIn w.heap.size w lv l) (hlm : l.length ≤ 9223372036854775807) :
    Calls Try.prog 6 #[.int .i64 sectors, lv] w fun e w' => e = .returned (.bool true) ∧ Below w.heap.size w w' := by
  obtain ⟨al, lcap, rfl, hat⟩ := hl.at_
  clear hat
  go_enter Try.func6, Try.ntmps6
  go_wp2_with fail
  refine (awake_calls w).mono ?_
  rintro e w1 ⟨rfl, B1⟩
  go_wp2_with fail
  refine (few_any w.heap.size _ _ l (hl.below B1) 30 hlm).mono ?_
  rintro e w2 ⟨rfl, rfl⟩
  by_cases hfew : fewB l 30 = true
  · by_cases h8 : sectors ≤ 8
    · by_cases h1 : sectors < 1
      · go_wp2_with fail
        refine (begin_no sectors (.inl h1) _ _).mono ?_
        rintro e w3 ⟨rfl, rfl⟩
        go_wp2
        go_ret
        exact ⟨rfl, B1⟩
      · obtain ⟨m, rfl⟩ := Int.eq_ofNat_of_zero_le (show 0 ≤ sectors by omega)
        obtain ⟨hf1, hf2⟩ := fewB_true hfew
        go_wp2_with fail
        refine (begin_any w1 m (by omega) (by omega) (B := w.heap.size) B1.size _ l (hl.below B1) (by omega) hf1).mono ?_
        rintro e w3 ⟨D, g, pv, rfl, L3⟩
        obtain ⟨hq1, hq2⟩ := runAll_len l (St.new m)
        have hq3 : (runAll (St.new m) l).pend.length < 1000 := by
          have : (St.new m).pend.length = 0 := rfl
          omega
        have hq4 : (runAll (St.new m) l).dur.length = m := by rw [hq1]; simp [St.new]
        clear hq1 hq2
        generalize runAll (St.new m) l = st3 at *
        obtain ⟨k4, hp4⟩ := fresh_works st3
        rw [hq4] at k4
        have hp4 : st3.fresh.pend.length < 1000 := by omega
        go_wp2_with fail
        refine (failed_any _ L3.disk).mono ?_
        rintro e w4 ⟨rfl, rfl⟩
        have e5 : st3.fresh = (if st3.failed then st3.crash [] else st3).failAfter (-1) := rfl
        generalize st3.fresh = st6 at *
        by_cases hfl : st3.failed = true
        case' pos =>
          rw [if_pos hfl] at e5
          go_wp2_with fail
          refine (crash_any _ L3.disk (.slice none 0 0) [] (nil_ints _ _) (by omega) (by simp)).mono ?_
          rintro e w5 ⟨rfl, hd5⟩
          obtain ⟨pv5, L5⟩ := L3.done (Nat.le_refl _) hd5
          have hp5 : (st3.crash []).pend.length < 1000 := by simp [St.crash]
          clear L3 hd5
          generalize st3.crash [] = st5 at *
        case' neg =>
          rw [if_neg hfl] at e5
          have hfl' : st3.failed = false := by simpa using hfl
          clear hfl
          have hw5 : ∃ w5, w5 = w3 := ⟨_, rfl⟩
          obtain ⟨w5, rfl⟩ := hw5
          have L5 := L3
          have hpv : ∃ pv5, pv5 = pv := ⟨_, rfl⟩
          obtain ⟨pv5, rfl⟩ := hpv
          have hst : ∃ st5, st5 = st3 := ⟨_, rfl⟩
          obtain ⟨st5, hst⟩ := hst
          have hp5 : st5.pend.length < 1000 := by rw [hst]; exact hq3
          rw [← hst] at L5 e5
        all_goals
          have e6 := Lib.hid e5
          clear e5
          go_wp2_with fail
          refine (failAfter_any _ L5.disk (-1)).mono ?_
          rintro e w6 ⟨rfl, hd6⟩
          rw [← e6.out] at hd6
          have L6 := L5.applied (Nat.le_refl _) hd6
          clear L5 hd6 e6
          go_wp2_with fail
          have hpm : st6.pend.length < 1000000 := by omega
          have hm1 : 1 ≤ st6.dur.length := by rw [k4.len]; omega
          refine (clone_any _ L6.disk hm1 hpm).mono ?_
          rintro e w7 ⟨Da, ga, pva, ca, spa, rfl, hda, hfa, hba⟩
          obtain ⟨sta, hsta⟩ : ∃ sta : St, sta = { st6 with cap := ca, spare := spa } := ⟨_, rfl⟩
          rw [← hsta] at hda
          have ka : Works m (-1) sta := by rw [hsta]; exact ⟨k4.ok, k4.left, k4.len⟩
          have epa : sta.pend = st6.pend := by rw [hsta]
          have eda : sta.dur = st6.dur := by rw [hsta]
          have M7 := (L6.many).add (Nat.le_refl _) hba ⟨Da, ga, pva, sta⟩ hda hfa
          clear L6 hda hfa hba hsta
          have d7 : DiskIn w7 D g pv5 st6 := M7.disk ⟨D, g, pv5, st6⟩ (by simp)
          go_wp2_with fail
          refine (clone_any _ d7 hm1 hpm).mono ?_
          rintro e w8 ⟨Db, gb, pvb, cb, spb, rfl, hdb, hfb, hbb⟩
          obtain ⟨stb, hstb⟩ : ∃ stb : St, stb = { st6 with cap := cb, spare := spb } := ⟨_, rfl⟩
          rw [← hstb] at hdb
          have kb : Works m (-1) stb := by rw [hstb]; exact ⟨k4.ok, k4.left, k4.len⟩
          have epb : stb.pend = st6.pend := by rw [hstb]
          have edb : stb.dur = st6.dur := by rw [hstb]
          have M8 := M7.add (Nat.le_refl _) hbb ⟨Db, gb, pvb, stb⟩ hdb hfb
          clear M7 d7 hdb hfb hbb hstb
          have d8 : DiskIn w8 D g pv5 st6 := M8.disk ⟨D, g, pv5, st6⟩ (by simp)
          go_wp2_with fail
          refine (pending_any _ d8).mono ?_
          rintro e w9 ⟨rfl, rfl⟩
          have vis6 := fun n hn => visible_eq d8 n hn
          rw [k4.len] at vis6
          have hvis6 := Lib.hid vis6
          clear vis6
          go_wp2_with fail
          obtain ⟨i0, hi, hz0, hz1, hz2⟩ := info_parts info_int
          generalize hnp : st6.pend.length = np at *
          have hnp' := Lib.hid hnp
          clear hnp d8
          go_loopw [8, 50] (fun v i wr => ∃ k : Nat, k ≤ np ∧ i = .int .i64 k ∧ wr.ownsRow w8.heap.size 3 1 v k ((List.replicate k (64 : Int)).map (Value.int .i64)) ∧ Below w8.heap.size w8 wr)
            (fun _ i _ => np - (intOf i).toNat)
          case atStart => exact ⟨0, Nat.zero_le _, rfl, World.ownsRow_nil _ _ _ _, Below.refl _ _⟩
          case round =>
            obtain ⟨k, hk, rfl, hown, hbr⟩ := hrel
            by_cases hlt : k < np
            · go_wp2_with (at_builtin; (refine wpList_append_mine rfl (.tmp 52) (.tmp 53) 25 rfl w8.heap.size 3 i0 _ 1 8 Try.underlying25 hi hz0 hz1 hz2 (by decide) _ k _ rfl (hown.alloc _) ⟨wr.heap.size, 0, none⟩ 1 1 [.int .i64 64] rfl rfl (by omega) (cells_new wr #[.int .i64 64] _) (by simp [Value.oneCell']) (by unfold maxLen; omega) (by omega) (by have := hbr.size; simp; omega) ?_); intro g' cap' w' hown' hgrow hnew)
              go_roundw
              case rel =>
                refine ⟨k + 1, by omega, by go_num, ?_, ?_⟩
                · rw [List.replicate_succ', List.map_append]; exact hown'
                · have hkp := (Kept.alloc (F := fun b => Value.ownBlock _ = some b) wr _).trans' (Kept.grown hgrow (fun b hb => hb)) (fun _ _ e => e)
                  exact hbr.trans (hkp.below _ hbr.size (fun b hb => (hown.lt b hb).1))
              case measure => simp [intOf]; omega
            · obtain rfl : k = np := by omega
              have M9 := M8.quiet (Nat.le_refl _) (hbr)
              have a8 : DiskIn w8 Da ga pva sta := M8.disk ⟨Da, ga, pva, sta⟩ (by simp)
              have a9 : DiskIn wr Da ga pva sta := M9.disk ⟨Da, ga, pva, sta⟩ (by simp)
              have hs9 := row_ints (F := foot Da ga pva) (by simp) hown (fun b hb => a8.lt b hb)
              have sa := crash_shows ka (List.replicate k 64) (by rw [epa, hnp'.out])
              obtain ⟨fb1, sb, fb2⟩ := flush_shows kb
              have sd : Shows m (fun n => (layAll st6.dur st6.pend).getD n []) k st6 := ⟨k4.len, k4.ok, hnp'.out, fun n hn => hvis6.out n hn⟩
              rw [epa, eda] at sa
              rw [epb, edb] at sb
              generalize hf : (fun n => (layAll st6.dur st6.pend).getD n []) = f at *
              have hpa : sta.pend.length < 1000000 := by rw [epa, hnp'.out]; omega
              have hpb : stb.pend.length < 1000000 := by rw [epb, hnp'.out]; omega
              clear hf epa epb eda edb ka kb k4 hvis6 M8 a8 hnp' hown hm1
              go_wp2_with fail
              refine (crash_any _ a9 _ _ hs9 hpa (by simp; omega)).mono ?_
              rintro e w10 ⟨rfl, hd10⟩
              obtain ⟨pva', M10⟩ := M9.done [⟨Db, gb, pvb, stb⟩] (x := ⟨Da, ga, pva, sta⟩) (Nat.le_refl _) hd10
              generalize sta.crash (List.replicate k 64) = sta2 at *
              clear M9 a9 hs9 hd10 hpa
              have b10 : DiskIn w10 Db gb pvb stb := M10.disk ⟨Db, gb, pvb, stb⟩ (by simp)
              go_wp2_with fail
              refine (flush_any _ b10 hpb).mono ?_
              rintro e w11 ⟨rfl, hd11⟩
              obtain ⟨pvb2, M11⟩ := M10.done [] (x := ⟨Db, gb, pvb, stb⟩) (Nat.le_refl _) hd11
              generalize stb.flush.1 = stb2 at *
              rw [fb1]
              clear M10 b10 hd11 hpb fb1
              have b11 : DiskIn w11 Db gb pvb2 stb2 := M11.disk ⟨Db, gb, pvb2, stb2⟩ (by simp)
              go_wp2_with fail
              refine (crash_any _ b11 (.slice none 0 0) [] (nil_ints _ _) (by rw [fb2]; simp) (by simp)).mono ?_
              rintro e w12 ⟨rfl, hd12⟩
              obtain ⟨pvb3, M12⟩ := M11.done [] (x := ⟨Db, gb, pvb2, stb2⟩) (Nat.le_refl _) hd12
              generalize stb2.crash [] = stb3 at *
              clear M11 b11 hd12
              have d12 : DiskIn w12 D g pv5 st6 := M12.disk ⟨D, g, pv5, st6⟩ (by simp)
              go_wp2_with fail
              refine (sectors_any _ d12).mono ?_
              rintro e w13 ⟨rfl, rfl⟩
              rw [sd.len]
              clear d12
              go_wp2_with fail
              have hmm := Lib.hid sd.len

              go_loopw [66] (fun i wr => ∃ n : Nat, n ≤ m ∧ i = .int .i64 n ∧ ∃ xb xa xd, Lives w1.heap.size w1 wr [⟨Db, gb, pvb3, xb⟩, ⟨Da, ga, pva', xa⟩, ⟨D, g, pv5, xd⟩] ∧ Shows m f 0 xb ∧ Shows m f 0 xa ∧ Shows m f k xd)
                (fun i _ => m - (intOf i).toNat)
              case atStart => exact ⟨0, Nat.zero_le _, rfl, _, _, _, M12, sb, sa, sd⟩
              case round =>
                obtain ⟨n, hn, rfl, xb, xa, xd, M, tb, ta, td⟩ := hrel
                clear M12 sb sa sd
                by_cases hlt : n < m
                · have d1 : DiskIn wr D g pv5 xd := M.disk ⟨D, g, pv5, xd⟩ (by simp)
                  obtain ⟨rd1, rd2, td'⟩ := shows_read td n hlt
                  have fl := read_len d1 n
                  rw [rd1] at fl
                  go_wp2_with fail
                  refine (read_any _ d1 n (by rw [td.pend]; omega)).mono ?_
                  rintro e w14 ⟨rfl, hd14⟩
                  have M14 := M.applied [⟨Db, gb, pvb3, xb⟩, ⟨Da, ga, pva', xa⟩] (x := ⟨D, g, pv5, xd⟩) (q := []) (Nat.le_refl _) hd14
                  rw [rd1, rd2]
                  clear hd14 M d1 rd1 rd2 td
                  generalize (xd.read n).1 = xd2 at *
                  have c14 := heap_alloc_new w14 (.cells (sec (f n)) 23)
                  have fa14 := (show DiskIn w14 Da ga pva' xa from M14.disk ⟨Da, ga, pva', xa⟩ (by simp)).lt
                  have fb14 := (show DiskIn w14 Db gb pvb3 xb from M14.disk ⟨Db, gb, pvb3, xb⟩ (by simp)).lt
                  have M15 := M14.quiet (Nat.le_refl _) ((Below.refl w14.heap.size w14).alloc (Nat.le_refl _) (.cells (sec (f n)) 23))
                  clear M14
                  have a1 : DiskIn _ Da ga pva' xa := M15.disk ⟨Da, ga, pva', xa⟩ (by simp)
                  obtain ⟨ra1, ra2, ta'⟩ := shows_read ta n hlt
                  go_wp2_with fail
                  generalize w14.alloc (.cells (sec (f n)) 23) = w15 at *
                  refine (read_any _ a1 n (by rw [ta.pend]; omega)).mono ?_
                  rintro e w16 ⟨rfl, hd16⟩
                  have M16 := M15.applied [⟨Db, gb, pvb3, xb⟩] (x := ⟨Da, ga, pva', xa⟩) (Nat.le_refl _) hd16
                  rw [ra1, ra2]
                  have c16 := (hd16.2.block w14.heap.size (lt_of_block c14) (fun h => by have := fa14 _ h; omega)).trans c14
                  have s16 := hd16.2.size
                  have s15 := lt_of_block c14
                  clear hd16 M15 a1 ra1 ra2 ta c14
                  generalize (xa.read n).1 = xa2 at *
                  have e16 := heap_alloc_new w16 (.cells (sec (f n)) 23)
                  have c17 := (((Below.refl _ w16).alloc (Nat.le_refl _) (.cells (sec (f n)) 23)).block w14.heap.size (lt_of_block c16)).trans c16
                  have M17 := M16.quiet (Nat.le_refl _) ((Below.refl w16.heap.size w16).alloc (Nat.le_refl _) (.cells (sec (f n)) 23))
                  clear M16 c16
                  have b1 : DiskIn _ Db gb pvb3 xb := M17.disk ⟨Db, gb, pvb3, xb⟩ (by simp)
                  obtain ⟨rb1, rb2, tb'⟩ := shows_read tb n hlt
                  go_wp2_with fail
                  generalize w16.alloc (.cells (sec (f n)) 23) = w17 at *
                  refine (read_any _ b1 n (by rw [tb.pend]; omega)).mono ?_
                  rintro e w18 ⟨rfl, hd18⟩
                  have M18 := M17.applied [] (x := ⟨Db, gb, pvb3, xb⟩) (Nat.le_refl _) hd18
                  rw [rb1, rb2]
                  have c18 := (hd18.2.block w14.heap.size (lt_of_block c17) (fun h => by have := fb14 _ h; omega)).trans c17
                  have e18 := (hd18.2.block w16.heap.size (lt_of_block e16) (fun h => by have := fb14 _ h; omega)).trans e16
                  clear hd18 M17 b1 rb1 rb2 tb c17 e16
                  generalize (xb.read n).1 = xb2 at *
                  have M19 := M18.quiet (Nat.le_refl _) ((Below.refl w18.heap.size w18).alloc (Nat.le_refl _) (.cells (sec (f n)) 23))
                  have r1 := rowOf_of ((((Below.refl _ w18).alloc (Nat.le_refl _) (.cells (sec (f n)) 23)).block w14.heap.size (lt_of_block c18)).trans c18)
                  have r2 := rowOf_of ((((Below.refl _ w18).alloc (Nat.le_refl _) (.cells (sec (f n)) 23)).block w16.heap.size (lt_of_block e18)).trans e18)
                  have l1 := lt_of_block c18
                  have l2 := lt_of_block e18
                  clear c18 e18 fa14 fb14
                  go_wp2_with fail
                  go_roundw
                  case rel => exact ⟨n + 1, by omega, by go_num, xb2, xa2, xd2, M19, tb', ta', td'⟩
                  case measure => simp [intOf]; omega
                · obtain rfl : n = m := by omega
                  have a1 : DiskIn wr Da ga pva' xa := M.disk ⟨Da, ga, pva', xa⟩ (by simp)
                  have b1 : DiskIn wr Db gb pvb3 xb := M.disk ⟨Db, gb, pvb3, xb⟩ (by simp)
                  have pa := ta.pend
                  have pb := tb.pend
                  go_wp2_with fail
                  refine (pending_any _ a1).mono ?_
                  rintro e w14 ⟨rfl, rfl⟩
                  rw [pa]
                  go_wp2_with fail
                  refine (pending_any _ b1).mono ?_
                  rintro e w15 ⟨rfl, rfl⟩
                  rw [pb]
                  go_wp2
                  go_ret
                  exact ⟨rfl, B1.trans (M.below.mono B1.size)⟩
    · go_wp2
      go_ret
      exact ⟨rfl, B1⟩
  · have hfew' : fewB l 30 = false := by simpa using hfew
    clear hfew
    go_wp2
    go_ret
    exact ⟨rfl, B1⟩
end Go.Proofs.Ytakehkoicinlbaa.dk
