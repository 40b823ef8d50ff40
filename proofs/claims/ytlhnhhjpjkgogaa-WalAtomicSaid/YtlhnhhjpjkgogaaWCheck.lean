/- The walk of Checkpoint. -/
import Derived.Test.YtlhnhhjpjkgogaaWAppend
import Derived.Test.YtlhnhhjpjkgogaaWRoot
import Derived.Test.YtlhnhhjpjkgogaaWNeed
namespace Go.Proofs.Ytlhnhhjpjkgogaa.wl
open Go.RowKit Go.Proofs.Ytlhnhhjpjkgogaa.agg Go.Proofs.Ytlhnhhjpjkgogaa.dk
set_option linter.unusedSimpArgs false
set_option linter.unusedVariables false

/-- The frames of records, from a position on. -/
def recFrames : List ByteArray → Int → Int → List Fr
  | [], _, _ => []
  | r :: l, e, p => framesOf r e p ++ recFrames l e (p + nfr r)
theorem recFrames_snoc (l : List ByteArray) (r : ByteArray) (e : Int) : ∀ p, recFrames (l ++ [r]) e p = recFrames l e p ++ framesOf r e (p + needN l) := by
  induction l with
  | nil => intro p; simp [recFrames, needN]
  | cons x l ih =>
    intro p
    rw [List.cons_append, recFrames, recFrames, ih, List.append_assoc]
    congr 3
    simp only [needN, List.map_cons, List.sum_cons]
    omega
theorem length_recFrames (e : Int) : ∀ (l : List ByteArray) (p : Int), (recFrames l e p).length = needN l
  | [], _ => rfl
  | r :: l, p => by
    rw [recFrames, List.length_append, length_framesOf, length_recFrames e l]
    simp [needN]
theorem writes_append (a b : List (Int × List Int)) : ∀ st : St, writes st (a ++ b) = if (writes st a).2 = 0 then writes (writes st a).1 b else writes st a := by
  induction a with
  | nil => intro st; simp [writes]
  | cons y a ih =>
    intro st
    rw [List.cons_append]
    by_cases h : (st.write y.1 y.2).2 = 0
    · rw [writes_ok h, writes_ok h, ih]
    · rw [writes_no h, writes_no h, if_neg h]
theorem placed_append (st : St) (a : Int) (x y : List Fr) : placed st a (x ++ y) = placed st a x ++ placed st a y := by simp [placed]
theorem placed_dur {st st' : St} (h : st'.dur = st.dur) (a : Int) (l : List Fr) : placed st' a l = placed st a l := by
  unfold placed
  congr 1
  funext f
  rw [placeOf_dur h]
/-- What is written of the first records. -/
def recWrites (st : St) (area epoch : Int) (l : List ByteArray) : St × Int := writes st (placed st area (recFrames l epoch 0))
theorem recWrites_snoc (st : St) (area epoch : Int) (l : List ByteArray) (r : ByteArray) (h : (recWrites st area epoch l).2 = 0) :
    recWrites st area epoch (l ++ [r]) = writes (recWrites st area epoch l).1 (placed (recWrites st area epoch l).1 area (framesOf r epoch (needN l))) := by
  unfold recWrites at h ⊢
  rw [recFrames_snoc, placed_append, writes_append, if_pos h, placed_dur (writes_dur _ _), Int.zero_add]
theorem recWrites_front (st : St) (area epoch : Int) (a b : List ByteArray) (h : (recWrites st area epoch a).2 ≠ 0) : recWrites st area epoch (a ++ b) = recWrites st area epoch a := by
  unfold recWrites at h ⊢
  have : ∃ c, recFrames (a ++ b) epoch 0 = recFrames a epoch 0 ++ c := by
    have hg : ∀ (a : List ByteArray) (p : Int), ∃ c, recFrames (a ++ b) epoch p = recFrames a epoch p ++ c := by
      intro a
      induction a with
      | nil => intro p; exact ⟨_, rfl⟩
      | cons x a ih =>
        intro p
        obtain ⟨c, hc⟩ := ih (p + nfr x)
        exact ⟨c, by rw [List.cons_append, recFrames, hc, recFrames, List.append_assoc]⟩
    exact hg a 0
  obtain ⟨c, hc⟩ := this
  rw [hc, placed_append, writes_front _ _ _ h]
theorem recWrites_dur (st : St) (area epoch : Int) (l : List ByteArray) : (recWrites st area epoch l).1.dur = st.dur := writes_dur _ _
theorem recWrites_pend (st : St) (area epoch : Int) (l : List ByteArray) : (recWrites st area epoch l).1.pend.length ≤ st.pend.length + needN l := by
  have := writes_pend (placed st area (recFrames l epoch 0)) st
  unfold placed at this
  rw [List.length_map, length_recFrames] at this
  exact this
theorem flush_pend (st : St) : st.flush.1.pend.length ≤ st.pend.length := by
  unfold St.flush
  split
  · rw [St.call_pend]; exact Nat.le_refl _
  · simp
/-- Checkpoint, as a value: the disk, the log, the error. -/
def checkEnd (l : Lg) (n : Nat) (z : St × Int) : St × Lg × Int :=
  if z.2 ≠ 0 then (z.1, { l with epoch := l.epoch + 1, failed := z.2 }, z.2)
  else if z.1.flush.2 ≠ 0 then (z.1.flush.1, { l with epoch := l.epoch + 1, failed := z.1.flush.2 }, z.1.flush.2)
  else if (rootSt z.1.flush.1 (1 - l.block) (l.epoch + 1) (1 - l.area)).2 ≠ 0 then ((rootSt z.1.flush.1 (1 - l.block) (l.epoch + 1) (1 - l.area)).1, { l with epoch := l.epoch + 1, block := 1 - l.block, failed := (rootSt z.1.flush.1 (1 - l.block) (l.epoch + 1) (1 - l.area)).2 }, (rootSt z.1.flush.1 (1 - l.block) (l.epoch + 1) (1 - l.area)).2)
  else ((rootSt z.1.flush.1 (1 - l.block) (l.epoch + 1) (1 - l.area)).1, ⟨l.epoch + 1, 1 - l.block, 1 - l.area, n, l.failed⟩, 0)
def checkLg (st : St) (l : Lg) (recs : List ByteArray) : St × Lg × Int :=
  if l.failed ≠ 0 then (st, l, 9)
  else if sizeOf' st < needN recs ∨ 4294967295 ≤ l.epoch then (st, l, 8)
  else checkEnd l (needN recs) (recWrites st (1 - l.area) (l.epoch + 1) recs)

set_option maxRecDepth 100000 in
set_option maxHeartbeats 4000000 in
theorem check_walk {w : World} {L D g : Nat} {pv : Value} {st : St} {l : Lg} (h : LogIn w L D g pv st l) {B : Nat} (hB : B ≤ w.heap.size) (hF : ∀ k, lfoot L D g pv k → B ≤ k) (v : Value) (recs : List ByteArray) (hv : StrsUnder B w v recs)
    (hs : ∀ r ∈ recs, r.size ≤ 65536) (hn : recs.length ≤ 100) (ha : l.area = 0 ∨ l.area = 1) (hbk : l.block = 0 ∨ l.block = 1) (he : 0 ≤ l.epoch ∧ l.epoch < 8589934592) (hpl : st.pend.length < 500000) :
    Calls Try.prog 23 #[.pointer (some ⟨L, 0, none⟩), v] w (LogEnd w L D g pv (checkLg st l recs)) := by
  obtain ⟨c0, c1, c2, c3, c4, c5⟩ := h.cell
  have hh := Lib.hid h
  have hv' := Lib.hid hv
  obtain ⟨ao, cap, rfl, _⟩ := hv
  obtain ⟨s1, s2⟩ := size_rng h.disk
  clear h
  by_cases hf : l.failed = 0
  · have hNn := needN_le recs hs
    have hNn2 : needN recs ≤ 131100 := by omega
    have hsub : ∀ k, needN (recs.take k) ≤ needN recs := by
      intro k
      have e : needN recs = needN (recs.take k) + needN (recs.drop k) := by
        unfold needN
        rw [← List.sum_append, ← List.map_append, List.take_append_drop]
      omega
    have hsub' := Lib.hid hsub
    rw [hf] at c5
    clear c0 c1 c2 c3 c4 hNn hsub
    go_enter Try.func23, Try.ntmps23
    go_wp2_with fail
    go_loopw [5, 23] (fun s i wr => ∃ k : Nat, k ≤ recs.length ∧ i = .int .i64 k ∧ s = .int .i64 (needN (recs.take k)) ∧ Below w.heap.size w wr) (fun _ i _ => recs.length - (intOf i).toNat)
    case atStart => exact ⟨0, Nat.zero_le _, rfl, rfl, Below.refl _ _⟩
    case round =>
      obtain ⟨k, hk, rfl, rfl, hb⟩ := hrel
      have hn2 : needN (recs.take k) ≤ 131100 := Nat.le_trans (hsub'.out k) hNn2
      have hb' := Lib.hid hb
      clear hb
      by_cases hlt : k < recs.length
      · have hlt' : k < recs.length := hlt
        obtain ⟨_, b, o, rfl, hBb, hc⟩ := strs_get hv'.out (hb'.out.mono hB) k hlt'
        have hr := hs recs[k] (List.getElem_mem hlt')
        have htk' := Lib.hid (take_more recs k hlt')
        have hsnoc' := Lib.hid (needN_snoc (recs.take k) recs[k])
        generalize recs[k] = r at *
        have hn4 : nfr r ≤ 1311 := by unfold nfr; omega
        have hr2 : ¬ (65536 : Int) < r.size := by omega
        generalize needN (recs.take k) = m at *
        go_wp2_with (go_at_call 19; refine (nsec_any _ r hr).mono ?_; rintro e1 u1 ⟨rfl, hb2⟩)
        go_roundw
        case rel => exact ⟨k + 1, by omega, by go_num, by rw [htk'.out, hsnoc'.out]; go_num, hb'.out.trans ⟨hb2.os, hb2.tape, hb2.output, hb2.size, fun i hi => hb2.block i (Nat.lt_of_lt_of_le hi hb'.out.size)⟩⟩
        case measure => simp [intOf]; omega
      · obtain rfl : k = recs.length := by omega
        rw [List.take_of_length_le (l := recs) (Nat.le_refl recs.length)] at hn2 ⊢
        generalize hN : needN recs = N at *
        have hN' := Lib.hid hN
        have hl1 := Lib.hid (hh.out.below hb'.out)
        have hk1 := Lib.hid (show Kept (lfoot L D g pv) w wr from Kept.of_below hb'.out)
        clear hN
        by_cases hbig : sizeOf' st < (N : Int)
        · have hall : Hid (checkLg st l recs = (st, l, 8)) := by
            unfold checkLg
            rw [if_neg (by simp [hf]), if_pos (.inl (by rw [hN'.out]; exact hbig))]
            exact rfl
          generalize hz : sizeOf' st = z at *
          have hz' := Lib.hid hz
          clear hz hf
          go_wp2_with (go_at_call 44; refine (size_any hl1.out).mono ?_; rintro e2 u2 ⟨rfl, rfl⟩; rw [hz'.out])
          go_ret
          exact ⟨pv, by rw [hall.out]; rfl, by rw [hall.out]; exact hl1.out, hk1.out, fresh_same _ _⟩
        have hfr := hl1.out.free 1
        obtain ⟨d0, d1, d2, d3, d4, d5⟩ := hl1.out.cell
        by_cases hep : 4294967295 ≤ l.epoch
        · have hall : Hid (checkLg st l recs = (st, l, 8)) := by
            unfold checkLg
            rw [if_neg (by simp [hf]), if_pos (.inr hep)]
            exact rfl
          generalize hz : sizeOf' st = z at *
          have hz' := Lib.hid hz
          clear hz hf d0 d2 d3 d4 d5
          go_wp2_with (go_at_call 44; refine (size_any hl1.out).mono ?_; rintro e2 u2 ⟨rfl, rfl⟩; rw [hz'.out])
          go_ret
          exact ⟨pv, by rw [hall.out]; rfl, by rw [hall.out]; exact hl1.out, hk1.out, fresh_same _ _⟩
        have hall : Hid (checkLg st l recs = checkEnd l N (recWrites st (1 - l.area) (l.epoch + 1) recs)) := by
          unfold checkLg
          rw [if_neg (by simp [hf]), if_neg (by rw [hN'.out]; omega), hN'.out]
          exact rfl
        have hf' := Lib.hid hf
        generalize hz : sizeOf' st = z at *
        have hz' := Lib.hid hz
        clear hz hf d0 d2 d3 d4 d5
        have har : 0 ≤ l.area ∧ l.area ≤ 1 := by rcases ha with h | h <;> rw [h] <;> decide
        have hbr : 0 ≤ l.block ∧ l.block ≤ 1 := by rcases hbk with h | h <;> rw [h] <;> decide
        go_upto_region 14 with (go_at_call 44; refine (size_any hl1.out).mono ?_; rintro e2 u2 ⟨rfl, rfl⟩; rw [hz'.out])
        have hl2 := Lib.hid (hl1.out.put 1 (.int .i64 (l.epoch + 1)) (l' := { l with epoch := l.epoch + 1 }) rfl)
        have hk2 := Lib.hid (hk1.out.trans (Kept.setCell (F := lfoot L D g pv) wr (a := ⟨L, 1, none⟩) (.inl rfl) (.int .i64 (l.epoch + 1))))
        clear d1 hfr hb' hl1 hk1
        generalize wr.setCell _ _ = w2 at *
        obtain ⟨d0, d1, d2, d3, d4, d5⟩ := hl2.out.cell
        simp only at d3
        clear d0 d1 d2 d4 d5
        go_wp2_with fail
        clear d3
        generalize hl' : ({ l with epoch := l.epoch + 1 } : Lg) = l2 at *
        have hle : l2.epoch = l.epoch + 1 := by rw [← hl']
        have ha2 : 1 - l.area = 0 ∨ 1 - l.area = 1 := by rcases ha with h | h <;> simp [h]
        have hl2' := Lib.hid hl'
        have hle' := Lib.hid hle
        clear hl' hle
        generalize hA : 1 - l.area = A at *
        have hA' := Lib.hid hA
        clear hA
        go_loopw [9, 60] (fun e i wr => ∃ (k : Nat) (pv1 : Value), k ≤ recs.length ∧ i = .int .i64 k ∧ e = .int .i64 (needN (recs.take k)) ∧ (recWrites st A l2.epoch (recs.take k)).2 = 0 ∧ LogIn wr L D g pv1 (recWrites st A l2.epoch (recs.take k)).1 l2 ∧ Kept (lfoot L D g pv) w wr ∧ Fresh w pv pv1) (fun _ i _ => recs.length - (intOf i).toNat)
        case atStart => exact ⟨0, pv, Nat.zero_le _, rfl, rfl, rfl, hl2.out, hk2.out, fresh_same _ _⟩
        case round =>
          obtain ⟨k, pv1, hk, rfl, rfl, hok, hlw, hkw, hfw⟩ := hrel
          have hn2 : needN (recs.take k) ≤ 131100 := Nat.le_trans (hsub'.out k) hNn2
          have hpk := recWrites_pend st A l2.epoch (recs.take k)
          have hpk2 : (recWrites st A l2.epoch (recs.take k)).1.pend.length < 700000 := by omega
          have hok' := Lib.hid hok
          have hlw' := Lib.hid hlw
          have hkw' := Lib.hid hkw
          have hfw' := Lib.hid hfw
          clear hok hlw hkw hfw hpk
          by_cases hlt : k < recs.length
          · have hlt' : k < recs.length := hlt
            have hBw : Below B w wr := hkw'.out.below B hB hF
            obtain ⟨_, b, o, rfl, hBb, hc⟩ := strs_get hv'.out hBw k hlt'
            have hr := hs recs[k] (List.getElem_mem hlt')
            have htk' := Lib.hid (take_more recs k hlt')
            have hsnoc' := Lib.hid (needN_snoc (recs.take k) recs[k])
            have hws' := Lib.hid (recWrites_snoc st A l2.epoch (recs.take k) recs[k] hok'.out)
            have hfront' := Lib.hid (show (recWrites st A l2.epoch (recs.take (k + 1))).2 ≠ 0 → recWrites st A l2.epoch recs = recWrites st A l2.epoch (recs.take (k + 1)) from fun h => by
              have := recWrites_front st A l2.epoch (recs.take (k + 1)) (recs.drop (k + 1)) h
              rw [List.take_append_drop] at this
              exact this)
            clear hBw
            rw [← htk'.out] at hsnoc' hws'
            generalize recs[k] = r at *
            have hn4 : nfr r ≤ 1311 := by unfold nfr; omega
            have hm0 : (0 : Int) ≤ (needN (recs.take k) : Nat) ∧ ((needN (recs.take k) : Nat) : Int) ≤ 900000 := by omega
            generalize needN (recs.take k) = m at *
            generalize hzz : writes (recWrites st A l2.epoch (recs.take k)).1 (placed (recWrites st A l2.epoch (recs.take k)).1 A (framesOf r l2.epoch m)) = zz at *
            have hzz' := Lib.hid hzz
            clear hzz
            go_wp2_with fail
            go_at_call 47
            have hpq : (recWrites st A l2.epoch (recs.take k)).1.pend.length < 900000 := Nat.lt_of_lt_of_le hpk2 (by decide)
            have hW := write_walk hlw'.out A (m : Int) ha2 hm0 r hr hpq
            rw [hzz'.out] at hW
            refine hW.mono ?_
            clear hW
            rintro e5 u5 ⟨pv5, rfl, hl5, hk5, hf5⟩
            have hl5' := Lib.hid hl5
            have hk5' := Lib.hid (lkept_trans hkw'.out hfw'.out hk5)
            have hf5' := Lib.hid (fresh_trans hfw'.out hkw'.out.size hf5)
            clear hl5 hk5 hf5 hc
            by_cases h0 : zz.2 = 0
            · rw [h0, if_pos rfl]
              have h0' := Lib.hid h0
              clear h0
              go_wp2_with fail
              go_roundw
              case rel => exact ⟨k + 1, pv5, by omega, by go_num, by rw [hsnoc'.out]; go_num, by rw [hws'.out]; exact h0'.out, by rw [hws'.out]; exact hl5'.out, hk5'.out, hf5'.out⟩
              case measure => simp [intOf]; omega
            · rw [if_neg h0]
              have hne : (zz.2 == 0) = false := by simpa using h0
              have h0' := Lib.hid h0
              generalize hq : zz.2 = q at *
              have hq' := Lib.hid hq
              clear h0 hq
              go_wp2_with (go_at_call 48; refine (fail_any hl5'.out q).mono ?_; rintro e6 u6 ⟨rfl, hl6, hk6⟩)
              go_ret
              have hrw : recWrites st A l2.epoch recs = zz := by
                have h1 : (recWrites st A l2.epoch (recs.take (k + 1))).2 ≠ 0 := by rw [hws'.out, hq'.out]; exact h0'.out
                rw [hfront'.out h1, hws'.out]
              have hce : checkLg st l recs = (zz.1, { l2 with failed := q }, q) := by
                rw [hall.out, ← hle'.out, hrw]
                unfold checkEnd
                rw [if_pos (by rw [hq'.out]; exact h0'.out), hq'.out, ← hl2'.out]
              rw [if_neg h0'.out] at hl6
              exact ⟨pv5, by rw [hce]; rfl, by rw [hce]; exact hl6, lkept_trans hk5'.out hf5'.out hk6, hf5'.out⟩
          · obtain rfl : k = recs.length := by omega
            rw [List.take_of_length_le (l := recs) (Nat.le_refl recs.length)] at hok' hlw' hpk2 ⊢
            rw [hN'.out]
            rw [← hle'.out] at hall
            generalize recWrites st A l2.epoch recs = z1 at *
            have d0 := hlw'.out.cell.1
            by_cases hfl : z1.1.flush.2 = 0
            · have hfl' := Lib.hid hfl
              clear hfl
              go_upto_region 24 with (go_at_call 42; refine (flush_any _ hlw'.out.disk (by omega)).mono ?_; rintro e4 u4 ⟨rfl, pv4, hd4, hk4, hf4⟩)
              rw [hfl'.out]
              have hl4 := Lib.hid (hlw'.out.turn hd4 hk4 hf4)
              have hk4' := Lib.hid (lkept_trans hkw'.out hfw'.out (lkept hk4))
              have hf4' := Lib.hid (fresh_trans hfw'.out hkw'.out.size hf4)
              have hp4 : z1.1.flush.1.pend.length < 700000 := Nat.lt_of_le_of_lt (flush_pend _) hpk2
              clear hd4 hk4 hf4 hlw' hkw' hfw' d0
              obtain ⟨e0, e1, e2, e3, e4, e5⟩ := hl4.out.cell
              have fr2 := hl4.out.free 2
              have hb2 : l2.block = l.block := by rw [← hl2'.out]
              rw [hb2] at e2
              clear e0 e1 e3 e4 e5
              go_upto_region 27 with fail
              have hl5 := Lib.hid (hl4.out.put 2 (.int .i64 (1 - l.block)) (l' := { l2 with block := 1 - l.block }) rfl)
              have hk5 := Lib.hid (lkept_trans hk4'.out hf4'.out (Kept.setCell (F := lfoot L D g pv4) u4 (a := ⟨L, 2, none⟩) (.inl rfl) (.int .i64 (1 - l.block))))
              clear e2 fr2 hl4 hk4'
              generalize u4.setCell _ _ = u5 at *
              have hR : ∀ W, LogIn W L D g pv4 z1.1.flush.1 { l2 with block := 1 - l.block } → Calls Try.prog 46 #[.pointer (some ⟨L, 0, none⟩), .int .i64 A] W (RootEnd W L D g pv4 { l2 with block := 1 - l.block } (rootSt z1.1.flush.1 (1 - l.block) l2.epoch A)) := fun W hW => root_walk hW A ha2 (Nat.lt_of_lt_of_le hp4 (by decide))
              have hR' := Lib.hid hR
              clear hR
              by_cases hrt : (rootSt z1.1.flush.1 (1 - l.block) l2.epoch A).2 = 0
              · have hrt' := Lib.hid hrt
                clear hrt
                go_wp2_with fail
                go_at_call 46
                refine (hR'.out _ hl5.out).mono ?_
                rintro e6 u6 ⟨pv6, rfl, hl6, hk6, hf6⟩
                generalize hyy : rootSt z1.1.flush.1 (1 - l.block) l2.epoch A = y at *
                have hyy' := Lib.hid hyy
                clear hyy
                rw [hrt'.out]
                have hl6' := Lib.hid hl6
                have hk6' := Lib.hid (lkept_trans hk5.out hf4'.out hk6)
                have hf6' := Lib.hid (fresh_trans hf4'.out hk5.out.size hf6)
                clear hl6 hk6 hf6 hR' hl5 hk5 hf4'
                go_upto_region 30 with fail
                have fr3 := hl6'.out.free 3
                have fr4 := hl6'.out.free 4
                obtain ⟨q0, q1, q2, q3, q4, q5⟩ := hl6'.out.cell
                clear q0 q1 q2 q5
                have hl7 := hl6'.out.put 3 (.int .i64 A) (l' := { ({ l2 with block := 1 - l.block } : Lg) with area := A }) rfl
                have hl8 := Lib.hid (hl7.put 4 (.int .i64 N) (l' := ⟨l2.epoch, 1 - l.block, A, N, l2.failed⟩) rfl)
                clear hl7
                go_wp2_with fail
                go_ret
                have hce : checkLg st l recs = (y.1, ⟨l2.epoch, 1 - l.block, A, N, l2.failed⟩, 0) := by
                  rw [hall.out]
                  unfold checkEnd
                  rw [if_neg (by rw [hok'.out]; simp), if_neg (by rw [hfl'.out]; simp), ← hle'.out, hA'.out, hyy'.out, if_neg (by rw [hrt'.out]; simp), ← hl2'.out]
                exact ⟨pv6, by rw [hce]; rfl, by rw [hce]; exact hl8.out, lkept_trans hk6'.out hf6'.out ((Kept.setCell (F := lfoot L D g pv6) u6 (a := ⟨L, 3, none⟩) (.inl rfl) _).trans (Kept.setCell _ (.inl rfl) _)), hf6'.out⟩
              · have hrt' := Lib.hid hrt
                clear hrt
                go_wp2_with fail
                go_at_call 46
                refine (hR'.out _ hl5.out).mono ?_
                rintro e6 u6 ⟨pv6, rfl, hl6, hk6, hf6⟩
                generalize hyy : rootSt z1.1.flush.1 (1 - l.block) l2.epoch A = y at *
                have hyy' := Lib.hid hyy
                clear hyy
                have hl6' := Lib.hid hl6
                have hk6' := Lib.hid (lkept_trans hk5.out hf4'.out hk6)
                have hf6' := Lib.hid (fresh_trans hf4'.out hk5.out.size hf6)
                clear hl6 hk6 hf6 hR' hl5 hk5 hf4'
                have hne : (y.2 == 0) = false := by simpa using hrt'.out
                generalize hq : y.2 = q at *
                have hq' := Lib.hid hq
                clear hq
                go_wp2_with (go_at_call 48; refine (fail_any hl6'.out q).mono ?_; rintro e7 u7 ⟨rfl, hl7, hk7⟩)
                go_ret
                have hce : checkLg st l recs = (y.1, { ({ l2 with block := 1 - l.block } : Lg) with failed := q }, q) := by
                  rw [hall.out]
                  unfold checkEnd
                  rw [if_neg (by rw [hok'.out]; simp), if_neg (by rw [hfl'.out]; simp), ← hle'.out, hA'.out, hyy'.out, if_pos (by rw [hq'.out]; exact hrt'.out), hq'.out, ← hl2'.out]
                rw [if_neg hrt'.out] at hl7
                exact ⟨pv6, by rw [hce]; rfl, by rw [hce]; exact hl7, lkept_trans hk6'.out hf6'.out hk7, hf6'.out⟩
            · have hne : (z1.1.flush.2 == 0) = false := by simpa using hfl
              have hfl' := Lib.hid hfl
              clear hfl
              go_upto_region 24 with (go_at_call 42; refine (flush_any _ hlw'.out.disk (by omega)).mono ?_; rintro e4 u4 ⟨rfl, pv4, hd4, hk4, hf4⟩)
              have hl4 := Lib.hid (hlw'.out.turn hd4 hk4 hf4)
              have hk4' := Lib.hid (lkept_trans hkw'.out hfw'.out (lkept hk4))
              have hf4' := Lib.hid (fresh_trans hfw'.out hkw'.out.size hf4)
              clear hd4 hk4 hf4 hlw' hkw' hfw' d0
              generalize hq : z1.1.flush.2 = q at *
              have hq' := Lib.hid hq
              clear hq
              go_wp2_with (go_at_call 48; refine (fail_any hl4.out q).mono ?_; rintro e6 u6 ⟨rfl, hl6, hk6⟩)
              go_ret
              have hce : checkLg st l recs = (z1.1.flush.1, { l2 with failed := q }, q) := by
                rw [hall.out]
                unfold checkEnd
                rw [if_neg (by rw [hok'.out]; simp), if_pos (by rw [hq'.out]; exact hfl'.out), hq'.out, ← hl2'.out]
              rw [if_neg hfl'.out] at hl6
              exact ⟨pv4, by rw [hce]; rfl, by rw [hce]; exact hl6, lkept_trans hk4'.out hf4'.out hk6, hf4'.out⟩
  · have hall : Hid (checkLg st l recs = (st, l, 9)) := by
      unfold checkLg
      rw [if_pos hf]
      exact rfl
    have hne : (l.failed == 0) = false := by simpa using hf
    clear hf
    generalize l.failed = fl at *
    go_enter Try.func23, Try.ntmps23
    go_wp2
    go_ret
    exact ⟨pv, by rw [hall.out]; rfl, by rw [hall.out]; exact hh.out, Kept.refl _ _, fresh_same _ _⟩
end Go.Proofs.Ytlhnhhjpjkgogaa.wl
