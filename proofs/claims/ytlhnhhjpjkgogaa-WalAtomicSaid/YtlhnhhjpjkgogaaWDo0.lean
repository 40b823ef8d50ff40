/- The walk of Do where records are appended and nothing fails. -/
import Derived.Test.YtlhnhhjpjkgogaaWDoBase
import Derived.BigRegion
namespace Go.Proofs.Ytlhnhhjpjkgogaa.wl
open Go.RowKit Go.Proofs.Ytlhnhhjpjkgogaa.agg Go.Proofs.Ytlhnhhjpjkgogaa.dk
set_option linter.unusedSimpArgs false
set_option linter.unusedVariables false

theorem acc_len (S : Nat) : ∀ (l : List ByteArray) (t : Nat), (acc S t l).length ≤ l.length
  | [], _ => Nat.le_refl _
  | r :: l, t => by
    rw [acc]
    have h1 := acc_len S l (t + nfr r)
    have h2 := acc_len S l t
    split
    · simp only [List.length_cons]; omega
    · simp only [List.length_cons]; omega
set_option maxRecDepth 100000 in
set_option maxHeartbeats 4000000 in
theorem do_append {w W : World} {Q L D g n S a b e t P : Nat} {R1 R2 : List ByteArray} (h : SyAt w Q L D g n S a b e t R1 R2 P W) (hP : P ≤ 400000) (x : ActW) (hx : StrsUnder w.heap.size w x.rv x.recs) (hx2 : ∃ ao cap, x.svv = .slice ao x.sv.length cap) (h6 : x.recs.length ≤ 6) (h300 : ∀ r ∈ x.recs, r.size ≤ 300) (hk0 : x.kind = 0) (hR : R1.length + R2.length ≤ 10000) :
    Calls Try.prog 31 #[.pointer (some ⟨Q, 0, none⟩), .agg x.cells] W fun e9 W' => e9 = .returned (.int .i64 1) ∧ SyAt w Q L D g n S a b e (t + needN (acc S t x.recs)) R1 (R2 ++ acc S t x.recs) (P + 60) W' := by
  obtain ⟨pv, st, X, cv, mv, nv, fl, hp⟩ := h
  obtain ⟨ro, rc, hrv, _⟩ := id hx
  obtain ⟨so, sc, hsv⟩ := hx2
  have hbz : Below W.heap.size W (W.alloc (.cells x.cells 49)) := (Below.refl _ _).alloc (Nat.le_refl _) _
  have hbox : (W.alloc (.cells x.cells 49)).heap[W.heap.size]? = some (.cells x.cells 49 (0, 0)) := heap_alloc_new _ _
  have y0 : (W.alloc (.cells x.cells 49)).cell? ⟨W.heap.size, 0, none⟩ = some (.int .i64 0) := (cell_of_row _ _ _ _ _ _ hbox).trans (by rw [← hk0]; rfl)
  have y1 : (W.alloc (.cells x.cells 49)).cell? ⟨W.heap.size, 1, none⟩ = some (.slice ro x.recs.length rc) := (cell_of_row _ _ _ _ _ _ hbox).trans (by rw [← hrv]; rfl)
  have hp1 := hp.quiet hbz
  have hp1' := Lib.hid hp1
  have hx' := Lib.hid (hrv ▸ hx)
  obtain ⟨d0, d1, d2, d3, d4⟩ := hp1.cell
  have h300' := Lib.hid h300
  have he0 : Hid (Calls Try.prog 29 #[.pointer (some ⟨L, 0, none⟩)] (W.alloc (.cells x.cells 49)) fun e w' => e = .returned (.int .i64 0) ∧ (W.alloc (.cells x.cells 49)) = w') := errL hp1.log
  have hu : x.cells = #[.int .i64 x.kind, .slice ro x.recs.length rc, .slice so x.sv.length sc, .int .i64 x.n] := by unfold ActW.cells; rw [hrv, hsv]
  have hu' : Hid ((W.alloc (.cells x.cells 49)) = W.alloc (.cells #[.int .i64 0, .slice ro x.recs.length rc, .slice so x.sv.length sc, .int .i64 x.n] 49)) := by rw [hu, hk0]; exact rfl
  rw [hu, hk0]
  have hS19 : S ≤ 1000 := by have h1 := hp.sess.hS; have h2 := hp.sess.n8; omega
  have htS : t ≤ S := by rw [hp.ht]; exact hp.sess.room
  have hmv : Hid (W.ownsRow w.heap.size 9 1 mv R2.length (strsV R2)) := hp.more
  clear hp hbz hbox hp1 hx h300 hrv hsv hu hk0 d0 d2 d3 d4
  go_enter Try.func31, Try.ntmps31
  go_upto_region 1 with fail
  rw [← hu'.out]
  generalize W.alloc (.cells x.cells 49) = W1 at *
  generalize W.heap.size = Z at *
  clear hu'
  go_wp2_with (go_at_call 29; refine he0.out.mono ?_; rintro e9 _ ⟨rfl, rfl⟩)
  have hp2 : SyAt w Q L D g n S a b e t R1 R2 P W1 := ⟨pv, st, X, cv, mv, nv, fl, hp1'.out⟩
  have hp2' := Lib.hid hp2
  clear hp2 hp1' he0 hmv d1 y0 y1
  go_loopw [26] (fun i wr => ∃ k : Nat, k ≤ x.recs.length ∧ i = .int .i64 k ∧ SyAt w Q L D g n S a b e (t + needN (acc S t (x.recs.take k))) R1 (R2 ++ acc S t (x.recs.take k)) (P + 10 * k) wr) (fun i _ => x.recs.length - (intOf i).toNat)
  case atStart => exact ⟨0, Nat.zero_le _, rfl, by simpa [acc, needN] using hp2'.out⟩
  case round =>
    obtain ⟨k, hk, rfl, hB⟩ := hrel
    have hB' := Lib.hid hB
    clear hB hp2'
    by_cases hlt : k < x.recs.length
    · have hlt' : k < x.recs.length := hlt
      obtain ⟨pv, st, X, cv, mv, nv, fl, hp⟩ := hB'.out
      obtain ⟨_, rb, roff, rfl, hrB, hrc⟩ := strs_get (n := x.recs.length) hx'.out hp.below k hlt'
      have h6' := h6
      have hsz : x.recs[k].size ≤ 300 := h300'.out _ (List.getElem_mem hlt')
      have htk := take_more x.recs k hlt'
      have hac := acc_snoc S x.recs[k] (x.recs.take k) t
      rw [← htk] at hac
      have hacl : (acc S t (x.recs.take k)).length ≤ k := Nat.le_trans (acc_len S _ t) (by rw [List.length_take]; omega)
      have hac' := Lib.hid hac
      clear htk hac
      generalize x.recs[k] = r at *
      generalize acc S t (x.recs.take k) = A0 at *
      have hR2' : (R2 ++ A0).length ≤ 10006 := by rw [List.length_append]; omega
      have hA2 : Hid (R2 ++ A0 ++ [r] = R2 ++ (A0 ++ [r])) := List.append_assoc _ _ _
      generalize hT : t + needN A0 = T at *
      have hT' := Lib.hid hT
      clear hT
      generalize hRA : R2 ++ A0 = RA at *
      have hRA' := Lib.hid hRA
      clear hRA
      have hr65 : r.size ≤ 65536 := by omega
      have hnr : nfr r ≤ 6 := by unfold nfr; omega
      have hnr1 : 1 ≤ nfr r := by unfold nfr; omega
      have hTS : T ≤ S := by rw [hp.ht]; exact hp.sess.room
      have ha := hp.sess.ha
      have hsX := hp.sess.len
      have hX8 : 8 ≤ X.length := by rw [hsX]; exact hp.sess.n8.1
      have hSX : S = (X.length - 2) / 2 := by rw [hsX]; exact hp.sess.hS
      have hSX' := Lib.hid hSX
      have hpl := hp.pend
      have hsz0 := size_fine hp.fine (by omega)
      rw [← hSX] at hsz0
      clear hSX hsX
      have hE : Hid (∀ n, Calls Try.prog 29 #[.pointer (some ⟨L, 0, none⟩)] (wr.drewN n) fun e w' => e = .returned (.int .i64 0) ∧ wr.drewN n = w') := fun n => errL (hp.log.below (below_drewN (Below.refl _ wr) n))
      have hF := fun n => free_quiet (hp.log.below (below_drewN (Below.refl _ wr) n)) ⟨by simp only; omega, by simp only; omega⟩
      rw [hsz0] at hF
      have hF' : Hid (∀ n, Calls Try.prog 28 #[.pointer (some ⟨L, 0, none⟩)] (wr.drewN n) fun e w' => e = .returned (.int .i64 (S - T)) ∧ ∃ m, w' = (wr.drewN n).drewN m) := hF
      obtain ⟨d0, d1, d2, d3, d4⟩ := hp.cell
      have hp' := Lib.hid hp
      clear hp hB' hF hsz0 d0 d2
      go_upto_region 7 with fail
      go_quiet ((first | (go_at_call 29; exact (hE.out _).mono (fun _ _ h => ⟨h.1, _, h.2.symm⟩)) | (go_at_call 28; exact (hF'.out _).mono (fun _ _ h => ⟨h.1, by obtain ⟨m, h2⟩ := h.2; exact ⟨_, h2.trans (World.drewN_drewN ..)⟩⟩))))
      have hq := Lib.hid (hp'.out.quiet (below_drewN (Below.refl _ wr) nq))
      have hcell3 := Lib.hid hq.out.cell
      have d1' : (wr.drewN nq).cell? ⟨Q, 1, none⟩ = some (.pointer (some ⟨L, 0, none⟩)) := hcell3.out.2.1
      clear hE hF' hp' d1 d3 d4
      generalize wr.drewN nq = W2 at *
      have hA := append_walk hq.out.log r (by omega) (by rcases ha with rfl | rfl <;> simp) ⟨by simp only; omega, by simp only; omega⟩ (by omega)
      by_cases hfit : T + nfr r ≤ S
      · obtain ⟨st', p1, p2, p3⟩ := append_fine (e := e) (b := b) (t := T) hq.out.fine hX8 hSX'.out ha r hr65 hfit
        rw [p1] at hA
        have hA' := Lib.hid hA
        have hp2' := Lib.hid p2
        have hp3' := Lib.hid p3
        clear hA p1 p2 p3
        obtain ⟨i0, hi, hz0, hz1, hz2⟩ := info_parts info_strA
        go_wp2_with fail
        go_at_call 17
        refine hA'.out.mono ?_
        rintro e9 u1 ⟨pv1, rfl, hl1, hk1, hf1⟩
        obtain ⟨f1, f2, f3, f4, f5, f6, f7, f8⟩ := hq.out.turn hl1 hk1 hf1
        have f2' := Lib.hid f2
        have f6' := Lib.hid f6
        have f8' := Lib.hid f8
        have hl1' := Lib.hid hl1
        have hk1' := Lib.hid hk1
        have hf1' := Lib.hid hf1
        clear f1 f2 f3 f4 f5 f6 f7 f8 hl1 hk1 hf1 hA' d1' hcell3
        go_wp2_with fail
        go_at_call 18
        have hbz : Below u1.heap.size u1 (u1.alloc (.cells #[.string r] 9)) := (Below.refl _ _).alloc (Nat.le_refl _) _
        have hsu : StrsUnder (u1.alloc (.cells #[.string r] 9)).heap.size (u1.alloc (.cells #[.string r] 9)) (.slice (some ⟨u1.heap.size, 0, none⟩) 1 1) [r] := str_single u1 r
        refine (need_walk _ _ [r] hsu (by simpa using hr65) (by simp)).mono ?_
        rintro e9 u2 ⟨rfl, hb2⟩
        rw [show needN [r] = nfr r by simp [needN]]
        have hbu2 := Lib.hid (hbz.trans (hb2.mono hbz.size))
        clear hbz hsu hb2
        have hfit2 : ¬ (S : Int) - (T : Int) < (nfr r : Int) := by omega
        generalize hnfd : nfr r = nf at *
        have hnfd' := Lib.hid hnfd
        clear hnfd
        have hbox2 := (hbu2.out.block Q (lt_of_block f2'.out)).trans f2'.out
        have y3 : u2.cell? ⟨Q, 3, none⟩ = some mv := (cell_of_row _ _ _ _ _ _ hbox2).trans rfl
        have hown2 := Lib.hid (ownsRow_same f6'.out (fun k hk => hbu2.out.block k (f6'.out.lt k hk).2))
        have hs2 : w.heap.size ≤ u2.heap.size := Nat.le_trans f8'.out.size hbu2.out.size
        have hbox2' := Lib.hid hbox2
        have hmQ := Lib.hid hq.out.moreQ
        clear hbox2
        go_upto_region 17 with (at_builtin; refine wpList_append_mine rfl (.tmp 66) (.tmp 68) 35 rfl w.heap.size 9 i0 _ 1 16 Try.underlying35 hi hz0 hz1 hz2 (by decide) _ RA.length _ rfl (hown2.out.alloc _) ⟨u2.heap.size, 0, none⟩ 1 1 [.string r] rfl rfl (by omega) (cells_new u2 #[.string r] _) (by simp [Value.oneCell']) (by unfold maxLen; omega) (by omega) (by simp; omega) ?_; intro g' cap' w' hown' hgrow hnew; obtain ⟨z1, z2⟩ := more_box hbox2'.out hmQ.out hgrow; have hown3 := Lib.hid hown'; have hgrow3 := Lib.hid hgrow; have hnew3 := Lib.hid hnew; clear hown' hgrow hnew)
        go_wp2_with fail
        refine ⟨⟨k + 1, by omega, by go_num, ?_⟩, by simp [intOf]; omega⟩
        have hTe := hq.out.ht
        have hss := hq.out.sess.append r (by rw [← hTe, hnfd'.out]; exact hfit)
        rw [← hTe, List.append_assoc] at hss
        have hin := hq.out.add (P' := P + 10 * (k + 1)) hl1'.out hk1'.out hf1'.out (hbu2.out.trans (((Below.refl _ u2).alloc (Nat.le_refl _) _).mono hbu2.out.size)) hown3.out hgrow3.out hnew3.out hp2'.out hss
          (by rw [← List.append_assoc, needN_snoc, ← hTe, hnfd'.out]) (by have := hp3'.out; omega)
        rw [hac'.out, if_pos hfit, needN_snoc, ← Nat.add_assoc, hT'.out, hnfd'.out, ← List.append_assoc, hRA'.out]
        exact hin
      · have p1 := append_full (e := e) (b := b) (a := a) (t := T) hq.out.fine hX8 hSX'.out r hfit
        rw [p1] at hA
        have hA' := Lib.hid hA
        clear hA p1
        go_wp2_with fail
        go_at_call 17
        refine hA'.out.mono ?_
        rintro e9 u1 ⟨pv1, rfl, hl1, hk1, hf1⟩
        obtain ⟨f1, f2, f3, f4, f5, f6, f7, f8⟩ := hq.out.turn hl1 hk1 hf1
        have hq1 : Hid (SyPart w Q L D g n S a b e T R1 RA (P + 10 * k) u1 pv1 st X cv mv nv fl) := ⟨hl1, f1, f2, hq.out.boxQ, f3, hq.out.fine, hq.out.sess, hq.out.ht, hq.out.pend, f4, f5, f6, hq.out.moreQ, f7, f8⟩
        clear f1 f2 f3 f4 f5 f6 f7 f8 hl1 hk1 hf1 hA' d1' hcell3
        go_wp2_with fail
        go_at_call 18
        have hbz : Below u1.heap.size u1 (u1.alloc (.cells #[.string r] 9)) := (Below.refl _ _).alloc (Nat.le_refl _) _
        have hsu : StrsUnder (u1.alloc (.cells #[.string r] 9)).heap.size (u1.alloc (.cells #[.string r] 9)) (.slice (some ⟨u1.heap.size, 0, none⟩) 1 1) [r] := str_single u1 r
        refine (need_walk _ _ [r] hsu (by simpa using hr65) (by simp)).mono ?_
        rintro e9 u2 ⟨rfl, hb2⟩
        rw [show needN [r] = nfr r by simp [needN]]
        have hq2 := Lib.hid (hq1.out.quiet (hbz.trans (hb2.mono hbz.size)))
        clear hbz hsu hb2
        have hfit2 : (S : Int) - (T : Int) < (nfr r : Int) := by omega
        generalize hnfd : nfr r = nf at *
        have hnfd' := Lib.hid hnfd
        clear hnfd
        go_wp2_with fail
        refine ⟨⟨k + 1, by omega, by go_num, ?_⟩, by simp [intOf]; omega⟩
        rw [hac'.out, if_neg hfit, List.append_nil, hT'.out, hRA'.out]
        exact SyAt.more ⟨_, _, _, _, _, _, _, hq2.out⟩ (by omega)
    · obtain rfl : k = x.recs.length := by omega
      rw [List.take_of_length_le (l := x.recs) (Nat.le_refl x.recs.length)] at hB'
      go_wp2_with fail
      go_ret
      exact ⟨rfl, hB'.out.more (by omega)⟩
end Go.Proofs.Ytlhnhhjpjkgogaa.wl
