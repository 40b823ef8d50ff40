/- The walk of confluentlaw47.DiskClones. -/
import Derived.Test.YtakehkoicinlbaaDAlt
namespace Go.Proofs.Ytakehkoicinlbaa.dk
open Go.RowKit Go.Proofs.Ytakehkoicinlbaa.agg

theorem few20 {l : List ActV} (h : fewB l 20 = true) : (∀ x ∈ l, x.sv.length ≤ 60) ∧ l.length ≤ 20 := by
  obtain ⟨h1, h2⟩ := fewB_true h
  exact ⟨h1, by omega⟩
theorem runAll_take_len (st : St) (l : List ActV) (k : Nat) : (runAll st (l.take k)).dur.length = st.dur.length ∧ (runAll st (l.take k)).pend.length ≤ st.pend.length + l.length := by
  obtain ⟨h1, h2⟩ := runAll_len (l.take k) st
  refine ⟨h1, Nat.le_trans h2 ?_⟩
  rw [List.length_take]; omega

theorem ActsIn.get {B : Nat} {w wr : World} {ao : Option Addr} {n cap : Nat} {l : List ActV} (h : ActsIn B w (.slice ao n cap) l) (hb : Below B w wr) (k : Nat) (hk : k < l.length) :
    ∃ b o, ao = some ⟨b, o, none⟩ ∧ (∀ j u, (acells l[k]).toList[j]? = some u → wr.cell? ⟨b, o + k * 68 + j, none⟩ = some u) ∧ l[k].data.length = 64 ∧ IntsIn B wr l[k].svv l[k].sv ∧ l[k].svv.oneCell' = true := by
  obtain ⟨ao', cap', e, hat⟩ := h.at_
  injection e with e1 e2 e3
  subst e1
  have hmem : l[k] ∈ l := List.getElem_mem hk
  obtain ⟨b, o, rfl, hBb, hc⟩ := hat (by omega)
  obtain ⟨xa, xc, hxv, _⟩ := h.ints l[k] hmem
  exact ⟨b, o, rfl, fun j u hu => (hb.cell (p := ⟨b, o + k * 68 + j, none⟩) hBb).trans (hc k hk j u hu), h.data l[k] hmem, (h.ints l[k] hmem).below hb, by rw [hxv]; rfl⟩
theorem IntsIn.disk {B : Nat} {w : World} {v : Value} {sv : List Int} (h : IntsIn B w v sv) {x : Dk} (hx : ∀ k, x.foot k → B ≤ k) : IntsAt w (dk.foot x.D x.g x.pv) v sv := h.at hx

theorem doit_len64 {w : World} {D g : Nat} {pv : Value} {st : St} (h : DiskIn w D g pv st) (x : ActV) : (st.doit x).2.1.length = 64 := by
  unfold St.doit
  split
  · exact length_zeros
  · split
    · exact length_zeros
    · split
      · exact read_len h _
      · split
        · exact length_zeros
        · split <;> exact length_zeros

set_option maxHeartbeats 8000000 in
theorem clones_walk (w : World) (sectors : Int) (lv : Value) (l : List ActV) (hl : ActsIn w.heap.size w lv l) (hlm : l.length ≤ 9223372036854775807) (mv : Value) (ml : List ActV) (hml : ActsIn w.heap.size w mv ml) (hmlm : ml.length ≤ 9223372036854775807) :
    Calls Try.prog 8 #[.int .i64 sectors, lv, mv] w fun e w' => e = .returned (.bool true) ∧ Below w.heap.size w w' := by
  obtain ⟨al, lcap, rfl, hat⟩ := hl.at_
  clear hat
  obtain ⟨am, mcap, rfl, hmat⟩ := hml.at_
  go_enter Try.func8, Try.ntmps8
  go_wp2_with fail
  refine (awake_calls w).mono ?_
  rintro e w1 ⟨rfl, B1⟩
  go_wp2_with fail
  refine (few_any w.heap.size _ _ l (hl.below B1) 20 hlm).mono ?_
  rintro e w2 ⟨rfl, rfl⟩
  by_cases hfew : fewB l 20 = true
  · go_wp2_with fail
    refine (few_any w.heap.size _ _ ml (hml.below B1) 20 hmlm).mono ?_
    rintro e w2 ⟨rfl, rfl⟩
    by_cases hfew2 : fewB ml 20 = true
    · by_cases h8 : sectors ≤ 8
      · by_cases h1 : sectors < 1
        · go_wp2_with fail
          refine (begin_no sectors (.inl h1) _ _).mono ?_
          rintro e w3 ⟨rfl, rfl⟩
          go_wp2_with fail
          refine (begin_no sectors (.inl h1) _ _).mono ?_
          rintro e w3 ⟨rfl, rfl⟩
          go_wp2
          go_ret
          exact ⟨rfl, B1⟩
        · obtain ⟨m, rfl⟩ := Int.eq_ofNat_of_zero_le (show 0 ≤ sectors by omega)
          obtain ⟨hf1, hf2⟩ := few20 hfew
          obtain ⟨hg1, hg2⟩ := few20 hfew2
          obtain ⟨hq1, hq2⟩ := runAll_len l (St.new m)
          have hq3 : (runAll (St.new m) l).pend.length ≤ 20 := by
            have : (St.new m).pend.length = 0 := rfl
            omega
          have hq4 : (runAll (St.new m) l).dur.length = m := by rw [hq1]; simp [St.new]
          clear hq1 hq2
          go_wp2_with fail
          refine (begin_any w1 m (by omega) (by omega) (B := w.heap.size) B1.size _ l (hl.below B1) (by omega) hf1).mono ?_
          rintro e w3 ⟨D, g, pv, rfl, L3⟩
          have M3 := L3.many
          have B3 := B1.trans (L3.below.mono B1.size)
          clear L3
          go_wp2_with fail
          refine (begin_any w3 m (by omega) (by omega) (B := w.heap.size) B3.size _ l (hl.below B3) (by omega) hf1).mono ?_
          rintro e w4 ⟨Do, go, pvo, rfl, L4⟩
          have M4 := M3.add (Nat.le_refl _) L4.below ⟨Do, go, pvo, runAll (St.new m) l⟩ L4.disk L4.ge
          clear M3 L4 B3
          generalize runAll (St.new m) l = st at *
          have hm1 : 1 ≤ st.dur.length := by omega
          have d4 : DiskIn w4 D g pv st := M4.disk ⟨D, g, pv, st⟩ (by simp)
          go_wp2_with fail
          refine (clone_any _ d4 hm1 (by omega)).mono ?_
          rintro e w5 ⟨Dc, gc, pvc, cc, spc, rfl, hdc, hfc, hbc⟩
          have M5 := M4.add (Nat.le_refl _) hbc ⟨Dc, gc, pvc, st.alt cc spc⟩ hdc hfc
          clear M4 d4 hdc hfc hbc
          have c5 : DiskIn w5 Dc gc pvc (st.alt cc spc) := M5.disk ⟨Dc, gc, pvc, st.alt cc spc⟩ (by simp)
          have e1 : (st.alt cc spc).rd = st.rd := rfl
          have e2 : (st.alt cc spc).wr = st.wr := rfl
          have e3 : (st.alt cc spc).fl = st.fl := rfl
          have e4 : (st.alt cc spc).pend.length = st.pend.length := rfl
          have e5 : (st.alt cc spc).failed = st.failed := rfl
          have e6 : (st.alt cc spc).dur.length = st.dur.length := rfl
          go_wp2_with fail
          refine (counts_any _ c5).mono ?_
          rintro e w6 ⟨rfl, b6⟩
          rw [e1, e2, e3]
          have M6 := M5.quiet (Nat.le_refl _) b6
          clear M5 c5 b6 e1 e2 e3
          have d6 : DiskIn w6 D g pv st := M6.disk ⟨D, g, pv, st⟩ (by simp)
          go_wp2_with fail
          refine (counts_any _ d6).mono ?_
          rintro e w7 ⟨rfl, b7⟩
          have M7 := M6.quiet (Nat.le_refl _) b7
          clear M6 d6 b7
          have d7 : DiskIn w7 D g pv st := M7.disk ⟨D, g, pv, st⟩ (by simp)
          have c7 : DiskIn w7 Dc gc pvc (st.alt cc spc) := M7.disk ⟨Dc, gc, pvc, st.alt cc spc⟩ (by simp)
          go_wp2_with fail
          refine (pending_any _ c7).mono ?_
          rintro e w8 ⟨rfl, rfl⟩
          rw [e4]
          go_wp2_with fail
          refine (pending_any _ d7).mono ?_
          rintro e w8 ⟨rfl, rfl⟩
          go_wp2_with fail
          refine (failed_any _ c7).mono ?_
          rintro e w8 ⟨rfl, rfl⟩
          rw [e5]
          go_wp2_with fail
          refine (failed_any _ d7).mono ?_
          rintro e w8 ⟨rfl, rfl⟩
          go_wp2_with fail
          refine (sectors_any _ c7).mono ?_
          rintro e w8 ⟨rfl, rfl⟩
          rw [e6]
          go_wp2_with fail
          refine (sectors_any _ d7).mono ?_
          rintro e w8 ⟨rfl, rfl⟩
          go_wp2_with fail
          clear e4 e5 e6 c7 d7
          have hz := zact_len
          clear hmat hfew hfew2 hf1 hl
          go_loopw [85] (fun i wr => ∃ k : Nat, k ≤ ml.length ∧ i = .int .i64 k ∧ ∃ pvc', Lives w1.heap.size w1 wr [⟨Dc, gc, pvc', (runAll st (ml.take k)).alt cc spc⟩, ⟨Do, go, pvo, st⟩, ⟨D, g, pv, st⟩])
            (fun i _ => ml.length - (intOf i).toNat)
          case atStart => exact ⟨0, Nat.zero_le _, rfl, pvc, M7⟩
          case round =>
            obtain ⟨k, hk, rfl, pvc', M⟩ := hrel
            clear M7
            have hBr : Below w.heap.size w wr := B1.trans (M.below.mono B1.size)
            by_cases hlt : k < ml.length
            · obtain ⟨b, o, rfl, hck, hxd, hxi, hone⟩ := hml.get hBr k hlt
              have hxs := hg1 _ (List.getElem_mem hlt)
              have hsn := Lib.hid (runAll_snoc st ml k hlt)
              have hq5 := (runAll_take_len st ml k).2
              generalize runAll st (ml.take k) = sk at *
              generalize ml[k] = x at *
              have Mq := M.quiet (Nat.le_refl _) ((Below.refl wr.heap.size wr).alloc (Nat.le_refl _) (.cells (acells x) 35))
              have hdo := do_any _ (Mq.disk ⟨Dc, gc, pvc', sk.alt cc spc⟩ (by simp)) x hxd (by show sk.pend.length < 1000000; omega) ((hxi.below ((Below.refl _ wr).alloc hBr.size _)).disk (x := ⟨Dc, gc, pvc', sk.alt cc spc⟩) (fun q hq => Nat.le_trans B1.size (Mq.ge _ (by simp) q hq))) (by omega)
              rw [alt_doit] at hdo
              have hdo' := Lib.hid hdo
              clear hdo
              have hD := lt_of_block (show DiskIn wr D g pv st from M.disk ⟨D, g, pv, st⟩ (by simp)).blk
              clear M
              go_wp2_with (with_reducible refine wpList_load_cells ag_act rfl (.tmp 87) rfl b (o + k * 68) rfl (acells x) (by rw [size_acells, hxd]) hck ?_)
              refine (hdo'.out).mono ?_
              rintro e w9 ⟨rfl, hd9⟩
              obtain ⟨pvc2, M9⟩ := Mq.done [] (x := ⟨Dc, gc, pvc', sk.alt cc spc⟩) (Nat.le_refl _) hd9
              go_wp2_with fail
              go_roundw
              case rel => exact ⟨k + 1, by omega, by go_num, pvc2, by rw [hsn.out]; exact M9⟩
              case measure => simp [intOf]; omega
            · obtain rfl : k = ml.length := by omega
              rw [List.take_length] at M
              go_wp2_with fail
              clear hlt hk
              go_loopw [95] (fun i wr => ∃ k : Nat, k ≤ ml.length ∧ i = .int .i64 k ∧ ∃ pvo' pv', Lives w1.heap.size w1 wr [⟨Dc, gc, pvc', (runAll st ml).alt cc spc⟩, ⟨Do, go, pvo', runAll st (ml.take k)⟩, ⟨D, g, pv', runAll st (ml.take k)⟩])
                (fun i _ => ml.length - (intOf i).toNat)
              case atStart => exact ⟨0, Nat.zero_le _, rfl, pvo, pv, M⟩
              case round =>
                obtain ⟨k, hk, rfl, pvo', pv', M'⟩ := hrel
                clear M hBr
                have hBr : Below w.heap.size w wr := B1.trans (M'.below.mono B1.size)
                by_cases hlt : k < ml.length
                · obtain ⟨b, o, rfl, hck, hxd, hxi, hone⟩ := hml.get hBr k hlt
                  have hxs := hg1 _ (List.getElem_mem hlt)
                  have hsn := Lib.hid (runAll_snoc st ml k hlt)
                  have hq5 := (runAll_take_len st ml k).2
                  generalize runAll st (ml.take k) = sk at *
                  generalize ml[k] = x at *
                  have Mq := M'.quiet (Nat.le_refl _) ((Below.refl wr.heap.size wr).alloc (Nat.le_refl _) (.cells (acells x) 35))
                  have hlt1 := (show DiskIn wr D g pv' sk from M'.disk ⟨D, g, pv', sk⟩ (by simp)).lt
                  have hlt2 := (show DiskIn wr Do go pvo' sk from M'.disk ⟨Do, go, pvo', sk⟩ (by simp)).lt
                  have c1 := heap_alloc_new wr (.cells (acells x) 35)
                  have hl64 := doit_len64 (show DiskIn wr D g pv' sk from M'.disk ⟨D, g, pv', sk⟩ (by simp)) x
                  have hdo := do_any _ (Mq.disk ⟨D, g, pv', sk⟩ (by simp)) x hxd (by show sk.pend.length < 1000000; omega) ((hxi.below ((Below.refl _ wr).alloc hBr.size _)).disk (x := ⟨D, g, pv', sk⟩) (fun q hq => Nat.le_trans B1.size (Mq.ge _ (by simp) q hq))) (by omega)
                  have hdo' := Lib.hid hdo
                  have hxi2 := hxi.below ((Below.refl _ wr).alloc hBr.size (.cells (acells x) 35))
                  clear M' hdo
                  have hwx : wr.heap.size < (wr.alloc (.cells (acells x) 35)).heap.size := by simp
                  go_wp2_with (with_reducible refine wpList_load_cells ag_act rfl (.tmp 97) rfl b (o + k * 68) rfl (acells x) (by rw [size_acells, hxd]) hck ?_)
                  refine (hdo'.out).mono ?_
                  rintro e w9 ⟨rfl, hd9⟩
                  have c9 : w9.heap[wr.heap.size]? = some (.cells (acells x) 35 (0, 0)) := by
                    obtain ⟨pvx, _, hkx, _⟩ := hd9
                    exact (hkx.block _ hwx (fun h => by have := hlt1 _ h; omega)).trans c1
                  obtain ⟨pv2, M9⟩ := Mq.done [⟨Dc, gc, pvc', (runAll st ml).alt cc spc⟩, ⟨Do, go, pvo', sk⟩] (x := ⟨D, g, pv', sk⟩) (q := []) (Nat.le_refl _) hd9
                  have b9 : Below w.heap.size (wr.alloc (.cells (acells x) 35)) w9 := by
                    obtain ⟨pvx, _, hkx, _⟩ := hd9
                    exact hkx.below _ (Nat.le_trans hBr.size (Nat.le_of_lt hwx)) (fun q hq => Nat.le_trans B1.size (Mq.ge ⟨D, g, pv', sk⟩ (by simp) q hq))
                  have hxi9 := hxi2.below b9
                  clear hdo' hd9 Mq c1 hck hxi hxi2 b9
                  generalize hres : (sk.doit x).2 = res at *
                  have hres' := Lib.hid hres
                  clear hres
                  have s9 := lt_of_block c9
                  have r9 := rowOf_of c9
                  go_wp2_with fail
                  have Mr := M9.quiet (Nat.le_refl _) ((Below.refl w9.heap.size w9).alloc (Nat.le_refl _) (.cells (sec res.1) 23))
                  have hdo2 := do_any _ (Mr.disk ⟨Do, go, pvo', sk⟩ (by simp)) x hxd (by show sk.pend.length < 1000000; omega) ((hxi9.below ((Below.refl _ w9).alloc (Nat.le_trans B1.size M9.below.size) (.cells (sec res.1) 23))).disk (x := ⟨Do, go, pvo', sk⟩) (fun q hq => Nat.le_trans B1.size (Mr.ge _ (by simp) q hq))) (by omega)
                  rw [hres'.out] at hdo2
                  have c10 := heap_alloc_new w9 (.cells (sec res.1) 23)
                  clear M9
                  generalize w9.alloc (.cells (sec res.1) 23) = w10 at *
                  refine hdo2.mono ?_
                  rintro e w11 ⟨rfl, hd11⟩
                  have c12 : w11.heap[w9.heap.size]? = some (.cells (sec res.1) 23 (0, 0)) := by
                    obtain ⟨pvx, _, hkx, _⟩ := hd11
                    exact (hkx.block w9.heap.size (lt_of_block c10) (fun h => by have := hlt2 _ h; omega)).trans c10
                  obtain ⟨pvo2, M11⟩ := Mr.done [⟨Dc, gc, pvc', (runAll st ml).alt cc spc⟩] (x := ⟨Do, go, pvo', sk⟩) (Nat.le_refl _) hd11
                  have hst11 : (sk.doit x).1 = runAll st (ml.take (k + 1)) := hsn.out.symm
                  have M11' : Lives w1.heap.size w1 w11 [⟨Dc, gc, pvc', (runAll st ml).alt cc spc⟩, ⟨Do, go, pvo2, runAll st (ml.take (k + 1))⟩, ⟨D, g, pv2, runAll st (ml.take (k + 1))⟩] := by
                    rw [← hst11]; exact M11
                  have Mf := M11'.quiet (Nat.le_refl _) ((Below.refl w11.heap.size w11).alloc (Nat.le_refl _) (.cells (sec res.1) 23))
                  have r13 := rowOf_of ((((Below.refl _ w11).alloc (Nat.le_refl _) (.cells (sec res.1) 23)).block w9.heap.size (lt_of_block c12)).trans c12)
                  have l12 := lt_of_block c12
                  clear Mr hdo2 hd11 c10 c12 M11 M11' hst11 hlt1 hlt2
                  go_wp2_with fail
                  go_roundw
                  case rel => exact ⟨k + 1, by omega, by go_num, pvo2, pv2, Mf⟩
                  case measure => simp [intOf]; omega
                · obtain rfl : k = ml.length := by omega
                  rw [List.take_length] at M'
                  obtain ⟨hr1, hr2⟩ := runAll_len ml st
                  have hx1 : (runAll st ml).dur.length = m := by omega
                  have hx2 : (runAll st ml).pend.length ≤ 40 := by omega
                  generalize runAll st ml = sx at *
                  clear hlt hk hr1 hr2 hg1 hml hq3 hq4 hm1
                  have d12 : DiskIn wr D g pv' sx := M'.disk ⟨D, g, pv', sx⟩ (by simp)
                  go_wp2_with fail
                  refine (sectors_any _ d12).mono ?_
                  rintro e w13 ⟨rfl, rfl⟩
                  rw [hx1]
                  clear d12
                  go_wp2_with fail
                  go_loopw [122] (fun i wr => ∃ n : Nat, n ≤ m ∧ i = .int .i64 n ∧ ∃ xd : St, xd.dur.length = m ∧ xd.pend.length ≤ 40 ∧ Lives w1.heap.size w1 wr [⟨Dc, gc, pvc', xd.alt cc spc⟩, ⟨Do, go, pvo', sx⟩, ⟨D, g, pv', xd⟩])
                    (fun i _ => m - (intOf i).toNat)
                  case atStart => exact ⟨0, Nat.zero_le _, rfl, sx, hx1, hx2, M'⟩
                  case round =>
                    obtain ⟨n, hn, rfl, xd, hy1, hy2, M⟩ := hrel
                    clear M' hx1 hx2
                    by_cases hlt : n < m
                    · have d1 : DiskIn wr D g pv' xd := M.disk ⟨D, g, pv', xd⟩ (by simp)
                      have fl := read_len d1 n
                      obtain ⟨hp1, hp2⟩ := read_pend xd n
                      have hal := alt_read xd cc spc n
                      generalize hres : (xd.read n).2 = res at *
                      go_wp2_with fail
                      refine (read_any _ d1 n (by omega)).mono ?_
                      rintro e w14 ⟨rfl, hd14⟩
                      have M14 := M.applied [⟨Dc, gc, pvc', xd.alt cc spc⟩, ⟨Do, go, pvo', sx⟩] (x := ⟨D, g, pv', xd⟩) (q := []) (Nat.le_refl _) hd14
                      have fc14 := (show DiskIn w14 Dc gc pvc' (xd.alt cc spc) from M14.disk ⟨Dc, gc, pvc', xd.alt cc spc⟩ (by simp)).lt
                      have M15 := M14.quiet (Nat.le_refl _) ((Below.refl w14.heap.size w14).alloc (Nat.le_refl _) (.cells (sec res.1) 23))
                      have c14 := heap_alloc_new w14 (.cells (sec res.1) 23)
                      have a1 : DiskIn _ Dc gc pvc' (xd.alt cc spc) := M15.disk ⟨Dc, gc, pvc', xd.alt cc spc⟩ (by simp)
                      rw [hres]
                      have hal1 : ((xd.alt cc spc).read n).1 = (xd.read n).1.alt cc spc := by rw [hal]
                      have hal2 : ((xd.alt cc spc).read n).2 = res := by rw [hal]
                      clear hd14 M d1 M14 hal hres
                      go_wp2_with fail
                      generalize w14.alloc (.cells (sec res.1) 23) = w15 at *
                      refine (read_any _ a1 n (by show xd.pend.length < 1000000; omega)).mono ?_
                      rintro e w16 ⟨rfl, hd16⟩
                      have M16 := M15.applied [] (x := ⟨Dc, gc, pvc', xd.alt cc spc⟩) (Nat.le_refl _) hd16
                      have c16 := (hd16.2.block w14.heap.size (lt_of_block c14) (fun h => by have := fc14 _ h; omega)).trans c14
                      rw [hal2]
                      have M16' : Lives w1.heap.size w1 w16 [⟨Dc, gc, pvc', (xd.read n).1.alt cc spc⟩, ⟨Do, go, pvo', sx⟩, ⟨D, g, pv', (xd.read n).1⟩] := by
                        rw [← hal1]; exact M16
                      have M17 := M16'.quiet (Nat.le_refl _) ((Below.refl w16.heap.size w16).alloc (Nat.le_refl _) (.cells (sec res.1) 23))
                      have r17 := rowOf_of ((((Below.refl _ w16).alloc (Nat.le_refl _) (.cells (sec res.1) 23)).block w14.heap.size (lt_of_block c16)).trans c16)
                      have l16 := lt_of_block c16
                      clear hd16 M15 a1 c14 c16 M16 M16' hal1 hal2 fc14
                      go_wp2_with fail
                      go_roundw
                      case rel => exact ⟨n + 1, by omega, by go_num, (xd.read n).1, by rw [hp1]; exact hy1, by rw [hp2]; exact hy2, M17⟩
                      case measure => simp [intOf]; omega
                    · obtain rfl : n = m := by omega
                      have d1 : DiskIn wr D g pv' xd := M.disk ⟨D, g, pv', xd⟩ (by simp)
                      have a1 : DiskIn wr Dc gc pvc' (xd.alt cc spc) := M.disk ⟨Dc, gc, pvc', xd.alt cc spc⟩ (by simp)
                      have e1 : (xd.alt cc spc).rd = xd.rd := rfl
                      have e2 : (xd.alt cc spc).wr = xd.wr := rfl
                      have e3 : (xd.alt cc spc).fl = xd.fl := rfl
                      have e4 : (xd.alt cc spc).pend.length = xd.pend.length := rfl
                      go_wp2_with fail
                      refine (counts_any _ a1).mono ?_
                      rintro e w14 ⟨rfl, b14⟩
                      rw [e1, e2, e3]
                      have M14 := M.quiet (Nat.le_refl _) b14
                      clear e1 e2 e3 M a1 d1 b14
                      have d2 : DiskIn w14 D g pv' xd := M14.disk ⟨D, g, pv', xd⟩ (by simp)
                      go_wp2_with fail
                      refine (counts_any _ d2).mono ?_
                      rintro e w15 ⟨rfl, b15⟩
                      have M15 := M14.quiet (Nat.le_refl _) b15
                      clear M14 d2 b15
                      have d3 : DiskIn w15 D g pv' xd := M15.disk ⟨D, g, pv', xd⟩ (by simp)
                      have a3 : DiskIn w15 Dc gc pvc' (xd.alt cc spc) := M15.disk ⟨Dc, gc, pvc', xd.alt cc spc⟩ (by simp)
                      go_wp2_with fail
                      refine (pending_any _ a3).mono ?_
                      rintro e w16 ⟨rfl, rfl⟩
                      rw [e4]
                      clear e4
                      go_wp2_with fail
                      refine (pending_any _ d3).mono ?_
                      rintro e w17 ⟨rfl, rfl⟩
                      go_wp2
                      go_ret
                      exact ⟨rfl, B1.trans (M15.below.mono B1.size)⟩
      · go_wp2
        go_ret
        exact ⟨rfl, B1⟩
    · have hfew' : fewB ml 20 = false := by simpa using hfew2
      clear hfew2
      go_wp2
      go_ret
      exact ⟨rfl, B1⟩
  · have hfew' : fewB l 20 = false := by simpa using hfew
    clear hfew
    go_wp2
    go_ret
    exact ⟨rfl, B1⟩
end Go.Proofs.Ytakehkoicinlbaa.dk
