/- The walk of WalSynced. -/
import Derived.Test.YtlhnhhjpjkgogaaWSyncBase
import Derived.Deep.RegionLaw
import Derived.Deep.CutBlock
import Derived.BigRegion
namespace Go.Proofs.Ytlhnhhjpjkgogaa.wl
open Go.RowKit Go.Proofs.Ytlhnhhjpjkgogaa.agg Go.Proofs.Ytlhnhhjpjkgogaa.dk
set_option linter.unusedSimpArgs false
set_option linter.unusedVariables false

/-- The call that only bears records. -/
def bare (v : Value) (l : List ByteArray) : ActW := ⟨0, v, l, .slice none 0 0, [], 0⟩
theorem bare_in {B : Nat} {w W : World} {v : Value} {l : List ByteArray} (h : StrsUnder B w v l) (hB : B ≤ W.heap.size) (hb : Below B w W) :
    ActsW (W.alloc (.cells (bare v l).cells 49)).heap.size (W.alloc (.cells (bare v l).cells 49)) (.slice (some ⟨W.heap.size, 0, none⟩) 1 1) [bare v l] := by
  have hb2 : Below B w (W.alloc (.cells (bare v l).cells 49)) := hb.trans (((Below.refl _ W).alloc (Nat.le_refl _) _).mono hB)
  refine ⟨⟨some ⟨W.heap.size, 0, none⟩, 1, rfl, fun _ => ⟨W.heap.size, 0, rfl, by simp, fun i hi j u hu => ?_⟩⟩, fun x hx => ?_, fun x hx => ?_⟩
  · have : i = 0 := by simpa using hi
    subst this
    have := cells_new W (bare v l).cells 49 j u hu
    rw [Addr.add_lit] at this
    simpa using this
  · rw [List.mem_singleton.1 hx]
    exact (h.below hb2).mono (by simp; omega)
  · rw [List.mem_singleton.1 hx]
    exact ⟨none, 0, rfl, fun h0 => by simp [bare] at h0⟩
theorem few_bare {B : Nat} {w W : World} {v : Value} {l : List ByteArray} (h : StrsUnder B w v l) (hB : B ≤ W.heap.size) (hb : Below B w W) :
    Calls Try.prog 13 #[.slice (some ⟨W.heap.size, 0, none⟩) 1 1, .int .i64 1] (W.alloc (.cells #[.int .i64 0, v, .slice none 0 0, .int .i64 0] 49)) fun e w' => e = .returned (.bool (fewOk (bare v l))) ∧ (W.alloc (.cells #[.int .i64 0, v, .slice none 0 0, .int .i64 0] 49)) = w' := by
  have h1 := few48_any _ _ _ _ (bare_in h hB hb) 1 (by simp)
  have e : fewW [bare v l] 1 = fewOk (bare v l) := by simp [fewW]
  rw [e] at h1
  exact h1
theorem bare_true {v : Value} {l : List ByteArray} (h : fewOk (bare v l) = true) : l.length ≤ 6 ∧ ∀ r ∈ l, r.size ≤ 300 := by
  unfold fewOk at h
  simp only [Bool.and_eq_true, List.all_eq_true, decide_eq_true_eq] at h
  exact ⟨h.1.1, h.2⟩

attribute [local go_sem ↓] load_actS store_actS
attribute [local go_sem] size_actS over_actS cut_actS
set_option maxRecDepth 100000 in
set_option maxHeartbeats 8000000 in
theorem synced_walk (w : World) (sectors : Int) (v1 : Value) (l : List ActW) (hl : ActsW w.heap.size w v1 l) (hlm : l.length ≤ 9223372036854775807) (v2 : Value) (later : List ByteArray) (hla : StrsUnder w.heap.size w v2 later) (hlam : later.length ≤ 9223372036854775807)
    (v3 : Value) (sv : List Int) (hsv : IntsUnder w.heap.size w v3 sv) (hsvm : sv.length ≤ 9223372036854775807) :
    Calls Try.prog 6 #[.int .i64 sectors, v1, v2, v3] w fun e w' => e = .returned (.bool true) ∧ Below w.heap.size w w' := by
  obtain ⟨al, lcap, rfl, hat⟩ := hl.at_
  have hl' := Lib.hid hl
  have hla' := Lib.hid hla
  have hsv' := Lib.hid hsv
  have hfc := Lib.hid (fun (W : World) (hb : Below w.heap.size w W) => few48_any w.heap.size W _ l (hl.below hb) 12 hlm)
  have hfb := Lib.hid (fun (W : World) (hb : Below w.heap.size w W) => few_bare hla hb.size hb)
  obtain ⟨ao2, cap2, rfl, _⟩ := hla
  obtain ⟨ao3, cap3, rfl, _⟩ := hsv
  clear hat hl
  cases hfw : fewW l 12 with
  | false =>
    go_enter Try.func6, Try.ntmps6
    go_wp2_with (first
      | (go_at_call 8; refine (awake_walk _).mono ?_; rintro e w1 ⟨rfl, hb1⟩)
      | (go_at_call 13; refine (hfc.out _ hb1).mono ?_; rintro e _ ⟨rfl, rfl⟩; rw [hfw]))
    go_ret
    exact ⟨rfl, hb1⟩
  | true =>
  cases hfb2 : fewOk (bare (.slice ao2 later.length cap2) later) with
  | false =>
    go_enter Try.func6, Try.ntmps6
    go_wp2_with (first
      | (go_at_call 8; refine (awake_walk _).mono ?_; rintro e w1 ⟨rfl, hb1⟩)
      | (go_at_call 13; with_reducible refine (hfc.out _ hb1).mono ?_; rintro e _ ⟨rfl, rfl⟩; rw [hfw])
      | (go_at_call 13; with_reducible refine (hfb.out w1 hb1).mono ?_; rintro e _ ⟨rfl, rfl⟩; rw [hfb2]))
    go_ret
    exact ⟨rfl, hb1.alloc hb1.size _⟩
  | true =>
    by_cases h40 : 40 < sectors
    · go_enter Try.func6, Try.ntmps6
      go_wp2_with (first
        | (go_at_call 8; refine (awake_walk _).mono ?_; rintro e w1 ⟨rfl, hb1⟩)
        | (go_at_call 13; with_reducible refine (hfc.out _ hb1).mono ?_; rintro e _ ⟨rfl, rfl⟩; rw [hfw])
        | (go_at_call 13; with_reducible refine (hfb.out w1 hb1).mono ?_; rintro e _ ⟨rfl, rfl⟩; rw [hfb2]))
      go_ret
      exact ⟨rfl, hb1.alloc hb1.size _⟩
    by_cases h80 : 80 < sv.length
    · have h80' : (80 : Int) < sv.length := by omega
      go_enter Try.func6, Try.ntmps6
      go_wp2_with (first
        | (go_at_call 8; refine (awake_walk _).mono ?_; rintro e w1 ⟨rfl, hb1⟩)
        | (go_at_call 13; with_reducible refine (hfc.out _ hb1).mono ?_; rintro e _ ⟨rfl, rfl⟩; rw [hfw])
        | (go_at_call 13; with_reducible refine (hfb.out w1 hb1).mono ?_; rintro e _ ⟨rfl, rfl⟩; rw [hfb2]))
      go_ret
      exact ⟨rfl, hb1.alloc hb1.size _⟩
    have h80' : ¬ (80 : Int) < sv.length := by omega
    by_cases h8 : sectors < 8
    · go_enter Try.func6, Try.ntmps6
      go_wp2_with (first
        | (go_at_call 8; refine (awake_walk _).mono ?_; rintro e w1 ⟨rfl, hb1⟩)
        | (go_at_call 13; with_reducible refine (hfc.out _ hb1).mono ?_; rintro e _ ⟨rfl, rfl⟩; rw [hfw])
        | (go_at_call 13; with_reducible refine (hfb.out w1 hb1).mono ?_; rintro e _ ⟨rfl, rfl⟩; rw [hfb2])
        | (go_at_call 30; refine (begin48_few _ _ h8).mono ?_; rintro e w2 ⟨rfl, hb2⟩))
      go_ret
      exact ⟨rfl, (hb1.alloc hb1.size _).trans (hb2.mono (hb1.alloc hb1.size _).size)⟩
    obtain ⟨n, rfl⟩ : ∃ n : Nat, sectors = n := ⟨sectors.toNat, by omega⟩
    have hn8 : 8 ≤ n := by omega
    have hn40 : n ≤ 40 := by omega
    go_enter Try.func6, Try.ntmps6
    go_upto_region 8 with (first
        | (go_at_call 8; refine (awake_walk _).mono ?_; rintro e w1 ⟨rfl, hb1⟩)
        | (go_at_call 13; with_reducible refine (hfc.out _ hb1).mono ?_; rintro e _ ⟨rfl, rfl⟩; rw [hfw])
        | (go_at_call 13; with_reducible refine (hfb.out w1 hb1).mono ?_; rintro e _ ⟨rfl, rfl⟩; rw [hfb2])
        | (go_at_call 30; refine (begin48_walk _ n hn8 hn40).mono ?_; rintro e w2 ⟨Q, L, D, g, pv0, rfl, hl2, hx2, hlv2, hF2, hQ2, hb2⟩))
    have hb1a := hb1.alloc hb1.size (.cells (bare (.slice ao2 later.length cap2) later).cells 49)
    have hsy : Hid (SyAt w Q L D g n ((n - 2) / 2) 0 0 1 0 [] [] 0 w2) := sy_start hn8 (by omega) hl2 hx2 (fun q hq => Nat.le_trans hb1a.size (hlv2 q hq)) hF2 (Nat.le_trans hb1a.size hQ2) (hb1a.trans (hb2.mono hb1a.size))
    clear hb1a hb1 hl2 hx2 hlv2 hF2 hQ2 hb2 hfb hfc
    have h20 := Lib.hid (fewW_true hfw)
    have hl20 : l.length ≤ 12 := by have := (fewW_true hfw).2; omega
    have hla6 := Lib.hid (bare_true hfb2)
    have hlal : later.length ≤ 6 := (bare_true hfb2).1
    clear hfw hfb2
    obtain ⟨S, hS⟩ : ∃ S, S = (n - 2) / 2 := ⟨_, rfl⟩
    rw [← hS] at hsy
    have hS' := Lib.hid hS
    clear hS
    go_wp2_with fail
    go_loopw [48] (fun i wr => ∃ (k a b e t : Nat) (R1 R2 : List ByteArray), k ≤ l.length ∧ i = .int .i64 k ∧ SyAt w Q L D g n S a b e t R1 R2 (60 * k) wr ∧ e ≤ 1 + k ∧ R1.length + R2.length ≤ 6 * k) (fun i _ => l.length - (intOf i).toNat)
    case atStart => exact ⟨0, 0, 0, 1, 0, [], [], Nat.zero_le _, rfl, hsy.out, Nat.le_refl _, Nat.le_refl _⟩
    case round =>
      obtain ⟨k, a, b, e, t, R1, R2, hk, rfl, hB, he, hR⟩ := hrel
      have hB' := Lib.hid hB
      clear hB hsy
      by_cases hlt : k < l.length
      · have hlt' : k < l.length := hlt
        have hbw : Below w.heap.size w wr := by
          obtain ⟨_, _, _, _, _, _, _, h⟩ := hB'.out
          exact h.below
        obtain ⟨ao, acap, hac, hat⟩ := (hl'.out.below hbw).at_
        injection hac with e1 e2 e3
        obtain ⟨ab, ai, hab, haB, hcl⟩ := hat (by omega)
        rw [e1, hab]
        have hcx := hcl k hlt'
        have hxs1 := Lib.hid (hl'.out.strs l[k] (List.getElem_mem hlt'))
        have hxs2 := Lib.hid (hl'.out.ints l[k] (List.getElem_mem hlt'))
        have hx20 := Lib.hid (h20.out.1 l[k] (List.getElem_mem hlt'))
        have hone := one_actS hl'.out (List.getElem_mem hlt')
        clear hat hcl e1 e2 e3 hab hbw
        generalize l[k] = x at *
        go_upto_region 11 with (with_reducible refine wpList_load_cells ag_actS rfl (.tmp 50) rfl ab (ai + k * 4) rfl x.cells (size_actS x) hcx ?_)
        have hb1 : Below wr.heap.size wr (wr.alloc (.cells x.cells 49)) := (Below.refl _ _).alloc (Nat.le_refl _) _
        have hbox : (wr.alloc (.cells x.cells 49)).heap[wr.heap.size]? = some (.cells x.cells 49 (0, 0)) := heap_alloc_new _ _
        have y0 : (wr.alloc (.cells x.cells 49)).cell? ⟨wr.heap.size, 0, none⟩ = some (.int .i64 x.kind) := (cell_of_row _ _ _ _ _ _ hbox).trans rfl
        have r0 := rowOf_of hbox
        have hB1 : Hid (SyAt w Q L D g n S a b e t R1 R2 (60 * k) (wr.alloc (.cells x.cells 49))) := hB'.out.quiet hb1
        clear hb1 hbox hcx hB'
        generalize wr.alloc _ = W1 at *
        generalize wr.heap.size = Z at *
        by_cases hk2 : x.kind ≤ 2
        · have hDo := Lib.hid (do_any hB1.out (by omega) x hxs1.out hxs2.out hx20.out.1 hx20.out.2.2 hk2 (by omega) (by omega))
          go_wp2_with (go_at_call 31; refine hDo.out.mono ?_; rintro e9 u1 ⟨rfl, a', b', e', t', R1', R2', g1, g2, hW'⟩; have hW1 := Lib.hid hW'; clear hW' r0 y0)
          go_roundw
          case rel => exact ⟨k + 1, a', b', e', t', R1', R2', by omega, by go_num, hW1.out.more (by omega), by omega, by omega⟩
          case measure => simp [intOf]; omega
        · have hk3 : ¬ x.kind ≤ 2 := hk2
          go_wp2_with fail
          go_roundw
          case rel => exact ⟨k + 1, a, b, e, t, R1, R2, by omega, by go_num, hB1.out.more (by omega), by omega, by omega⟩
          case measure => simp [intOf]; omega
      · obtain rfl : k = l.length := by omega
        obtain ⟨pv, st, X, cv, mv, nv, fl, hp⟩ := hB'.out
        have hp' := Lib.hid hp
        obtain ⟨d0, d1, d2, d3, d4⟩ := hp.cell
        have hpl := hp.pend
        obtain ⟨p1, p2, p3⟩ := sync_fine (e := e) (b := b) (a := a) (t := t) hp.fine
        have hSy := sync_walk hp.log (by omega)
        rw [p1] at hSy
        have hSy' := Lib.hid hSy
        have p2' := Lib.hid p2
        have p3' := Lib.hid p3
        clear hp hB' hSy p1 p2 p3 d0 d2 d3 d4
        go_upto_region 16 with (go_at_call 21; refine hSy'.out.mono ?_; rintro e9 u1 ⟨pv1, rfl, hl1, hk1, hf1⟩)
        obtain ⟨f1, f2, f3, f4, f5, f6, f7, f8⟩ := hp'.out.turn hl1 hk1 hf1
        have f1' := Lib.hid f1
        have f2' := Lib.hid f2
        have f3' := Lib.hid f3
        have f8' := Lib.hid f8
        have hl1' := Lib.hid hl1
        have hcs' := Lib.hid f4
        have hms' := Lib.hid (own_strs f6)
        have hQ1 := lt_of_block f2
        have c2 : u1.cell? ⟨Q, 2, none⟩ = some cv := (cell_of_row _ _ _ _ _ _ f2).trans rfl
        have c3 : u1.cell? ⟨Q, 3, none⟩ = some mv := (cell_of_row _ _ _ _ _ _ f2).trans rfl
        clear f1 f2 f3 f4 f5 f6 f7 f8 hl1 hk1 hf1 hSy' d1
        obtain ⟨i0, hi, hz0, hz1, hz2⟩ := info_parts info_strA
        have hXd : Hid (st.flush.1.dur = X) := visible_dur p2'.out p3'.out
        go_cut [12] (fun av wx => (∃ ao2 cc2, av = .slice ao2 (R1.length + R2.length) cc2 ∧ RowB u1.heap.size wx 9 1 av (R1.length + R2.length) (strsV R1 ++ strsV R2)) ∧ Below u1.heap.size u1 wx)
        case first =>
          go_region_law (first
            | (refine step_append_rd rfl (.tmp 68) (.tmp 72) 35 rfl u1.heap.size 9 i0 _ 1 16 Try.underlying35 hi hz0 hz1 hz2 (by decide) _ 0 [] rfl (.inl ⟨rfl, rfl, .inr ⟨_, rfl⟩⟩) _ R1.length (strsV R1) rfl ((hcs'.out.below (by repeat (first | exact Below.refl _ _ | apply bl_drew | apply bl_alloc))).rd) (strsV_one _) (by unfold maxLen; omega) (by omega) (by first | exact Nat.le_refl _ | simp) ?_; intro ao1 cc1 wa hrow1 hba; (simp only [Nat.zero_add, List.nil_append] at hrow1); have hwa : Below u1.heap.size u1 wa := Below.trans (by repeat (first | exact Below.refl _ _ | apply bl_drew | apply bl_alloc)) hba; have hQa := Nat.lt_of_lt_of_le hQ1 hwa.size; have c2a := (hwa.cell (p := ⟨Q, 2, none⟩) hQ1).trans c2; have c3a := (hwa.cell (p := ⟨Q, 3, none⟩) hQ1).trans c3)
            | (refine step_append_rd rfl (.tmp 73) (.tmp 77) 35 rfl u1.heap.size 9 i0 _ 1 16 Try.underlying35 hi hz0 hz1 hz2 (by decide) _ R1.length (strsV R1) rfl (hrow1.below (by repeat (first | exact Below.refl _ _ | apply bl_drew | apply bl_alloc))) _ R2.length (strsV R2) rfl ((hms'.out.below (Below.trans hwa (by repeat (first | exact Below.refl _ _ | exact (Below.refl _ _).mono hwa.size | apply Below.drew)))).rd) (strsV_one _) (by unfold maxLen; omega) (by omega) (by first | exact hwa.size | (simp; exact hwa.size)) ?_; intro ao2 cc2 wb hrow2 hbb; have hwb : Below u1.heap.size u1 wb := Below.trans hwa (Below.trans (by repeat (first | exact Below.refl _ _ | exact (Below.refl _ _).mono hwa.size | apply Below.drew)) hbb)))
          all_goals
            go_wp2_with fail
            go_meet
            exact ⟨⟨_, _, rfl, hrow2⟩, hwb⟩
        case rest =>
          obtain ⟨⟨ao9, cc9, rfl, hrow9⟩, hb9⟩ := hcut
          rw [← strsV_app] at hrow9
          obtain ⟨hall, hablk⟩ := rowB_in hrow9 (by rw [List.length_append])
          have hsess := Lib.hid hp'.out.sess
          have hbox9 := (hb9.block Q hQ1).trans f2'.out
          have hht := hp'.out.ht
          have hroom : t ≤ S := by rw [hht]; exact hp'.out.sess.room
          have hht' := Lib.hid hht
          have ha := hp'.out.sess.ha
          obtain ⟨G, hG⟩ : ∃ G : Nat → Prop, G = fun q => q = Q ∨ (0 < (R1 ++ R2).length ∧ sBlock (.slice ao9 (R1.length + R2.length) cc9) = some q) := ⟨_, rfl⟩
          have hL0 : Hid (LateAt w wc G L D g n S a b e t X [] (.slice none 0 0) wc) := by
            refine ⟨pv1, st.flush.1, X, ?_, f1'.out, p2'.out, hp'.out.sess.len, hXd.out, by rw [p3'.out]; rfl, fun q hq => ?_, fun q _ => rfl, World.ownsRow_nil _ _ _ _, fun q hq => by simp [Value.ownBlock] at hq, f8'.out.trans (hb9.mono f8'.out.size), Nat.le_refl _, by simpa [needN] using hroom, Nat.le_trans f8'.out.size hb9.size⟩
            · exact hl1'.out.below hb9
            · rw [hG] at hq
              have h1 := hb9.size
              have h2 := f8'.out.size
              rcases hq with rfl | ⟨h0, hq⟩
              · exact ⟨by omega, hp'.out.boxQ, f3'.out⟩
              · obtain ⟨g1, g2⟩ := hablk h0 q hq
                exact ⟨g2, by omega, fun e1 => by have := hl1'.out.lt q e1; omega⟩
          have hGQ : G Q := by rw [hG]; exact .inl rfl
          have hGa : Hid (0 < (R1 ++ R2).length → ∀ q, sBlock (.slice ao9 (R1.length + R2.length) cc9) = some q → G q) := fun h0 q hq => by rw [hG]; exact .inr ⟨h0, hq⟩
          have hall' := Lib.hid hall
          have hbox9' := Lib.hid hbox9
          have hRlen : R1.length + R2.length ≤ 72 := by omega
          have he13 : e ≤ 13 := by omega
          clear hrow9 hall hablk hbox9 hht hb9 hp' p2' p3' hXd f1' f2' f3' f8' hl1' hcs' hms' hQ1 c2 c3 hG he hR hpl
          go_wp2_with fail
          go_loopw [13, 81] (fun mo i wr2 => ∃ m : Nat, m ≤ later.length ∧ i = .int .i64 m ∧ LateAt w wc G L D g n S a b e t X (acc S t (later.take m)) mo wr2) (fun _ i _ => later.length - (intOf i).toNat)
          case atStart => exact ⟨0, Nat.zero_le _, rfl, by simpa [acc] using hL0.out⟩
          case round =>
            obtain ⟨m, hm, rfl, hB⟩ := hrel
            have hB' := Lib.hid hB
            clear hB hL0
            obtain ⟨pv, st, X1, hp⟩ := hB'.out
            have hbQ := (hp.same Q hGQ).trans hbox9'.out
            have d0 : wr.cell? ⟨Q, 0, none⟩ = some (.pointer (some ⟨D, 0, none⟩)) := (cell_of_row _ _ _ _ _ _ hbQ).trans rfl
            have d1 : wr.cell? ⟨Q, 1, none⟩ = some (.pointer (some ⟨L, 0, none⟩)) := (cell_of_row _ _ _ _ _ _ hbQ).trans rfl
            have hacl : (acc S t (later.take m)).length ≤ m := Nat.le_trans (acc_len S _ t) (by rw [List.length_take]; omega)
            by_cases hltm : m < later.length
            · have hltm' : m < later.length := hltm
              obtain ⟨_, rb, roff, rfl, hrB, hrc⟩ := strs_get (n := later.length) hla'.out hp.below m hltm'
              have hsz : later[m].size ≤ 300 := hla6.out.2 _ (List.getElem_mem hltm')
              have htk := take_more later m hltm'
              have hac := acc_snoc S later[m] (later.take m) t
              rw [← htk] at hac
              have hac' := Lib.hid hac
              clear htk hac
              generalize later[m] = r at *
              generalize acc S t (later.take m) = A0 at *
              have hr65 : r.size ≤ 65536 := by omega
              have hnr : nfr r ≤ 6 := by unfold nfr; omega
              have hX8 : 8 ≤ X1.length := by rw [hp.xl]; exact hn8
              have hSX : S = (X1.length - 2) / 2 := by rw [hp.xl]; exact hS'.out
              have hSl : S ≤ 19 := by have := hS'.out; omega
              have hrm := hp.room
              have hpl : st.pend.length ≤ 1000 := by rw [hp.pend]; unfold putsOf; rw [List.length_map, length_recFrames]; omega
              have hSX' := Lib.hid hSX
              have hpc := Lib.hid hp
              have hA := append_walk hp.log r (by omega) (by rcases ha with rfl | rfl <;> simp) ⟨by simp only; omega, by simp only; omega⟩ (by omega)
              by_cases hfit : t + needN A0 + nfr r ≤ S
              · obtain ⟨st', p1, p2, p3, p4⟩ := append_puts (e := e) (b := b) hp.fine hX8 hSX'.out ha r hr65 hfit
                rw [p1] at hA
                have hA' := Lib.hid hA
                have p2' := Lib.hid p2
                have p3' := Lib.hid p3
                have p4' := Lib.hid p4
                clear hA p1 p2 p3 p4 hp hSX hbQ hB'
                go_upto_region 22 with (go_at_call 17; refine hA'.out.mono ?_; rintro e9 u1 ⟨pv1, rfl, hl1, hk1, hf1⟩)
                have hown2 := Lib.hid (hpc.out.turn hk1 hf1).2.2.2.1
                have hgr2 : wc.heap.size ≤ u1.heap.size := Nat.le_trans hpc.out.grown hk1.size
                have hl1' := Lib.hid hl1
                have hk1' := Lib.hid hk1
                have hf1' := Lib.hid hf1
                clear hl1 hk1 hf1 hA' d0 d1
                go_wp2_with (at_builtin; refine wpList_append_mine rfl (.tmp 92) (.tmp 94) 35 rfl wc.heap.size 9 i0 _ 1 16 Try.underlying35 hi hz0 hz1 hz2 (by decide) _ A0.length _ rfl (hown2.out.alloc _) ⟨u1.heap.size, 0, none⟩ 1 1 [.string r] rfl rfl (by omega) (cells_new u1 #[.string r] _) (by simp [Value.oneCell']) (by unfold maxLen; omega) (by omega) (by simp; omega) ?_; intro g' cap' w' hown' hgrow hnew; have hown3 := Lib.hid hown'; have hgrow3 := Lib.hid hgrow; have hnew3 := Lib.hid hnew; clear hown' hgrow hnew)
                go_roundw
                case rel =>
                  refine ⟨m + 1, by omega, by go_num, ?_⟩
                  rw [hac'.out, if_pos hfit]
                  exact hpc.out.add hl1'.out hk1'.out hf1'.out ((Below.refl _ u1).alloc (Nat.le_refl _) _) hown3.out hgrow3.out hnew3.out p2'.out (by rw [laidF_len]; exact hpc.out.xl) p3'.out p4'.out hfit
                case measure => simp [intOf]; omega
              · have p1 := append_full (e := e) (b := b) (a := a) (t := t + needN A0) hp.fine hX8 hSX'.out r hfit
                rw [p1] at hA
                have hA' := Lib.hid hA
                clear hA p1 hp hSX hbQ hB'
                go_wp2_with (go_at_call 17; refine hA'.out.mono ?_; rintro e9 u1 ⟨pv1, rfl, hl1, hk1, hf1⟩)
                have hk1' := Lib.hid hk1
                have hf1' := Lib.hid hf1
                have hl1' := Lib.hid hl1
                clear hl1 hk1 hf1 hA' d0 d1
                go_roundw
                case rel =>
                  refine ⟨m + 1, by omega, by go_num, ?_⟩
                  rw [hac'.out, if_neg hfit, List.append_nil]
                  obtain ⟨f1, f2, f3, f4, f5, f6, f7⟩ := hpc.out.turn hk1'.out hf1'.out
                  exact ⟨pv1, st, X1, hl1'.out, f1, hpc.out.fine, hpc.out.xl, hpc.out.dur, hpc.out.pend, f2, f3, f4, f5, f6, f7, hpc.out.room, hpc.out.old⟩
                case measure => simp [intOf]; omega
            · obtain rfl : m = later.length := by omega
              generalize acc S t (later.take later.length) = M at *
              have hrm := hp.room
              have hSl : S ≤ 19 := by have := hS'.out; omega
              have hpl : st.pend.length ≤ 1000 := by rw [hp.pend]; unfold putsOf; rw [List.length_map, length_recFrames]; omega
              have hCr := Lib.hid (crash_any wr hp.log.disk _ sv (ints_at hsv'.out hp.below (fun q hq => hp.live q (.inr hq))) (by omega) (by omega))
              have hpc := Lib.hid hp
              have hQf : ¬ foot D g pv Q := fun e1 => (hp.guard Q hGQ).2.2 (.inr e1)
              have hQw := lt_of_block hbQ
              have hbQ' := Lib.hid hbQ
              have hpp : Hid (st.pend = putsOf S a (recFrames M e ((needN (R1 ++ R2) : Nat) : Int))) := by rw [← hht'.out]; exact hp.pend
              have hroomM : Hid (needN (R1 ++ R2) + needN M ≤ S) := by rw [← hht'.out]; exact hp.room
              clear hp d1 hB' hbQ
              go_upto_region 25 with (go_at_call 33; refine hCr.out.mono ?_; rintro e9 u1 ⟨rfl, pv1, hd1, hk1, hf1⟩)
              have hbQ1 := (hk1.block Q hQw hQf).trans hbQ'.out
              have d2 : u1.cell? ⟨Q, 0, none⟩ = some (.pointer (some ⟨D, 0, none⟩)) := (cell_of_row _ _ _ _ _ _ hbQ1).trans rfl
              obtain ⟨q, hq, st2, l2, hcall⟩ := synced_open hsess.out sv hpc.out.dur hpp.out hroomM.out hd1
              have hcall' := Lib.hid hcall
              have hk1' := Lib.hid hk1
              have hf1' := Lib.hid hf1
              clear hcall hd1 hk1 hf1 hCr hbQ1 d0
              go_upto_region 26 with (go_at_call 12; refine hcall'.out.mono ?_; rintro e9 u2 ⟨L2, rv, rfl, hl2, hown, hk2, hL2, hne⟩)
              obtain ⟨hR1, hM1, hbl, _⟩ := hpc.out.last hk1'.out hf1'.out hk2 hall'.out hGa.out
              have hal := Lib.hid (allowed_walk u2 rv _ _ (R1 ++ R2) M q hq (own_strs hown) hR1 hM1 (by rw [List.length_append]; omega))
              have hbl' := Lib.hid hbl
              clear hl2 hown hk2 hL2 hne hR1 hM1 hbl hcall' d2
              go_wp2_with (go_at_call 34; refine hal.out.mono ?_; rintro e9 u3 ⟨rfl, hb3⟩)
              go_ret
              exact ⟨rfl, hbl'.out.trans (hb3.mono hbl'.out.size)⟩
end Go.Proofs.Ytlhnhhjpjkgogaa.wl
