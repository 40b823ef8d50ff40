/- The walk of WalAtomic. -/
import Derived.Test.YtlhnhhjpjkgogaaM6
import Derived.Deep.RegionLaw
import Derived.Deep.CutBlock
import Derived.BigRegion
namespace Go.Proofs.Ytlhnhhjpjkgogaa.wl
open Go.RowKit Go.Proofs.Ytlhnhhjpjkgogaa.agg Go.Proofs.Ytlhnhhjpjkgogaa.dk
set_option linter.unusedSimpArgs false
set_option linter.unusedVariables false

attribute [local go_sem ↓] load_actS store_actS
attribute [local go_sem] size_actS over_actS cut_actS
set_option maxRecDepth 100000 in
set_option maxHeartbeats 8000000 in
theorem atomic_walk (w : World) (sectors : Int) (v1 : Value) (old : List ByteArray) (h1 : StrsUnder w.heap.size w v1 old) (v2 : Value) (recs : List ByteArray) (h2 : StrsUnder w.heap.size w v2 recs) (v3 : Value) (next : List ByteArray) (h3 : StrsUnder w.heap.size w v3 next)
    (k : Int) (hk : 0 ≤ k ∧ k < 256) (v5 : Value) (sv : List Int) (hsv : IntsUnder w.heap.size w v5 sv) (hsvm : sv.length ≤ 9223372036854775807) :
    Calls Try.prog 7 #[.int .i64 sectors, v1, v2, v3, .int .u8 k, v5] w fun e w' => e = .returned (.bool true) ∧ Below w.heap.size w w' := by
  have h1' := Lib.hid h1
  have h2' := Lib.hid h2
  have h3' := Lib.hid h3
  have hsv' := Lib.hid hsv
  have hfb := Lib.hid (fun (W : World) (hb : Below w.heap.size w W) => few_bare3 h1 h2 h3 hb.size hb)
  obtain ⟨ao1, cap1, rfl, _⟩ := h1
  obtain ⟨ao2, cap2, rfl, _⟩ := h2
  obtain ⟨ao3, cap3, rfl, _⟩ := h3
  obtain ⟨ao5, cap5, rfl, _⟩ := hsv
  cases hfw : (fewOk (bare3 (.slice ao1 old.length cap1) old) && fewOk (bare3 (.slice ao2 recs.length cap2) recs) && fewOk (bare3 (.slice ao3 next.length cap3) next)) with
  | false =>
    go_enter Try.func7, Try.ntmps7
    go_wp2_with (first
      | (go_at_call 8; refine (awake_walk _).mono ?_; rintro e w1 ⟨rfl, hb1⟩)
      | (go_at_call 13; with_reducible refine (hfb.out w1 hb1).mono ?_; rintro e _ ⟨rfl, rfl⟩; rw [hfw]))
    go_ret
    exact ⟨rfl, hb1.alloc hb1.size _⟩
  | true =>
    by_cases h40 : 40 < sectors
    · go_enter Try.func7, Try.ntmps7
      go_wp2_with (first
        | (go_at_call 8; refine (awake_walk _).mono ?_; rintro e w1 ⟨rfl, hb1⟩)
        | (go_at_call 13; with_reducible refine (hfb.out w1 hb1).mono ?_; rintro e _ ⟨rfl, rfl⟩; rw [hfw]))
      go_ret
      exact ⟨rfl, hb1.alloc hb1.size _⟩
    by_cases h80 : 80 < sv.length
    · have h80' : (80 : Int) < sv.length := by omega
      go_enter Try.func7, Try.ntmps7
      go_wp2_with (first
        | (go_at_call 8; refine (awake_walk _).mono ?_; rintro e w1 ⟨rfl, hb1⟩)
        | (go_at_call 13; with_reducible refine (hfb.out w1 hb1).mono ?_; rintro e _ ⟨rfl, rfl⟩; rw [hfw]))
      go_ret
      exact ⟨rfl, hb1.alloc hb1.size _⟩
    have h80' : ¬ (80 : Int) < sv.length := by omega
    by_cases h8 : sectors < 8
    · go_enter Try.func7, Try.ntmps7
      go_wp2_with (first
        | (go_at_call 8; refine (awake_walk _).mono ?_; rintro e w1 ⟨rfl, hb1⟩)
        | (go_at_call 13; with_reducible refine (hfb.out w1 hb1).mono ?_; rintro e _ ⟨rfl, rfl⟩; rw [hfw])
        | (go_at_call 30; refine (begin48_few _ _ h8).mono ?_; rintro e w2 ⟨rfl, hb2⟩))
      go_ret
      exact ⟨rfl, (hb1.alloc hb1.size _).trans (hb2.mono (hb1.alloc hb1.size _).size)⟩
    obtain ⟨n, rfl⟩ : ∃ n : Nat, sectors = n := ⟨sectors.toNat, by omega⟩
    have hn8 : 8 ≤ n := by omega
    have hn40 : n ≤ 40 := by omega
    have hf1 : fewOk (bare3 (.slice ao1 old.length cap1) old) = true := by simp only [Bool.and_eq_true] at hfw; exact hfw.1.1
    have hf2 : fewOk (bare3 (.slice ao2 recs.length cap2) recs) = true := by simp only [Bool.and_eq_true] at hfw; exact hfw.1.2
    have hf3 : fewOk (bare3 (.slice ao3 next.length cap3) next) = true := by simp only [Bool.and_eq_true] at hfw; exact hfw.2
    have b1 := Lib.hid (bare3_true hf1)
    have b2 := Lib.hid (bare3_true hf2)
    have b3 := Lib.hid (bare3_true hf3)
    clear hf1 hf2 hf3
    go_enter Try.func7, Try.ntmps7
    go_upto_region 8 with (first
        | (go_at_call 8; refine (awake_walk _).mono ?_; rintro e w1 ⟨rfl, hb1⟩)
        | (go_at_call 13; with_reducible refine (hfb.out w1 hb1).mono ?_; rintro e _ ⟨rfl, rfl⟩; rw [hfw])
        | (go_at_call 30; refine (begin48_walk _ n hn8 hn40).mono ?_; rintro e w2 ⟨Q, L, D, g, pv0, rfl, hl2, hx2, hlv2, hF2, hQ2, hb2⟩))
    have hb1a := hb1.alloc hb1.size (.cells (cells3 (.slice ao1 old.length cap1) (.slice ao2 recs.length cap2) (.slice ao3 next.length cap3)) 49)
    have hsy : Hid (SyAt w Q L D g n ((n - 2) / 2) 0 0 1 0 [] [] 0 w2) := sy_start hn8 (by omega) hl2 hx2 (fun q hq => Nat.le_trans hb1a.size (hlv2 q hq)) hF2 (Nat.le_trans hb1a.size hQ2) (hb1a.trans (hb2.mono hb1a.size))
    clear hb1a hb1 hl2 hx2 hlv2 hF2 hQ2 hb2 hfb hfw
    obtain ⟨S, hS⟩ : ∃ S, S = (n - 2) / 2 := ⟨_, rfl⟩
    rw [← hS] at hsy
    have hS' := Lib.hid hS
    clear hS
    have hsz := Lib.hid (fun (W : World) => rsize_any W n (by omega) (by omega))
    obtain ⟨pv, st, X, cv, mv, nv, fl, hp⟩ := hsy.out
    have hbw := hp.below
    clear hp
    have hN1 := Lib.hid (fun (W : World) (hb : Below w.heap.size w W) => need_walk W _ old ((h1'.out.below hb).mono hb.size) (fun r hr => by have := b1.out.2 r hr; omega) (by have := b1.out.1; omega))
    have hN2 := Lib.hid (fun (W : World) (hb : Below w.heap.size w W) => need_walk W _ recs ((h2'.out.below hb).mono hb.size) (fun r hr => by have := b2.out.2 r hr; omega) (by have := b2.out.1; omega))
    have hN3 := Lib.hid (fun (W : World) (hb : Below w.heap.size w W) => need_walk W _ next ((h3'.out.below hb).mono hb.size) (fun r hr => by have := b3.out.2 r hr; omega) (by have := b3.out.1; omega))
    by_cases n1 : S < needN old
    · go_wp2_with (first
        | (go_at_call 16; refine (hsz.out _).mono ?_; rw [← hS'.out]; rintro e _ ⟨rfl, rfl⟩)
        | (go_at_call 18; with_reducible refine (hN1.out _ hbw).mono ?_; rintro e u1 ⟨rfl, hc1⟩))
      go_ret
      exact ⟨rfl, hbw.trans (hc1.mono hbw.size)⟩
    by_cases n2 : S < needN recs
    · go_wp2_with (first
        | (go_at_call 16; refine (hsz.out _).mono ?_; rw [← hS'.out]; rintro e _ ⟨rfl, rfl⟩)
        | (go_at_call 18; with_reducible refine (hN1.out _ hbw).mono ?_; rintro e u1 ⟨rfl, hc1⟩; have hbw1 := hbw.trans (hc1.mono hbw.size))
        | (go_at_call 18; with_reducible refine (hN2.out _ hbw1).mono ?_; rintro e u2 ⟨rfl, hc2⟩; have hbw2 := hbw1.trans (hc2.mono hbw1.size)))
      go_ret
      exact ⟨rfl, hbw2⟩
    by_cases n3 : S < needN next
    · go_wp2_with (first
        | (go_at_call 16; refine (hsz.out _).mono ?_; rw [← hS'.out]; rintro e _ ⟨rfl, rfl⟩)
        | (go_at_call 18; with_reducible refine (hN1.out _ hbw).mono ?_; rintro e u1 ⟨rfl, hc1⟩; have hbw1 := hbw.trans (hc1.mono hbw.size))
        | (go_at_call 18; with_reducible refine (hN2.out _ hbw1).mono ?_; rintro e u2 ⟨rfl, hc2⟩; have hbw2 := hbw1.trans (hc2.mono hbw1.size))
        | (go_at_call 18; with_reducible refine (hN3.out _ hbw2).mono ?_; rintro e u3 ⟨rfl, hc3⟩; have hbw3 := hbw2.trans (hc3.mono hbw2.size)))
      go_ret
      exact ⟨rfl, hbw3⟩
    go_upto_region 11 with (first
        | (go_at_call 16; refine (hsz.out _).mono ?_; rw [← hS'.out]; rintro e _ ⟨rfl, rfl⟩)
        | (go_at_call 18; with_reducible refine (hN1.out _ hbw).mono ?_; rintro e u1 ⟨rfl, hc1⟩; have hbw1 := hbw.trans (hc1.mono hbw.size))
        | (go_at_call 18; with_reducible refine (hN2.out _ hbw1).mono ?_; rintro e u2 ⟨rfl, hc2⟩; have hbw2 := hbw1.trans (hc2.mono hbw1.size))
        | (go_at_call 18; with_reducible refine (hN3.out _ hbw2).mono ?_; rintro e u3 ⟨rfl, hc3⟩; have hbw3 := hbw2.trans (hc3.mono hbw2.size)))
    have hsy3 : Hid (SyAt w Q L D g n S 0 0 1 0 [] [] 0 u3) := ((hsy.out.quiet hc1).quiet hc2).quiet hc3
    clear hsy hbw hc1 hbw1 hc2 hbw2 hc3 hN1 hN2 hN3 hsz
    have hDo : Hid (Calls Try.prog 31 #[.pointer (some ⟨Q, 0, none⟩), .agg #[.int .i64 0, .slice ao1 old.length cap1, .slice none 0 0, .int .i64 0]] u3 fun e9 W' => e9 = .returned (.int .i64 1) ∧ SyAt w Q L D g n S 0 0 1 (needN old) [] old 60 W') := by
      have hd := do_append hsy3.out (by omega) (bare3 (.slice ao1 old.length cap1) old) h1'.out ⟨none, 0, rfl⟩ b1.out.1 b1.out.2 rfl (by simp)
      have e : acc S 0 (bare3 (.slice ao1 old.length cap1) old).recs = old := acc_all S old 0 (by omega)
      rw [e, List.nil_append, Nat.zero_add, Nat.zero_add] at hd
      exact hd
    clear hsy3
    go_upto_region 13 with (first
      | (go_at_call 31; refine hDo.out.mono ?_; rintro e9 u4 ⟨rfl, hW⟩; obtain ⟨pv, st, X, cv, mv, nv, fl, hp⟩ := hW; have hp' := Lib.hid hp; obtain ⟨d0, d1, d2, d3, d4⟩ := hp.cell; have hsess := Lib.hid (List.nil_append old ▸ hp.sess); have hsf := Lib.hid (sync_fine (e := 1) (b := 0) (a := 0) (t := needN old) hp.fine); have hSy := Lib.hid (hsf.out.1 ▸ sync_walk hp.log (by have := hp.pend; omega)); clear hp d0 d2 d3 d4)
      | (go_at_call 21; refine hSy.out.mono ?_; rintro e9 u5 ⟨pv5, rfl, hl5, hk5, hf5⟩; have ha5 := Lib.hid (hp'.out.atom.turn hl5 hk5 hf5); clear hl5 hk5 hf5 d1))
    have hX := Lib.hid hsf.out.2.1
    have hpn := Lib.hid hsf.out.2.2
    clear hDo hSy hsf hp' hbw3
    generalize st.flush.1 = st1 at *
    have hd1 := Lib.hid (visible_dur hX.out hpn.out)
    obtain ⟨d0, d1⟩ := ha5.out.cell
    obtain ⟨hk0, hk256⟩ := hk
    have hFa := Lib.hid (failAfter_any u5 ha5.out.log.disk k)
    go_upto_region 14 with (go_at_call 35; refine hFa.out.mono ?_; rintro e9 u6 ⟨rfl, hdi, hkk⟩)
    have ha6 := Lib.hid (ha5.out.disk hdi hkk (fun q hq => .inl hq))
    have hd2 := Lib.hid ((failAfter_same st1 k).1.trans hd1.out)
    have hp2 := Lib.hid ((failAfter_same st1 k).2.trans hpn.out)
    clear hdi hkk hFa ha5 d0 d1 hd1
    generalize st1.failAfter k = st2 at *
    have hS19 : S ≤ 19 := by have := hS'.out; omega
    obtain ⟨z, hz⟩ : ∃ z, checkLg st2 ⟨((1 : Nat) : Int), ((0 : Nat) : Int), ((0 : Nat) : Int), ((needN old : Nat) : Int), 0⟩ recs = z := ⟨_, rfl⟩
    obtain ⟨z1, z2, z3⟩ := atomic_plain hsess.out hX.out hpn.out (by omega) (by simp) st2 hd2.out hp2.out z hz
    obtain ⟨y1, y2, y3, y4, y5⟩ := check_rng hz (.inl rfl) (.inl rfl) ⟨by simp only; omega, by simp only; omega⟩ ⟨by simp, by simp⟩ (by omega)
    have hCk := check_walk ha6.out.log ha6.out.below.size ha6.out.live _ recs (h2'.out.below ha6.out.below) (fun r hr => by have := b2.out.2 r hr; omega) (by have := b2.out.1; omega) (.inl rfl) (.inl rfl) ⟨by simp, by simp⟩ (by rw [hp2.out]; simp)
    rw [hz] at hCk
    obtain ⟨st3, l3, er⟩ := z
    have hCk' := Lib.hid hCk
    have z3' := Lib.hid z3
    have y1' := Lib.hid y1
    have y2' := Lib.hid y2
    have y3' := Lib.hid y3
    have y45 := Lib.hid (And.intro y4 y5)
    have z1' := Lib.hid z1
    have z2' := Lib.hid z2
    clear hCk z1 z2 z3 hz y1 y2 y3 y4 y5
    obtain ⟨d0, d1⟩ := ha6.out.cell
    go_upto_region 15 with (go_at_call 23; refine hCk'.out.mono ?_; rintro e9 u7 ⟨pv7, rfl, hl7, hk7, hf7⟩)
    have ha7 : Hid (AtomAt w Q L L D g pv7 st3 l3 u7) := ha6.out.turn hl7 hk7 hf7
    clear hl7 hk7 hf7 hCk' ha6 d0 d1
    obtain ⟨d0, d1⟩ := ha7.out.cell
    rcases z1'.out with e0 | ⟨e0, e1⟩
    case' inl =>
      subst e0
      clear d0 d1 z1'
      go_upto_region 17 with fail
    case' inr =>
      subst e0
      have e2 : l3.failed = 12 := e1
      have e1' := Lib.hid e2
      have hpl3 : st3.pend.length ≤ 1000 := by have := z2'.out; omega
      have hEr := Lib.hid (errL ha7.out.log)
      have hA := append_walk ha7.out.log ⟨#[120]⟩ (by show 1 ≤ 9223372036854775807; omega) y1'.out y3'.out (by omega)
      rw [append_failed _ _ _ e2] at hA
      have hA' := Lib.hid hA
      clear hA e1 e2 z1'
      go_upto_region 17 with (first
        | (go_at_call 29; refine hEr.out.mono ?_; rw [e1'.out]; rintro e9 _ ⟨rfl, rfl⟩)
        | (go_at_call 17; refine hA'.out.mono ?_; rintro e9 u8 ⟨pv8, rfl, hl8, hk8, hf8⟩; have ha8 : Hid (AtomAt w Q L L D g pv8 st3 l3 u8) := ha7.out.turn hl8 hk8 hf8; obtain ⟨d08, d18⟩ := ha8.out.cell; have hSy := sync_walk ha8.out.log (by omega); rw [sync_failed _ _ e1'.out] at hSy; have hSy' := Lib.hid hSy; clear hSy hl8 hk8 hf8 d0 d1)
        | (go_at_call 21; refine hSy'.out.mono ?_; rintro e9 u9 ⟨pv9, rfl, hl9, hk9, hf9⟩; have ha9 : Hid (AtomAt w Q L L D g pv9 st3 l3 u9) := ha8.out.turn hl9 hk9 hf9; obtain ⟨d09, d19⟩ := ha9.out.cell; have hCk := check_walk ha9.out.log (Nat.zero_le _) (fun _ _ => Nat.zero_le _) (.slice none 0 0) [] ⟨none, 0, rfl, fun h0 => by simp at h0⟩ (by simp) (by simp) y1'.out y2'.out ⟨y45.out.1, by have := y45.out.2; omega⟩ (by omega); rw [check_failed _ _ _ e1'.out] at hCk; have hCk' := Lib.hid hCk; clear hCk hl9 hk9 hf9 d08 d18)
        | (go_at_call 23; refine hCk'.out.mono ?_; rintro e9 ua ⟨pva, rfl, hla, hka, hfa⟩; have haa : Hid (AtomAt w Q L L D g pva st3 l3 ua) := ha9.out.turn hla hka hfa; clear hla hka hfa d09 d19))
    all_goals
      rename World => uf
      rename Hid (AtomAt _ _ _ _ _ _ _ _ _ uf) => haf
      rename Hid (st3.pend.length ≤ n) => hplf
      obtain ⟨d0, d1⟩ := haf.out.cell
      have hCr := Lib.hid (crash_any uf haf.out.log.disk _ sv (ints_at hsv'.out haf.out.below (fun q hq => haf.out.live q (.inr hq))) (by have := hplf.out; omega) (by omega))
      obtain ⟨a', b', E', R', hE', hSh, hRc⟩ := z3'.out sv
      go_upto_region 18 with (go_at_call 33; refine hCr.out.mono ?_; rintro e9 ub ⟨rfl, pvb, hdb, hkb, hfb⟩)
      have hab := Lib.hid (haf.out.disk hdb hkb hfb)
      clear hdb hkb hfb hCr haf d0 d1
      obtain ⟨d0, d1⟩ := hab.out.cell
      obtain ⟨gr, fin, g1, g2, hcall⟩ := hSh.open_ hab.out.log.disk rfl rfl rfl
      have hcall' := Lib.hid hcall
      have hSh' := Lib.hid hSh
      clear hcall hSh
      go_upto_region 19 with (go_at_call 12; refine hcall'.out.mono ?_; rintro e9 uc ⟨L2, rv, rfl, hlc, hown, hkc, hL2, hne⟩)
      have hac := Lib.hid (hab.out.opened hlc hkc hL2)
      have hrv := Lib.hid (own_strs hown)
      clear hlc hown hkc hL2 hne hcall' hab d0 d1
      have hS1 := Lib.hid (rsame_walk uc rv _ R' recs hrv.out (under_in (h2'.out.below hac.out.below)).1 (by rcases hRc with e | ⟨_, e⟩; rw [e]; have := b2.out.1; omega; rw [e]; have := b1.out.1; omega) (by have := b2.out.1; omega))
      by_cases hRM : R' = recs
      case' pos =>
        subst hRM
        have hS1t : Hid (Calls Try.prog 36 #[rv, .slice ao2 R'.length cap2] uc fun e w' => e = .returned (.bool true) ∧ ∃ n, w' = uc.drewN n) := by
          have := hS1.out
          rw [decide_eq_true rfl] at this
          exact this
        clear hS1
        go_upto_region 21 with (go_at_call 36; refine hS1t.out.mono ?_; rintro e9 ud ⟨rfl, nd, rfl⟩)
      case' neg =>
        obtain ⟨e9, e8⟩ := hRc.resolve_left hRM
        first
          | (exfalso; exact absurd e9 (by show ¬ ((0 : Int) = 12); decide))
          | (have hRe := Lib.hid e8
             clear e8 e9
             have hS1f : Hid (Calls Try.prog 36 #[rv, .slice ao2 recs.length cap2] uc fun e w' => e = .returned (.bool false) ∧ ∃ n, w' = uc.drewN n) := by
               have := hS1.out
               rw [decide_eq_false hRM] at this
               exact this
             clear hS1
             have hS2 := Lib.hid (fun n => rsame_walk (uc.drewN n) rv _ R' old (hrv.out.below (below_drewN (Below.refl _ _) n)) (under_in (h1'.out.below (hac.out.quiet (below_drewN (Below.refl _ _) n)).below)).1 (by rw [hRe.out]; have := b1.out.1; omega) (by have := b1.out.1; omega))
             have hRe2 : Hid (decide (R' = old) = true) := decide_eq_true hRe.out
             go_upto_region 21 with (first
               | (go_at_call 36; with_reducible refine hS1f.out.mono ?_; rintro e9 ud ⟨rfl, nd, rfl⟩)
               | (go_at_call 36; with_reducible refine (hS2.out nd).mono ?_; rw [hRe2.out]; rintro e9 ue ⟨rfl, ne, rfl⟩)))
      all_goals
        obtain ⟨st4, l4, q1, q2, q3, q4, q5⟩ := next_plain (st := reads (st3.crash sv) n) (fin := fin) (N := next) hSh'.out rfl rfl rfl rfl g1 g2 (by omega) (by simp) (by omega)
        have hC2 := Lib.hid (fun m => q1 ▸ check_walk (hac.out.quiet (below_drewN (Below.refl _ _) m)).log (hac.out.quiet (below_drewN (Below.refl _ _) m)).below.size hac.out.live _ next (h3'.out.below (hac.out.quiet (below_drewN (Below.refl _ _) m)).below) (fun r hr => by have := b3.out.2 r hr; omega) (by have := b3.out.1; omega) (by show (a' : Int) = 0 ∨ (a' : Int) = 1; have := hSh'.out.ha; omega) (by show (b' : Int) = 0 ∨ (b' : Int) = 1; have := hSh'.out.hb; omega) ⟨by simp only; omega, by simp only; omega⟩ (by show 0 < 500000; omega))
        have q2' := Lib.hid q2
        have q3' := Lib.hid q3
        have q4' := Lib.hid q4
        have q5' := Lib.hid q5
        clear q1 q2 q3 q4 q5
        go_upto_region 23 with (go_at_call 23; refine (hC2.out _).mono ?_; rintro e9 ug ⟨pvg, rfl, hlg, hkg, hfg⟩)
        have hag : Hid (AtomAt w Q L L2 D g pvg st4 l4 ug) := (hac.out.quiet (below_drewN (Below.refl _ _) _)).turn hlg hkg hfg
        clear hlg hkg hfg hC2 hac
        obtain ⟨d0, d1⟩ := hag.out.cell
        have hCr := Lib.hid (crash_any ug hag.out.log.disk (.slice none 0 0) [] ⟨none, 0, rfl, fun h0 => by simp at h0⟩ (by rw [q2'.out]; simp) (by simp))
        go_upto_region 24 with (go_at_call 33; refine hCr.out.mono ?_; rintro e9 uh ⟨rfl, pvh, hdh, hkh, hfh⟩)
        have hah := Lib.hid (hag.out.disk hdh hkh hfh)
        clear hdh hkh hfh hCr hag d0 d1
        obtain ⟨d0, d1⟩ := hah.out.cell
        have hdd : (st4.crash []).dur = st4.dur := by
          show layCrash [] st4.dur 0 st4.pend = st4.dur
          rw [q2'.out]
          rfl
        obtain ⟨gr2, fin2, _, _, hcall2⟩ := q5'.out.open_ hah.out.log.disk hdd rfl rfl
        have hcall2' := Lib.hid hcall2
        clear hcall2 hdd
        go_upto_region 25 with (go_at_call 12; refine hcall2'.out.mono ?_; rintro e9 ui ⟨L3, rv2, rfl, hli, howni, hki, hL3, hnei⟩)
        have hai := Lib.hid (hah.out.opened hli hki hL3)
        have hrv2 := Lib.hid (own_strs howni)
        clear hli howni hki hL3 hnei hcall2' hah d0 d1
        have hS3 : Hid (Calls Try.prog 36 #[rv2, .slice ao3 next.length cap3] ui fun e w' => e = .returned (.bool true) ∧ ∃ n, w' = ui.drewN n) := by
          have := rsame_walk ui rv2 _ next next hrv2.out (under_in (h3'.out.below hai.out.below)).1 (by have := b3.out.1; omega) (by have := b3.out.1; omega)
          rw [decide_eq_true rfl] at this
          exact this
        go_wp2_with (go_at_call 36; refine hS3.out.mono ?_; rintro e9 uj ⟨rfl, nj, rfl⟩)
        go_ret
        exact ⟨rfl, (hai.out.quiet (below_drewN (Below.refl _ _) nj)).below⟩
end Go.Proofs.Ytlhnhhjpjkgogaa.wl
