/- The walk of ParserJoins. -/
import Derived.Test.YthggagophcnkfaaGreatDoorM16
import Derived.Test.YthggagophcnkfaaGreatDoorAwk
import Derived.OwnWalk
namespace Go.Proofs.YthggagophcnkfaaGreatDoor.px
open Go.RowKit Go.Proofs.YthggagophcnkfaaGreatDoor.agg Go.Proofs.YthggagophcnkfaaGreatDoor.sx Go.Proofs.YthggagophcnkfaaGreatDoor.lx Go.Proofs.YthggagophcnkfaaGreatDoor.so
set_option linter.unusedSimpArgs false
set_option linter.unusedVariables false

set_option maxRecDepth 100000 in
set_option maxHeartbeats 4000000 in
theorem joins_walk (w : World) (hT : TabIn w) (a b : ByteArray) (hma : a.size ≤ maxLen) (hmb : b.size ≤ maxLen) : Calls Tryz.prog 6 #[.string a, .string b] w fun e w' => e = .returned (.bool true) ∧ Below w.heap.size w w' := by
  unfold maxLen at hma hmb
  have hA := Lib.hid (awake_walk w hT)
  by_cases h3a : 300 < a.size
  · clear hT
    go_enter Tryz.func6, Tryz.ntmps6
    go_wp2_with (go_at_call 9; refine hA.out.mono ?_; rintro e w1 ⟨rfl, b1⟩)
    go_ret
    exact ⟨rfl, b1⟩
  by_cases h3b : 300 < b.size
  · clear hT
    go_enter Tryz.func6, Tryz.ntmps6
    go_wp2_with (go_at_call 9; refine hA.out.mono ?_; rintro e w1 ⟨rfl, b1⟩)
    go_ret
    exact ⟨rfl, b1⟩
  have hPa := Lib.hid (fun (W : World) (hb : Below w.heap.size w W) => parse_readOk W (hT.below hb) a (by omega))
  have hPb := Lib.hid (fun (W : World) (hb : Below w.heap.size w W) => parse_readOk W (hT.below hb) b (by omega))
  have hcs := joined_size a b
  have hPc := Lib.hid (fun (W : World) (hb : Below w.heap.size w W) => parse_readOk W (hT.below hb) (a ++ ⟨#[10]⟩ ++ b) (by omega))
  have hJ := Lib.hid (fun fa fb na nb => joins_plain (joined_bytes a b) (by omega) (by omega) fa fb na nb)
  have hFa := Lib.hid (fun (h : FinOk a) => parse_nest (T := a) (by omega) h)
  have hFb := Lib.hid (fun (h : FinOk b) => parse_nest (T := b) (by omega) h)
  generalize parse a = ma at *
  generalize parse b = mb at *
  generalize parse (a ++ ⟨#[10]⟩ ++ b) = mc at *
  obtain ⟨ta, la⟩ := ma
  obtain ⟨tb, lb⟩ := mb
  obtain ⟨tc, lc⟩ := mc
  clear hT
  by_cases hl : 0 < la.length + lb.length
  · have f1 : decide (0 < (la.length : Int) + lb.length) = true := decide_eq_true (by omega)
    clear hPc hJ hFa hFb
    go_enter Tryz.func6, Tryz.ntmps6
    go_wp2_with (first
      | (go_at_call 9; refine hA.out.mono ?_; rintro e w1 ⟨rfl, b1⟩; have b1' := Lib.hid b1; clear b1)
      | (go_at_call 10; refine (hPb.out _ (b2a.out _)).mono ?_; rintro e w3 ⟨⟨ay, cy, lvy, rfl, t3, d3, b3⟩, o3, f3⟩; have b3' := Lib.hid b3; have o3' := Lib.hid o3; obtain ⟨aly, cly, rfl, _⟩ := d3; have q3 := o3'.out.2; clear t3 b3 o3 f3)
      | (go_at_call 10; refine (hPa.out _ b1'.out).mono ?_; rintro e w2 ⟨⟨ax, cx, lvx, rfl, t2, d2, b2⟩, o2, f2⟩; have b2' := Lib.hid b2; have b2a := Lib.hid (fun o => (bel_then b1'.out b1'.out.size b2'.out).alloc (bel_then b1'.out b1'.out.size b2'.out).size o); have o2' := Lib.hid o2; obtain ⟨alx, clx, rfl, _⟩ := d2; have q2 := o2'.out.2; clear t2 b2 o2 f2))
    go_ret
    refine ⟨rfl, ?_⟩
    have h3 := bel_then (b2a.out (.cells #[.int .i64 ta.kind, .string ta.text, .int .i64 ta.fr, .int .i64 ta.to, .slice ax ta.kids.length cx] 25)) (b2a.out _).size b3'.out
    exact h3.alloc h3.size _
  · have hla : la = [] := List.eq_nil_of_length_eq_zero (by omega)
    have hlb : lb = [] := List.eq_nil_of_length_eq_zero (by omega)
    subst hla
    subst hlb
    go_enter Tryz.func6, Tryz.ntmps6
    go_upto_region 9 with (first
      | (go_at_call 9; refine hA.out.mono ?_; rintro e w1 ⟨rfl, b1⟩; have b1' := Lib.hid b1; clear b1)
      | (go_at_call 10; refine (hPb.out _ (b2a.out _)).mono ?_; rintro e w3 ⟨⟨ay, cy, lvy, rfl, t3, d3, b3⟩, o3, f3⟩; have b3' := Lib.hid b3; have t3' := Lib.hid t3; have f3' := Lib.hid f3; have b3a := Lib.hid (fun o => (bel_then (b2a.out _) (b2a.out _).size b3'.out).alloc (bel_then (b2a.out _) (b2a.out _).size b3'.out).size o); obtain ⟨aly, cly, rfl, _⟩ := d3; clear t3 b3 o3 f3)
      | (go_at_call 10; refine (hPa.out _ b1'.out).mono ?_; rintro e w2 ⟨⟨ax, cx, lvx, rfl, t2, d2, b2⟩, o2, f2⟩; have b2' := Lib.hid b2; have t2' := Lib.hid t2; have f2' := Lib.hid f2; have b2a := Lib.hid (fun o => (bel_then b1'.out b1'.out.size b2'.out).alloc (bel_then b1'.out b1'.out.size b2'.out).size o); obtain ⟨alx, clx, rfl, _⟩ := d2; clear t2 b2 o2 f2))
    obtain ⟨j1, j2, j3, j4⟩ := hJ.out f2'.out f3'.out (by trivial) (by trivial)
    obtain ⟨_, _, na⟩ := hFa.out f2'.out
    obtain ⟨_, _, nb⟩ := hFb.out f3'.out
    try simp only at j1 j2 j3 j4 na nb
    subst j1
    clear hJ hFa hFb f2' f3' hA hPa hPb
    have j2' := Lib.hid j2
    have j3' := Lib.hid j3
    have j4' := Lib.hid j4
    have na' := Lib.hid na
    have nb' := Lib.hid nb
    clear j2 j3 j4 na nb
    go_upto_region 10 with (go_at_call 10; refine (hPc.out _ (b3a.out _)).mono ?_; rintro e w4 ⟨⟨az, cz, lvz, rfl, t4, d4, b4⟩, o4, f4⟩; have b4' := Lib.hid b4; have t4' := Lib.hid t4; obtain ⟨alz, clz, rfl, _⟩ := d4; clear t4 b4 o4 f4)
    have x3 : w3.heap[w2.heap.size]? = some (.cells #[.int .i64 ta.kind, .string ta.text, .int .i64 ta.fr, .int .i64 ta.to, .slice ax ta.kids.length cx] 25 (0, 0)) := (b3'.out.block _ (by simp)).trans (block_new _ _ _)
    have x4 := (b4'.out.block _ (by have := lt_of_block x3; simp; omega)).trans ((Below.heap_alloc w3 _ _ (lt_of_block x3)).trans x3)
    have y4 : w4.heap[w3.heap.size]? = some (.cells #[.int .i64 tb.kind, .string tb.text, .int .i64 tb.fr, .int .i64 tb.to, .slice ay tb.kids.length cy] 25 (0, 0)) := (b4'.out.block _ (by simp)).trans (block_new _ _ _)
    have k2 : Below w2.heap.size w2 w3 := bel_then ((Below.refl _ w2).alloc (Nat.le_refl _) _) ((Below.refl _ w2).alloc (Nat.le_refl _) _).size b3'.out
    have k3 : Below w3.heap.size w3 w4 := bel_then ((Below.refl _ w3).alloc (Nat.le_refl _) _) ((Below.refl _ w3).alloc (Nat.le_refl _) _).size b4'.out
    obtain ⟨W, hW⟩ : ∃ W, w4.alloc (.cells #[.int .i64 tc.kind, .string tc.text, .int .i64 tc.fr, .int .i64 tc.to, .slice az tc.kids.length cz] 25) = W := ⟨_, rfl⟩
    rw [hW]
    have k4 : Below w4.heap.size w4 W := by rw [← hW]; exact (Below.refl _ _).alloc (Nat.le_refl _) _
    have hzW : Hid (W.heap[w4.heap.size]? = some (.cells #[.int .i64 tc.kind, .string tc.text, .int .i64 tc.fr, .int .i64 tc.to, .slice az tc.kids.length cz] 25 (0, 0))) := by unfold Hid; rw [← hW]; exact block_new _ _ _
    have hxW := Lib.hid ((k4.block _ (lt_of_block x4)).trans x4)
    have hyW := Lib.hid ((k4.block _ (lt_of_block y4)).trans y4)
    have hTX := Lib.hid (((t2'.out.below k2).below k3).below k4)
    have hTY := Lib.hid ((t3'.out.below k3).below k4)
    have hTZ := Lib.hid (t4'.out.below k4)
    have hbW : Hid (Below w.heap.size w W) := by
      unfold Hid
      have h := bel_then (b3a.out (.cells #[.int .i64 tb.kind, .string tb.text, .int .i64 tb.fr, .int .i64 tb.to, .slice ay tb.kids.length cy] 25)) (b3a.out _).size b4'.out
      rw [← hW]
      exact h.alloc h.size _
    clear hW k2 k3 k4 x3 x4 y4 b1' b2' b3' b4' b2a b3a t2' t3' t4' hPc
    generalize w2.heap.size = X at *
    generalize w3.heap.size = Y at *
    generalize w4.heap.size = Z at *
    obtain ⟨kx, lx, rx, ox, ex, Gx, gx⟩ := hTX.out.nodes
    obtain ⟨ky, ly, ry, oy, ey, Gy, gy⟩ := hTY.out.nodes
    have hx0 : W.cell? ⟨X, 4, none⟩ = some (.slice ax ta.kids.length cx) := (cell_of_row _ _ _ _ _ _ hxW.out).trans rfl
    have hy0 : W.cell? ⟨Y, 4, none⟩ = some (.slice ay tb.kids.length cy) := (cell_of_row _ _ _ _ _ _ hyW.out).trans rfl
    have hXlt := lt_of_block hxW.out
    have hYlt := lt_of_block hyW.out
    have hZlt := lt_of_block hzW.out
    have hcx : ta.kids.length ≤ 1000000 := by
      have := Tr.counts_len ta.kids
      have h2 := count_eq ta
      have h3 := na'.out
      omega
    have hcy : tb.kids.length ≤ 1000000 := by
      have := Tr.counts_len tb.kids
      have h2 := count_eq tb
      have h3 := nb'.out
      omega
    have hCl := Lib.hid (fun (V : World) (hb : Below W.heap.size W V) => cloneNode_walk V (.slice ax ta.kids.length cx) kx (by omega) (rx.below hb) ox)
    rw [ly] at ry
    simp only [lx] at hCl
    have hry := Lib.hid ry
    have hoy := Lib.hid oy
    obtain ⟨i0, hi, hz0, hz1, hz2⟩ := info_parts info_nd
    have hyl := ndV_len ky
    rw [ly] at hyl
    have lx' := Lib.hid lx
    have ly' := Lib.hid ly
    have ex' := Lib.hid ex
    have ey' := Lib.hid ey
    clear rx ry ox oy lx ly ex ey
    have hxA : ∀ o, (W.drew.alloc o).cell? ⟨X, 4, none⟩ = some (.slice ax ta.kids.length cx) := fun o => (((Below.refl _ W).drew.alloc (Nat.le_refl _) o).cell (p := ⟨X, 4, none⟩) hXlt).trans hx0
    have hyA : ∀ o, (W.drew.alloc o).cell? ⟨Y, 4, none⟩ = some (.slice ay tb.kids.length cy) := fun o => (((Below.refl _ W).drew.alloc (Nat.le_refl _) o).cell (p := ⟨Y, 4, none⟩) hYlt).trans hy0
    have hAfter : Hid (∀ V v1, (V = W.drew ∨ ∃ o, V = W.drew.alloc o) → Below V.heap.size V v1 → v1.cell? ⟨Y, 4, none⟩ = some (.slice ay tb.kids.length cy) ∧ (∀ o, (v1.alloc o).cell? ⟨Y, 4, none⟩ = some (.slice ay tb.kids.length cy)) ∧ Below W.heap.size W v1) := by
      rintro V v1 hV hbv
      have hWV : Below W.heap.size W V := by
        rcases hV with rfl | ⟨o, rfl⟩
        · exact (Below.refl _ _).drew
        · exact (Below.refl _ _).drew.alloc (Nat.le_refl _) _
      have hW1 := bel_then hWV hWV.size hbv
      have h1 : v1.cell? ⟨Y, 4, none⟩ = some (.slice ay tb.kids.length cy) := (hW1.cell (p := ⟨Y, 4, none⟩) hYlt).trans hy0
      refine ⟨h1, fun o => ?_, hW1⟩
      exact ((hW1.alloc hW1.size o).cell (p := ⟨Y, 4, none⟩) hYlt).trans hy0
    go_cut [14] (fun p wx => JEnd W (ta.kids ++ tb.kids) (ta.kids.length + tb.kids.length) p wx)
    case first =>
      go_region_law (first
        | (go_simp; go_at_call 18; refine (hCl.out _ (by first | exact (Below.refl _ _).drew | exact ((Below.refl _ _).drew.alloc (Nat.le_refl _) _))).mono ?_; rintro e v1 ⟨ac, cc, rfl, hrow, hbv, hown⟩; have hown' := Lib.hid hown; (try have hb0 := Lib.hid ((hbv.block W.heap.size (by simp)).trans (block_new W.drew _ _))); have hrow' := Lib.hid hrow; have hbv' := Lib.hid hbv; obtain ⟨hyV, hyVA, hbW1⟩ := hAfter.out _ _ (by first | exact .inl rfl | exact .inr ⟨_, rfl⟩) hbv; have hbW1' := Lib.hid hbW1; clear hrow hbv hbW1 hown)
        | (refine step_append_reads rfl (.tmp 68) (.tmp 70) 23 rfl W.heap.size 25 i0 _ 5 64 Tryz.underlying23 hi hz0 hz1 hz2 (by decide) (.slice ac ta.kids.length cc) ta.kids.length (ndV kx) rfl (by first | exact RowB_base hrow'.out (by simp) | exact RowB_base (hrow'.out.below ((Below.refl _ _).alloc (Nat.le_refl _) _)) (by simp)) (.slice ay tb.kids.length cy) tb.kids.length (ndV ky) rfl (by first | exact hry.out.below hbW1'.out | exact hry.out.below (hbW1'.out.alloc hbW1'.out.size _)) hyl hoy.out (by unfold maxLen; omega) (by omega) (by first | exact hbW1'.out.size | exact (hbW1'.out.alloc hbW1'.out.size _).size) ?_; intro aa ca v2 hrow2 hb2 hk2 ho2; (try (have hxb0 := ((hk2.block v1.heap.size (by simp) (fun e => absurd ((hown'.out _ e).2) (by omega))).trans (block_new v1 _ _)); have hbx2 := Lib.hid hxb0; have hxb := box5 hxb0; obtain ⟨⟨y0, y1, y2, y3, y4⟩, f0, f1, f2, f3, f4⟩ := hxb)); (try (have hxb0 := ((hk2.block W.heap.size (by have := lt_of_block hb0.out; first | exact this | (simp; omega)) (fun e => absurd ((hown'.out _ e).1) (by simp))).trans hb0.out); have hbx2 := Lib.hid hxb0; have hxb := box5 hxb0; obtain ⟨⟨y0, y1, y2, y3, y4⟩, f0, f1, f2, f3, f4⟩ := hxb)))
        | fail)
      all_goals
        have hks : trs kx ++ trs ky = ta.kids ++ tb.kids := by rw [ex'.out, ey'.out]
        have hnn : ta.kids.length + tb.kids.length = kx.length + ky.length := by rw [lx'.out, ly'.out]
        go_wp2_with fail
        go_meet
        first
          | (with_reducible refine jend_alloc ?_ ?_ hnn ?_ gx gy hks
             · exact hbW1'.out.trans hb2
             · exact hrow2
             · omega)
          | (with_reducible refine jend_set hbx2.out ?_ ?_ ?_ ?_ hnn ?_ gx gy hks
             · first | exact hbW1'.out.size | exact Nat.le_refl _
             · intro k hk
               first
                 | (rcases ho2 k hk with e | ⟨e, _⟩
                    · have := (hown'.out k e).2
                      omega
                    · simp at e
                      omega)
                 | (have hlt := lt_of_block hb0.out
                    rcases ho2 k hk with e | ⟨e, _⟩
                    · have := (hown'.out k e).1
                      simp at this
                      omega
                    · omega)
             · first | exact hbW1'.out.trans hb2 | exact (hbW1'.out.alloc hbW1'.out.size _).trans hb2
             · exact hrow2
             · omega)
    case rest =>
      obtain ⟨N, aa, ca, rfl, hbN, hTN, hbF⟩ := hcut
      have hZc := (hbF.block _ hZlt).trans hzW.out
      obtain ⟨⟨z0, z1, z2, z3, z4⟩, g0, g1, g2, g3, g4⟩ := box5 hZc
      obtain ⟨⟨n0, n1, n2, n3, n4⟩, m0, m1, m2, m3, m4⟩ := box5 hbN
      have hE := join_equal j3'.out j4'.out j2'.out (hTZ.out.below hbF) hTN (by rw [List.length_append])
      have hE' := Lib.hid hE
      have hbF' := Lib.hid hbF
      have hbW' := Lib.hid hbW.out
      clear hE hbF hTN hbN hZc hzW hTZ j2' j3' j4'
      generalize tc.kids.length = tcn at *
      generalize tc.kind = tck at *
      generalize tc.text = tcx at *
      generalize tc.fr = tcf at *
      generalize tc.to = tce at *
      go_wp2_with (go_at_call 19; refine hE'.out.mono ?_; rintro e w9 ⟨rfl, b9⟩; have b9' := Lib.hid b9; clear b9)
      go_ret
      refine ⟨rfl, ?_⟩
      have h1 := hbW'.out.trans (hbF'.out.mono hbW'.out.size)
      exact bel_then h1 h1.size b9'.out
end Go.Proofs.YthggagophcnkfaaGreatDoor.px
