/- The walk of ParserNests. -/
import Derived.Test.YthggagophcnkfaaGreatDoorNstP
import Derived.Test.YthggagophcnkfaaGreatDoorM6
import Derived.Test.YthggagophcnkfaaGreatDoorM13
namespace Go.Proofs.YthggagophcnkfaaGreatDoor.px
open Go.RowKit Go.Proofs.YthggagophcnkfaaGreatDoor.agg Go.Proofs.YthggagophcnkfaaGreatDoor.sx Go.Proofs.YthggagophcnkfaaGreatDoor.lx Go.Proofs.YthggagophcnkfaaGreatDoor.so
set_option linter.unusedSimpArgs false
set_option linter.unusedVariables false

set_option maxRecDepth 100000 in
set_option maxHeartbeats 8000000 in
theorem nests_walk (w : World) (hT : TabIn w) (T : ByteArray) (hm : T.size ≤ maxLen) : Calls Tryz.prog 7 #[.string T] w fun e w' => e = .returned (.bool true) ∧ Below w.heap.size w w' := by
  unfold maxLen at hm
  have hA := Lib.hid (awake_walk w hT)
  by_cases h300 : 300 < T.size
  · clear hT
    go_enter Tryz.func7, Tryz.ntmps7
    go_wp2_with (go_at_call 9; refine hA.out.mono ?_; rintro e w1 ⟨rfl, b1⟩)
    go_ret
    exact ⟨rfl, b1⟩
  · have hP := Lib.hid (fun (W : World) (hb : Below w.heap.size w W) => parse_readOk W (hT.below hb) T (by omega))
    have hF := Lib.hid (fun (h : FinOk T) => parse_nest (T := T) (by omega) h)
    generalize parse T = m at *
    obtain ⟨tr, l⟩ := m
    clear hT
    go_enter Tryz.func7, Tryz.ntmps7
    go_upto_region 6 with (first
      | (go_at_call 9; refine hA.out.mono ?_; rintro e w1 ⟨rfl, b1⟩; have b1' := Lib.hid b1; clear b1)
      | (go_at_call 10; refine (hP.out _ b1'.out).mono ?_; rintro e w2 ⟨⟨ao, cp, lv, rfl, t2, d2, b2⟩, o2, f2⟩; have t2' := Lib.hid t2; have d2' := Lib.hid d2; have b2' := Lib.hid b2; have o2' := Lib.hid o2; have f2' := Lib.hid f2; obtain ⟨al, cl, rfl, _⟩ := d2; clear t2 b2 o2 f2))
    obtain ⟨n1, n2, n3⟩ := hF.out f2'.out
    obtain ⟨W, hW⟩ : ∃ W, w2.alloc (.cells #[.int .i64 tr.kind, .string tr.text, .int .i64 tr.fr, .int .i64 tr.to, .slice ao tr.kids.length cp] 25) = W := ⟨_, rfl⟩
    rw [hW]
    have hkW : Below w2.heap.size w2 W := by rw [← hW]; exact (Below.refl _ _).alloc (Nat.le_refl _) _
    have hbW := Lib.hid (bel_then (bel_then b1'.out b1'.out.size b2'.out) (bel_then b1'.out b1'.out.size b2'.out).size hkW)
    have hxW : Hid (W.heap[w2.heap.size]? = some (.cells #[.int .i64 tr.kind, .string tr.text, .int .i64 tr.fr, .int .i64 tr.to, .slice ao tr.kids.length cp] 25 (0, 0))) := by unfold Hid; rw [← hW]; exact block_new _ _ _
    have hTW := Lib.hid (t2'.out.below hkW)
    have hNs := Lib.hid (fun (u : World) (h : TreesIn u (.slice ao tr.kids.length cp) tr.kids) => nested_walk u tr ao cp h n1)
    have hCt := Lib.hid (fun (u : World) (h : TreesIn u (.slice ao tr.kids.length cp) tr.kids) => count_walk u tr ao cp n3 h)
    have hPt := Lib.hid (fun (u : World) (i : Nat) (hi : i < tr.count) (h : TreesIn u (.slice ao tr.kids.length cp) tr.kids) => path_walk u tr ao cp i h hi n3)
    have hGt := Lib.hid (fun (u : World) (x : Tr) (v : Value) (p : List Nat) (h : TreesIn u (.slice ao tr.kids.length cp) tr.kids) (hp : IntsIn u v p) (hg : getT tr p = some x) (hl : p.length ≤ 1000000) => get_walk u tr x ao cp v p h hp hg hl)
    have n2' := Lib.hid n2
    unfold tagg at hNs hCt hPt hGt
    have hBlt := lt_of_block hxW.out
    clear hW hkW n1 n2 hF hP hA t2' d2' b1' b2'
    generalize w2.heap.size = B at *
    have c0 : ∀ i u, (#[Value.int .i64 tr.kind, .string tr.text, .int .i64 tr.fr, .int .i64 tr.to, .slice ao tr.kids.length cp] : Array Value)[i]? = some u → W.cell? ⟨B, i, none⟩ = some u := fun i u h => (cell_of_row _ _ _ _ _ _ hxW.out).trans h
    have k0 := c0 0 _ rfl
    have k1 := c0 1 _ rfl
    have k2 := c0 2 _ rfl
    have k3 := c0 3 _ rfl
    have k4 := c0 4 _ rfl
    clear c0
    go_wp2_with (first
      | (go_at_call 21; refine (hCt.out _ (hTW.out.below b3'.out)).mono ?_; rintro e w4 ⟨rfl, b4⟩; have b4' := Lib.hid b4; clear b4)
      | (go_at_call 20; refine (hNs.out _ hTW.out).mono ?_; rintro e w3 ⟨rfl, b3⟩; have b3' := Lib.hid b3; have hx3 := (b3.block B hBlt).trans hxW.out; have r0 : w3.cell? ⟨B, 0, none⟩ = some (.int .i64 tr.kind) := (cell_of_row _ _ _ _ _ _ hx3).trans rfl; have r1 : w3.cell? ⟨B, 1, none⟩ = some (.string tr.text) := (cell_of_row _ _ _ _ _ _ hx3).trans rfl; have r2 : w3.cell? ⟨B, 2, none⟩ = some (.int .i64 tr.fr) := (cell_of_row _ _ _ _ _ _ hx3).trans rfl; have r3 : w3.cell? ⟨B, 3, none⟩ = some (.int .i64 tr.to) := (cell_of_row _ _ _ _ _ _ hx3).trans rfl; have r4 : w3.cell? ⟨B, 4, none⟩ = some (.slice ao tr.kids.length cp) := (cell_of_row _ _ _ _ _ _ hx3).trans rfl; clear b3 hx3))
    have hb40 : Hid (Below W.heap.size W w4) := Lib.hid (bel_then b3'.out b3'.out.size b4'.out)
    clear k0 k1 k2 k3 k4 r0 r1 r2 r3 r4 b3' b4' hNs hCt
    generalize hcn : tr.count = N at *
    have hcn' := Lib.hid hcn
    clear hcn
    go_loopw [32] (fun i wr => ∃ k : Nat, k ≤ N ∧ i = .int .i64 k ∧ Hid (Below W.heap.size W wr)) (fun i _ => N - (intOf i).toNat)
    case atStart => exact ⟨0, Nat.zero_le _, rfl, hb40⟩
    case round =>
      clear hb40
      obtain ⟨k, hk, rfl, hb⟩ := hrel
      by_cases hlt : k < N
      · have hx4 := (hb.out.block B hBlt).trans hxW.out
        have r0 : wr.cell? ⟨B, 0, none⟩ = some (.int .i64 tr.kind) := (cell_of_row _ _ _ _ _ _ hx4).trans rfl
        have r1 : wr.cell? ⟨B, 1, none⟩ = some (.string tr.text) := (cell_of_row _ _ _ _ _ _ hx4).trans rfl
        have r2 : wr.cell? ⟨B, 2, none⟩ = some (.int .i64 tr.fr) := (cell_of_row _ _ _ _ _ _ hx4).trans rfl
        have r3 : wr.cell? ⟨B, 3, none⟩ = some (.int .i64 tr.to) := (cell_of_row _ _ _ _ _ _ hx4).trans rfl
        have r4 : wr.cell? ⟨B, 4, none⟩ = some (.slice ao tr.kids.length cp) := (cell_of_row _ _ _ _ _ _ hx4).trans rfl
        clear hx4
        have hP := Lib.hid (hPt.out wr k hlt (hTW.out.below hb.out))
        go_upto_region 12 with (go_at_call 22; refine hP.out.mono ?_; rintro e w5 ⟨p, x, v, rfl, hg, hp, hpl, b5⟩; have hg' := Lib.hid hg; have hp' := Lib.hid hp; have b5' := Lib.hid b5; clear hg hp b5)
        have hb5 := Lib.hid (bel_then hb.out hb.out.size b5'.out)
        have hx5 := (hb5.out.block B hBlt).trans hxW.out
        have s0 : w5.cell? ⟨B, 0, none⟩ = some (.int .i64 tr.kind) := (cell_of_row _ _ _ _ _ _ hx5).trans rfl
        have s1 : w5.cell? ⟨B, 1, none⟩ = some (.string tr.text) := (cell_of_row _ _ _ _ _ _ hx5).trans rfl
        have s2 : w5.cell? ⟨B, 2, none⟩ = some (.int .i64 tr.fr) := (cell_of_row _ _ _ _ _ _ hx5).trans rfl
        have s3 : w5.cell? ⟨B, 3, none⟩ = some (.int .i64 tr.to) := (cell_of_row _ _ _ _ _ _ hx5).trans rfl
        have s4 : w5.cell? ⟨B, 4, none⟩ = some (.slice ao tr.kids.length cp) := (cell_of_row _ _ _ _ _ _ hx5).trans rfl
        have hG := Lib.hid (hGt.out w5 x v p (hTW.out.below hb5.out) hp'.out hg'.out hpl)
        unfold GetEnd tagg at hG
        have hX := Lib.hid ((getT_all n2'.out hg'.out).self)
        unfold XOk at hX
        clear hx5 r0 r1 r2 r3 r4 hP hg' hp' hb b5'
        generalize x.kids.length = xl at *
        generalize x.kids = xk at *
        generalize x.fr = xf at *
        generalize x.to = xt at *
        generalize x.kind = xd at *
        generalize x.text = xx at *
        obtain ⟨h1, h2, h3, h4⟩ := hX.out
        obtain ⟨a, rfl⟩ := Int.eq_ofNat_of_zero_le h1
        obtain ⟨b, rfl⟩ := Int.eq_ofNat_of_zero_le (Int.le_trans h1 h2)
        have f1 : decide ((T.size : Int) < b) = false := decide_eq_false (by omega)
        have f2 : decide ((b : Int) < a) = false := decide_eq_false (by omega)
        have h4' := Lib.hid h4
        clear hX h4
        go_upto_region 15 with (go_at_call 23; refine hG.out.mono ?_; rintro e w6 ⟨ax, cx, rfl, _, b6⟩; have b6' := Lib.hid b6; clear b6)
        obtain ⟨W6, hW6⟩ : ∃ W6, w6.alloc (.cells #[.int .i64 xd, .string xx, .int .i64 a, .int .i64 b, .slice ax xl cx] 25) = W6 := ⟨_, rfl⟩
        rw [hW6]
        have hx6 : Hid (W6.heap[w6.heap.size]? = some (.cells #[.int .i64 xd, .string xx, .int .i64 a, .int .i64 b, .slice ax xl cx] 25 (0, 0))) := by unfold Hid; rw [← hW6]; exact block_new _ _ _
        have hb7 : Hid (Below W.heap.size W W6) := by
          unfold Hid
          rw [← hW6]
          have h8 := bel_then hb5.out hb5.out.size b6'.out
          exact h8.alloc h8.size _
        clear hW6 hG hb5 b6' s0 s1 s2 s3 s4
        by_cases hl0 : 0 < l.length
        · have g0 : decide (0 < (l.length : Int)) = true := decide_eq_true (by omega)
          go_wp2_with fail
          go_roundw
          case rel => exact ⟨k + 1, by omega, by go_num, hb7⟩
          case measure => simp [intOf]; omega
        · have g0 : decide (0 < (l.length : Int)) = false := decide_eq_false (by omega)
          have hl1 : l = [] := List.eq_nil_of_length_eq_zero (by omega)
          obtain ⟨y1, y2⟩ := h4'.out hl1
          simp only [Int.toNat_natCast] at y1 y2
          have x0 : W6.cell? ⟨w6.heap.size, 0, none⟩ = some (.int .i64 xd) := (cell_of_row _ _ _ _ _ _ hx6.out).trans rfl
          have x1 : W6.cell? ⟨w6.heap.size, 1, none⟩ = some (.string xx) := (cell_of_row _ _ _ _ _ _ hx6.out).trans rfl
          have x2 : W6.cell? ⟨w6.heap.size, 2, none⟩ = some (.int .i64 a) := (cell_of_row _ _ _ _ _ _ hx6.out).trans rfl
          have x3 : W6.cell? ⟨w6.heap.size, 3, none⟩ = some (.int .i64 b) := (cell_of_row _ _ _ _ _ _ hx6.out).trans rfl
          clear hx6 h4' hl1
          generalize w6.heap.size = X at *
          go_upto_region 17 with fail
          by_cases e35 : xd = 35 ∨ xd = 38
          · obtain rfl := y1 e35
            clear y1 y2
            rcases e35 with rfl | rfl
            · go_quiet (fail)
              go_wp2
              go_roundw
              case rel => exact ⟨k + 1, by omega, by go_num, Lib.hid (bl_drewN hb7.out _)⟩
              case measure => simp [intOf]; omega
            · go_quiet (fail)
              go_wp2
              go_roundw
              case rel => exact ⟨k + 1, by omega, by go_num, Lib.hid (bl_drewN hb7.out _)⟩
              case measure => simp [intOf]; omega
          · by_cases e36 : xd = 36
            · obtain ⟨y3, y4⟩ := y2 e36
              subst e36
              have hsz : (T.extract a b).size ≤ 100000 := by rw [ByteArray.size_extract]; omega
              have t1 := Lib.hid (fun (u : World) => trim_walk u (T.extract a b) hsz)
              have t2 := Lib.hid (fun (u : World) => trim_walk u xx (by omega))
              rw [y3] at t1
              generalize dropZ xx = z at *
              generalize T.extract a b = wd at *
              have t1' := Lib.hid (fun (u : World) => (t1.out u).mono fun _ _ (h : _ ∧ _) => (⟨h.1, h.2.symm⟩ : _ ∧ _))
              have t2' := Lib.hid (fun (u : World) => (t2.out u).mono fun _ _ (h : _ ∧ _) => (⟨h.1, h.2.symm⟩ : _ ∧ _))
              clear y1 y2 y3 y4 e35 hsz t1 t2
              go_quiet ((first | (go_at_call 24; (with_reducible exact Calls.quiet_of_same (t1'.out _))) | (go_at_call 24; (with_reducible exact Calls.quiet_of_same (t2'.out _)))))
              go_wp2
              go_roundw
              case rel => exact ⟨k + 1, by omega, by go_num, Lib.hid (bl_drewN hb7.out _)⟩
              case measure => simp [intOf]; omega
            · have f35 : (xd == 35) = false := by simp; omega
              have f38 : (xd == 38) = false := by simp; omega
              have f36 : (xd == 36) = false := by simpa using e36
              clear y1 y2 e35 e36
              go_quiet (fail)
              go_wp2
              go_roundw
              case rel => exact ⟨k + 1, by omega, by go_num, Lib.hid (bl_drewN hb7.out _)⟩
              case measure => simp [intOf]; omega
      · obtain rfl : k = N := by omega
        go_wp2_with fail
        go_ret
        exact ⟨rfl, bel_then hbW.out hbW.out.size hb.out⟩
end Go.Proofs.YthggagophcnkfaaGreatDoor.px
