/- The walk of the reference's Parse for a text that is not too large. -/
import Derived.Test.YthggagophcnkfaaGreatDoorTk
import Derived.Test.YthggagophcnkfaaGreatDoorM38
namespace Go.Proofs.YthggagophcnkfaaGreatDoor.py
open Go.RowKit Go.Proofs.YthggagophcnkfaaGreatDoor.agg Go.Proofs.YthggagophcnkfaaGreatDoor.sx Go.Proofs.YthggagophcnkfaaGreatDoor.lx Go.Proofs.YthggagophcnkfaaGreatDoor.px Go.Proofs.YthggagophcnkfaaGreatDoor.so
set_option linter.unusedSimpArgs false
set_option linter.unusedVariables false
set_option maxRecDepth 100000 in
set_option maxHeartbeats 4000000 in
theorem rparse_walk (w : World) (T : ByteArray) (hs : T.size ≤ 4096) : Calls Tryz.prog 11 #[.string T] w (RParseEnd w (parse T)) := by
 obtain ⟨S, hS⟩ : ∃ S, srcR T = S := ⟨_, rfl⟩
 have hB := Lib.hid (fun (W : World) => start_walk W T hs)
 unfold StartEnd at hB
 obtain ⟨R, hR⟩ : ∃ R, decls (src T).A (src T).A.length [] ⟨0, []⟩ = R := ⟨_, rfl⟩
 obtain ⟨r1, r2⟩ := R
 have hm : Hid (parse T = (.mk 2 ⟨#[]⟩ 0 T.size (r1.map (src T).tree), sortD ((src T).list r2))) := by
  unfold parse
  rw [hR]
  exact rfl
 have hR' : Hid (decls S.A S.A.length [] ⟨0, []⟩ = (r1, r2)) := by subst hS; exact hR
 rw [hS] at hB
 have hTs : Hid (S.T = T) := by subst hS; exact rfl
 generalize parse T = m at *
 have hT0 : (0 : Int) ≤ T.size := Int.natCast_nonneg _
 obtain ⟨ld, hld⟩ : ∃ ld, (toks T).flatMap (lexDg T) = ld := ⟨_, rfl⟩
 rw [hld] at hB
 clear hR
 go_enter Tryz.func11, Tryz.ntmps11
 go_wp2_with (go_at_call 31; refine (hB.out _).mono ?_; rintro e w1 ⟨P, tv, lw, rfl, p1, p2, p3, p4, p5, p6⟩; have p1' := Lib.hid p1; have p2' := Lib.hid p2; have p6' := Lib.hid p6; clear p1 p2 p6)
 obtain ⟨N, hN⟩ : ∃ N, w1.heap.size = N := ⟨_, rfl⟩
 have hNn := Lib.hid hN
 rw [hN]
 obtain ⟨W0, hW0⟩ : ∃ W0, w1.alloc (.cells #[.int .i64 2, .string ⟨#[]⟩, .int .i64 0, .int .i64 T.size, .slice none 0 0] 25) = W0 := ⟨_, rfl⟩
 rw [hW0]
 have hz0 : w1.heap.size < W0.heap.size := by rw [← hW0]; simp
 have hb0 : Hid (Below w1.heap.size w1 W0) := by unfold Hid; rw [← hW0]; exact (Below.refl _ _).alloc (Nat.le_refl _) _
 have hbx : Hid (W0.heap[N]? = some (.cells #[.int .i64 2, .string ⟨#[]⟩, .int .i64 0, .int .i64 T.size, .slice none 0 0] 25 (0, 0))) := by unfold Hid; rw [← hW0, ← hN]; exact block_new _ _ _
 have he0 := Lib.hid (EIn.start (p1'.out.below hb0.out))
 have hBn : Hid (W0.heap.size = N + 1) := by unfold Hid; rw [← hW0, ← hN]; simp
 rw [hBn.out] at he0
 have hPN : Hid (¬ pfoot P (.slice none 0 0) N ∧ tokBlock tv ≠ some N) := ⟨fun e => by have := p1'.out.lt N e; omega, fun e => by have := p1'.out.toks.lt N e; omega⟩
 clear hN hW0 hz0
 go_loopw [22] (fun _ wr => ∃ (k : Nat) (lv2 : Value) (s2 : Ps) (ao : Option Addr) (cp : Nat) (ks : Kds) (w0 : World), EIn w0 none (N + 1) P tv (.slice none 0 0) S ⟨0, []⟩ wr lv2 s2 (.slice ao ks.length cp) ks ∧ Hid (w0.heap[N]? = some (.cells #[.int .i64 2, .string ⟨#[]⟩, .int .i64 0, .int .i64 T.size, .slice ao ks.length cp] 25 (0, 0))) ∧ Hid (Below w1.heap.size w1 w0) ∧ ks.length ≤ s2.at_ ∧ S.L.length ≤ s2.at_ + k ∧ Hid (decls S.A k (ks.map Prod.snd) s2 = (r1, r2))) (fun _ wr => S.L.length - atOf P wr)
 case atStart => exact ⟨S.A.length, .slice none 0 0, ⟨0, []⟩, none, 0, [], W0, he0.out, hbx, hb0, by simp, by rw [px.Src.len]; omega, hR'⟩
 case round =>
  obtain ⟨k, lv4, s4, ao, cp, ks, w0, e5', hbx4, hb4, hkl, hk, hmo⟩ := hrel
  have e5 := Lib.hid e5'
  have hlt := e5'.pin.sok.lt
  have hato := Lib.hid e5'.pin.atOf
  clear e5'
  have hE := Lib.hid (fun (b : Bool) (hb : atEnd S.A s4 = b) (W : World) (lvq : Value) (q : PIn W P tv lvq S s4) => end_b q hb)
  cases hend : atEnd S.A s4 with
  | false =>
   have hE2 := Lib.hid (hE.out false hend)
   obtain ⟨k', rfl⟩ : ∃ k', k = k' + 1 := ⟨k - 1, by omega⟩
   have hmo2 := Lib.hid ((decls_go hend).symm.trans hmo.out)
   cases hdec : declares S.A s4 with
   | true =>
    have hdec' := Lib.hid (show isB S.A declWords s4 = true from hdec)
    have hD := Lib.hid (fun (W : World) (lvq : Value) (q : PIn W P tv lvq S s4) => declaration_walk q hdec)
    generalize declaration S.A s4 = k7 at *
    obtain ⟨kk7, s7⟩ := k7
    clear hend hmo hdec hE
    go_upto_region 7 with (first
     | (go_at_call 33; refine (e61.out.callIsS hs61.out true hdec'.out (by decide)).mono ?_; rintro e w6 ⟨rfl, g⟩; have e6 := Lib.hid g; clear g)
     | (go_at_call 34; refine (e60.out.callWs (by first | exact Below.refl _ _ | exact (Below.refl _ _).drew) rpdeclarations_ok).mono ?_; rintro e w61 ⟨o61, n61, c61, rfl, hs, g⟩; have e61 := Lib.hid g; have hs61 := Lib.hid hs; clear g hs)
     | (go_at_call 32; refine (e5.out.callB (by first | exact Below.refl _ _ | exact (Below.refl _ _).drew) (hE2.out _ _)).mono ?_; rintro e w60 ⟨rfl, g⟩; have e60 := Lib.hid g; clear g))
    have c6 : w6.drew.cell? ⟨N, 4, none⟩ = some (.slice ao ks.length cp) := (cell4 ((e6.out.kept.block N (lt_of_block hbx4.out) hPN.out.1).trans hbx4.out)).1
    refine wp_region_held_drew (S := fun _ => True) (by kernel_rfl) trivial (fun hHeld => ?_)
    refine tk (i := 0) (v := .pointer (some ⟨N, 4, none⟩)) rfl hHeld ?_
    try simp only [Act.put, kA, kB, kC, kD, kE, kF]
    refine tk (i := 2) (v := .pointer (some ⟨P, 0, none⟩)) rfl hHeld ?_
    try simp only [Act.put, kA, kB, kC, kD, kE, kF]
    refine wpAnyH_ready (rs := [1, 3]) (by kernel_rfl) (by simp) ?_
    refine AllReadyH.cons rfl (fun K hK => ?_) (AllReadyH.cons rfl (fun K hK => ?_) AllReadyH.nil)
    ·rw [if_pos (by rfl)]
     go_simp
     refine hK.out _ _ trivial (fun hHeld => ?_)
     clear hK K
     try simp only [Act.put, kA, kB, kC, kD, kE, kF]
     refine wpAnyH_ready (rs := [3]) (by kernel_rfl) (by simp) ?_
     refine AllReadyH.cons rfl (fun K hK => ?_) AllReadyH.nil
     rw [if_pos (by rfl)]
     go_simp
     go_at_call 35
     refine (e6.out.callNs (by first | exact Below.refl _ _ | exact (Below.refl _ _).drew) (Nat.le_succ _) (hD.out _ _)).mono ?_
     rintro e w9 ⟨lv9, nk9, nt9, na9, ne9, nao9, ncap9, nks9, rfl, g, hm9⟩
     simp only at hm9
     have e9 := Lib.hid g
     clear g
     have c9 : w9.cell? ⟨N, 4, none⟩ = some (.slice ao ks.length cp) := (cell4 ((e9.out.ein.kept.block N (lt_of_block hbx4.out) hPN.out.1).trans hbx4.out)).1
     refine hK.out _ _ trivial (fun hHeld => ?_)
     clear hK K
     try simp only [Act.put, kA, kB, kC, kD, kE, kF]
     refine wpAnyH_ready (rs := [4]) (by kernel_rfl) (by simp) ?_
     refine AllReadyH.cons rfl (fun K hK => ?_) AllReadyH.nil
     rw [if_pos (by rfl)]
     go_simp
     refine hK.out _ _ trivial (fun hHeld => ?_)
     clear hK K
     try simp only [Act.put, kA, kB, kC, kD, kE, kF]
     refine wpAnyH_ready (rs := [5]) (by kernel_rfl) (by simp) ?_
     refine AllReadyH.cons rfl (fun K hK => ?_) AllReadyH.nil
     rw [if_pos (by rfl)]
     refine wp_app (.tmp 29) (.tmp 32) rfl e9.out rfl rfl rfl (by simp only; omega) ?_
     intro g cap w10 e
     have e10 := Lib.hid e
     clear e
     refine hK.out _ _ trivial (fun hHeld => ?_)
     clear hK K
     try simp only [Act.put, kA, kB, kC, kD, kE, kF]
     obtain ⟨c10, f10⟩ := cell4 ((e10.out.kept.block N (lt_of_block hbx4.out) hPN.out.1).trans hbx4.out)
     refine tk (i := 6) (v := .pointer (some ⟨N, 4, none⟩)) rfl hHeld ?_
     try simp only [Act.put, kA, kB, kC, kD, kE, kF]
     refine wpAnyH_ready (rs := [7]) (by kernel_rfl) (by simp) ?_
     refine AllReadyH.cons rfl (fun K hK => ?_) AllReadyH.nil
     rw [if_pos (by rfl)]
     go_simp
     refine hK.out _ _ trivial (fun hHeld => ?_)
     clear hK K
     try simp only [Act.put, kA, kB, kC, kD, kE, kF]
     refine wpAnyH_done (by kernel_rfl) ?_ _
     clear hHeld c10 f10 c6 c9
     obtain ⟨q1, q2⟩ := e10.out.set4 hbx4.out hPN.out.1 hPN.out.2 (.slice (some ⟨g, 0, none⟩) (ks.length + 1) cap)
     have q1' := Lib.hid q1
     have q2' := Lib.hid q2
     have q3' := Lib.hid (Below.setCell hb4.out (show w1.heap.size ≤ (⟨N, 4, none⟩ : Addr).block from Nat.le_of_eq hNn.out) (.slice (some ⟨g, 0, none⟩) (ks.length + 1) cap))
     clear q1 q2
     go_wp2
     go_roundw
     case rel => exact ⟨k', lv9, s7, some ⟨g, 0, none⟩, cap, ks ++ [_], _, by simpa using q1'.out, by rw [List.length_append]; exact q2', q3', by simp; omega, by omega, by simpa using hmo2⟩
     case measure => rw [q1'.out.pin.atOf, hato.out]; simp only; omega
    ·rw [if_pos (by rfl)]
     go_simp
     go_at_call 35
     refine (e6.out.callNs (by first | exact Below.refl _ _ | exact (Below.refl _ _).drew) (Nat.le_succ _) (hD.out _ _)).mono ?_
     rintro e w9 ⟨lv9, nk9, nt9, na9, ne9, nao9, ncap9, nks9, rfl, g, hm9⟩
     simp only at hm9
     have e9 := Lib.hid g
     clear g
     have c9 : w9.cell? ⟨N, 4, none⟩ = some (.slice ao ks.length cp) := (cell4 ((e9.out.ein.kept.block N (lt_of_block hbx4.out) hPN.out.1).trans hbx4.out)).1
     refine hK.out _ _ trivial (fun hHeld => ?_)
     clear hK K
     try simp only [Act.put, kA, kB, kC, kD, kE, kF]
     refine wpAnyH_ready (rs := [1, 4]) (by kernel_rfl) (by simp) ?_
     refine AllReadyH.cons rfl (fun K hK => ?_) (AllReadyH.cons rfl (fun K hK => ?_) AllReadyH.nil)
     ·rw [if_pos (by rfl)]
      go_simp
      refine hK.out _ _ trivial (fun hHeld => ?_)
      clear hK K
      try simp only [Act.put, kA, kB, kC, kD, kE, kF]
      refine wpAnyH_ready (rs := [4]) (by kernel_rfl) (by simp) ?_
      refine AllReadyH.cons rfl (fun K hK => ?_) AllReadyH.nil
      rw [if_pos (by rfl)]
      go_simp
      refine hK.out _ _ trivial (fun hHeld => ?_)
      clear hK K
      try simp only [Act.put, kA, kB, kC, kD, kE, kF]
      refine wpAnyH_ready (rs := [5]) (by kernel_rfl) (by simp) ?_
      refine AllReadyH.cons rfl (fun K hK => ?_) AllReadyH.nil
      rw [if_pos (by rfl)]
      refine wp_app (.tmp 29) (.tmp 32) rfl e9.out rfl rfl rfl (by simp only; omega) ?_
      intro g cap w10 e
      have e10 := Lib.hid e
      clear e
      refine hK.out _ _ trivial (fun hHeld => ?_)
      clear hK K
      try simp only [Act.put, kA, kB, kC, kD, kE, kF]
      obtain ⟨c10, f10⟩ := cell4 ((e10.out.kept.block N (lt_of_block hbx4.out) hPN.out.1).trans hbx4.out)
      refine tk (i := 6) (v := .pointer (some ⟨N, 4, none⟩)) rfl hHeld ?_
      try simp only [Act.put, kA, kB, kC, kD, kE, kF]
      refine wpAnyH_ready (rs := [7]) (by kernel_rfl) (by simp) ?_
      refine AllReadyH.cons rfl (fun K hK => ?_) AllReadyH.nil
      rw [if_pos (by rfl)]
      go_simp
      refine hK.out _ _ trivial (fun hHeld => ?_)
      clear hK K
      try simp only [Act.put, kA, kB, kC, kD, kE, kF]
      refine wpAnyH_done (by kernel_rfl) ?_ _
      clear hHeld c10 f10 c6 c9
      obtain ⟨q1, q2⟩ := e10.out.set4 hbx4.out hPN.out.1 hPN.out.2 (.slice (some ⟨g, 0, none⟩) (ks.length + 1) cap)
      have q1' := Lib.hid q1
      have q2' := Lib.hid q2
      have q3' := Lib.hid (Below.setCell hb4.out (show w1.heap.size ≤ (⟨N, 4, none⟩ : Addr).block from Nat.le_of_eq hNn.out) (.slice (some ⟨g, 0, none⟩) (ks.length + 1) cap))
      clear q1 q2
      go_wp2
      go_roundw
      case rel => exact ⟨k', lv9, s7, some ⟨g, 0, none⟩, cap, ks ++ [_], _, by simpa using q1'.out, by rw [List.length_append]; exact q2', q3', by simp; omega, by omega, by simpa using hmo2⟩
      case measure => rw [q1'.out.pin.atOf, hato.out]; simp only; omega
     ·rw [if_pos (by rfl)]
      go_simp
      refine hK.out _ _ trivial (fun hHeld => ?_)
      clear hK K
      try simp only [Act.put, kA, kB, kC, kD, kE, kF]
      have c11 : (w9.alloc (.cells #[.int .i64 nk9, .string nt9, .int .i64 na9, .int .i64 ne9, .slice nao9 nks9.length ncap9] 25)).cell? ⟨N, 4, none⟩ = some (.slice ao ks.length cp) := (((Below.refl _ w9).alloc (Nat.le_refl _) _).cell (p := ⟨N, 4, none⟩) (by have := e9.out.ein.bb; simp only; omega)).trans c9
      refine wpAnyH_ready (rs := [1]) (by kernel_rfl) (by simp) ?_
      refine AllReadyH.cons rfl (fun K hK => ?_) AllReadyH.nil
      rw [if_pos (by rfl)]
      go_simp
      refine hK.out _ _ trivial (fun hHeld => ?_)
      clear hK K
      try simp only [Act.put, kA, kB, kC, kD, kE, kF]
      refine wpAnyH_ready (rs := [5]) (by kernel_rfl) (by simp) ?_
      refine AllReadyH.cons rfl (fun K hK => ?_) AllReadyH.nil
      rw [if_pos (by rfl)]
      refine wp_app (.tmp 29) (.tmp 32) rfl e9.out rfl rfl rfl (by simp only; omega) ?_
      intro g cap w10 e
      have e10 := Lib.hid e
      clear e
      refine hK.out _ _ trivial (fun hHeld => ?_)
      clear hK K
      try simp only [Act.put, kA, kB, kC, kD, kE, kF]
      obtain ⟨c10, f10⟩ := cell4 ((e10.out.kept.block N (lt_of_block hbx4.out) hPN.out.1).trans hbx4.out)
      refine tk (i := 6) (v := .pointer (some ⟨N, 4, none⟩)) rfl hHeld ?_
      try simp only [Act.put, kA, kB, kC, kD, kE, kF]
      refine wpAnyH_ready (rs := [7]) (by kernel_rfl) (by simp) ?_
      refine AllReadyH.cons rfl (fun K hK => ?_) AllReadyH.nil
      rw [if_pos (by rfl)]
      go_simp
      refine hK.out _ _ trivial (fun hHeld => ?_)
      clear hK K
      try simp only [Act.put, kA, kB, kC, kD, kE, kF]
      refine wpAnyH_done (by kernel_rfl) ?_ _
      clear hHeld c10 f10 c6 c9
      obtain ⟨q1, q2⟩ := e10.out.set4 hbx4.out hPN.out.1 hPN.out.2 (.slice (some ⟨g, 0, none⟩) (ks.length + 1) cap)
      have q1' := Lib.hid q1
      have q2' := Lib.hid q2
      have q3' := Lib.hid (Below.setCell hb4.out (show w1.heap.size ≤ (⟨N, 4, none⟩ : Addr).block from Nat.le_of_eq hNn.out) (.slice (some ⟨g, 0, none⟩) (ks.length + 1) cap))
      clear q1 q2
      go_wp2
      go_roundw
      case rel => exact ⟨k', lv9, s7, some ⟨g, 0, none⟩, cap, ks ++ [_], _, by simpa using q1'.out, by rw [List.length_append]; exact q2', q3', by simp; omega, by omega, by simpa using hmo2⟩
      case measure => rw [q1'.out.pin.atOf, hato.out]; simp only; omega
   | false =>
    have hdec' := Lib.hid (show isB S.A declWords s4 = false from hdec)
    have hk1 : Hid ((tok S.A (report 7 ⟨#[]⟩ s4)).kind ≠ 0) := atEnd_kind hend
    have hm2 : declaration S.A s4 = (node 0 s4.at_ ⟨#[]⟩ [] (skipDecl S.A S.A.length (next S.A (report 7 ⟨#[]⟩ s4)).2), skipDecl S.A S.A.length (next S.A (report 7 ⟨#[]⟩ s4)).2) := by
     rw [declaration]
     simp only
     rw [if_pos hdec]
    rw [hm2] at hmo2
    have h1 := Lib.hid (fun (W : World) (lvq : Value) (q : PIn W P tv lvq S s4) => report_walk q 7 ⟨#[]⟩ ⟨by decide, by decide, by simp⟩)
    have hs1 : (report 7 ⟨#[]⟩ s4).at_ = s4.at_ := rfl
    generalize report 7 ⟨#[]⟩ s4 = s5 at *
    have h2 := Lib.hid (fun (W : World) (lvq : Value) (q : PIn W P tv lvq S s5) => read_walk q hk1.out)
    have hs2 : Hid ((next S.A s5).2.at_ = s4.at_ + 1) := by rw [← hs1]; exact rfl
    generalize (next S.A s5).1 = x6 at *
    generalize (next S.A s5).2 = s6 at *
    obtain ⟨sR, hsR⟩ : ∃ R, skipDecl S.A S.A.length s6 = R := ⟨_, rfl⟩
    rw [hsR] at hmo2
    have hsR' := Lib.hid hsR
    clear hend hmo hdec hE hm2 hsR
    go_upto_region 9 with (first
     | (go_at_call 36; refine (e62.out.callS (by first | exact Below.refl _ _ | exact (Below.refl _ _).drew) (h1.out _ _)).mono ?_; rintro e w63 ⟨lv63, rfl, g⟩; have e63 := Lib.hid g; clear g)
     | (go_at_call 33; refine (e61.out.callIsS hs61.out false hdec'.out (by decide)).mono ?_; rintro e w62 ⟨rfl, g⟩; have e62 := Lib.hid g; clear g)
     | (go_at_call 34; refine (e60.out.callWs (by first | exact Below.refl _ _ | exact (Below.refl _ _).drew) rpdeclarations_ok).mono ?_; rintro e w61 ⟨o61, n61, c61, rfl, hs, g⟩; have e61 := Lib.hid g; have hs61 := Lib.hid hs; clear g hs)
     | (go_at_call 32; refine (e5.out.callB (by first | exact Below.refl _ _ | exact (Below.refl _ _).drew) (hE2.out _ _)).mono ?_; rintro e w60 ⟨rfl, g⟩; have e60 := Lib.hid g; clear g))
    have cat := e63.out.pin.cell.2.2.1
    have cla := e63.out.pin.cell.2.2.2.1
    rw [hs1] at cat cla
    have hPz := lt_of_block e63.out.pin.box
    go_region
    go_wp2_with (go_at_call 37; refine (e63.out.callS (by first | exact Below.refl _ _ | exact (Below.refl _ _).drew) (h2.out _ _)).mono ?_; rintro e w64 ⟨lv64, rfl, g⟩; have e64 := Lib.hid g; clear g)
    go_loopw [47] (fun _ wr => ∃ (k2 : Nat) (lv7 : Value) (s7 : Ps), EIn w0 none (N + 1) P tv (.slice none 0 0) S ⟨0, []⟩ wr lv7 s7 (.slice ao ks.length cp) ks ∧ S.L.length ≤ s7.at_ + k2 ∧ s4.at_ < s7.at_ ∧ Hid (skipDecl S.A k2 s7 = sR)) (fun _ wr => S.L.length - atOf P wr)
    case atStart => exact ⟨S.A.length, lv64, s6, e64.out, by rw [px.Src.len]; omega, by have := hs2.out; omega, hsR'⟩
    case round =>
     obtain ⟨k2, lv7, s7, e70', hk7, hs47, hmo7⟩ := hrel
     have e70 := Lib.hid e70'
     have hlt7 := e70'.pin.sok.lt
     have hato7 := Lib.hid e70'.pin.atOf
     clear e70'
     have hE7 := Lib.hid (fun (b : Bool) (hb : atEnd S.A s7 = b) (W : World) (lvq : Value) (q : PIn W P tv lvq S s7) => end_b q hb)
     have hs8 : Hid ((next S.A s7).2.at_ = s7.at_ + 1) := rfl
     cases hd7 : isB S.A declWords s7 with
     | true =>
      have hdT := Lib.hid hd7
      have hsE : skipDecl S.A k2 s7 = s7 := sdecl_stop (by rw [show declares S.A s7 = true from hd7]; simp)
      have hRs : s7 = sR := hsE.symm.trans hmo7.out
      subst hRs
      have hD := Lib.hid (fun (W : World) (lvq : Value) (q : PIn W P tv lvq S s7) => node_leaf q 0 s4.at_ ⟨#[]⟩ (Nat.le_of_lt hs47))
      generalize node 0 s4.at_ ⟨#[]⟩ [] s7 = kk7 at *
      clear hd7 hE7
      go_upto_region 13 with (first
       | (go_at_call 33; refine (e71.out.callIsS hs71.out true (show isB S.A declWords s7 = true from hdT.out) (by decide)).mono ?_; rintro e w6 ⟨rfl, g⟩; have e6 := Lib.hid g; clear g)
       | (go_at_call 34; refine (e70.out.callWs (by first | exact Below.refl _ _ | exact (Below.refl _ _).drew) rpdeclarations_ok).mono ?_; rintro e w71 ⟨o71, n71, c71, rfl, hs, g⟩; have e71 := Lib.hid g; have hs71 := Lib.hid hs; clear g hs))
      have c6 : w6.drew.cell? ⟨N, 4, none⟩ = some (.slice ao ks.length cp) := (cell4 ((e6.out.kept.block N (lt_of_block hbx4.out) hPN.out.1).trans hbx4.out)).1
      refine wp_region_held_drew (S := fun _ => True) (by kernel_rfl) trivial (fun hHeld => ?_)
      refine tk (i := 0) (v := .pointer (some ⟨N, 4, none⟩)) rfl hHeld ?_
      try simp only [Act.put, kA, kB, kC, kD, kE, kF]
      refine tk (i := 2) (v := .pointer (some ⟨P, 0, none⟩)) rfl hHeld ?_
      try simp only [Act.put, kA, kB, kC, kD, kE, kF]
      refine tk (i := 3) (v := .int .i64 s4.at_) rfl hHeld ?_
      try simp only [Act.put, kA, kB, kC, kD, kE, kF]
      refine tk (i := 4) (v := .int .i64 (S.last s4.at_)) rfl hHeld ?_
      try simp only [Act.put, kA, kB, kC, kD, kE, kF]
      refine wpAnyH_ready (rs := [1, 5]) (by kernel_rfl) (by simp) ?_
      refine AllReadyH.cons rfl (fun K hK => ?_) (AllReadyH.cons rfl (fun K hK => ?_) AllReadyH.nil)
      ·rw [if_pos (by rfl)]
       go_simp
       refine hK.out _ _ trivial (fun hHeld => ?_)
       clear hK K
       try simp only [Act.put, kA, kB, kC, kD, kE, kF]
       refine wpAnyH_ready (rs := [5]) (by kernel_rfl) (by simp) ?_
       refine AllReadyH.cons rfl (fun K hK => ?_) AllReadyH.nil
       rw [if_pos (by rfl)]
       go_simp
       go_at_call 38
       refine (e6.out.callNs (by first | exact Below.refl _ _ | exact (Below.refl _ _).drew) (Nat.le_refl _) (hD.out _ _)).mono ?_
       rintro e w9 ⟨lv9, nk9, nt9, na9, ne9, nao9, ncap9, nks9, rfl, g, hm9⟩
       simp only at hm9
       have e9 := Lib.hid g
       clear g
       have c9 : w9.cell? ⟨N, 4, none⟩ = some (.slice ao ks.length cp) := (cell4 ((e9.out.ein.kept.block N (lt_of_block hbx4.out) hPN.out.1).trans hbx4.out)).1
       refine hK.out _ _ trivial (fun hHeld => ?_)
       clear hK K
       try simp only [Act.put, kA, kB, kC, kD, kE, kF]
       refine wpAnyH_ready (rs := [6]) (by kernel_rfl) (by simp) ?_
       refine AllReadyH.cons rfl (fun K hK => ?_) AllReadyH.nil
       rw [if_pos (by rfl)]
       go_simp
       refine hK.out _ _ trivial (fun hHeld => ?_)
       clear hK K
       try simp only [Act.put, kA, kB, kC, kD, kE, kF]
       refine wpAnyH_ready (rs := [7]) (by kernel_rfl) (by simp) ?_
       refine AllReadyH.cons rfl (fun K hK => ?_) AllReadyH.nil
       rw [if_pos (by rfl)]
       refine wp_app (.tmp 59) (.tmp 64) rfl e9.out rfl rfl rfl (by simp only; omega) ?_
       intro g cap w10 e
       have e10 := Lib.hid e
       clear e
       refine hK.out _ _ trivial (fun hHeld => ?_)
       clear hK K
       try simp only [Act.put, kA, kB, kC, kD, kE, kF]
       obtain ⟨c10, f10⟩ := cell4 ((e10.out.kept.block N (lt_of_block hbx4.out) hPN.out.1).trans hbx4.out)
       refine tk (i := 8) (v := .pointer (some ⟨N, 4, none⟩)) rfl hHeld ?_
       try simp only [Act.put, kA, kB, kC, kD, kE, kF]
       refine wpAnyH_ready (rs := [9]) (by kernel_rfl) (by simp) ?_
       refine AllReadyH.cons rfl (fun K hK => ?_) AllReadyH.nil
       rw [if_pos (by rfl)]
       go_simp
       refine hK.out _ _ trivial (fun hHeld => ?_)
       clear hK K
       try simp only [Act.put, kA, kB, kC, kD, kE, kF]
       refine wpAnyH_done (by kernel_rfl) ?_ _
       clear hHeld c10 f10 c6 c9
       obtain ⟨q1, q2⟩ := e10.out.set4 hbx4.out hPN.out.1 hPN.out.2 (.slice (some ⟨g, 0, none⟩) (ks.length + 1) cap)
       have q1' := Lib.hid q1
       have q2' := Lib.hid q2
       have q3' := Lib.hid (Below.setCell hb4.out (show w1.heap.size ≤ (⟨N, 4, none⟩ : Addr).block from Nat.le_of_eq hNn.out) (.slice (some ⟨g, 0, none⟩) (ks.length + 1) cap))
       clear q1 q2
       go_wp2
       go_roundw
       case rel => exact ⟨k', lv9, s7, some ⟨g, 0, none⟩, cap, ks ++ [_], _, by simpa using q1'.out, by rw [List.length_append]; exact q2', q3', by simp; omega, by omega, by simpa using hmo2⟩
       case measure => rw [q1'.out.pin.atOf, hato.out]; simp only; omega
      ·rw [if_pos (by rfl)]
       go_simp
       go_at_call 38
       refine (e6.out.callNs (by first | exact Below.refl _ _ | exact (Below.refl _ _).drew) (Nat.le_refl _) (hD.out _ _)).mono ?_
       rintro e w9 ⟨lv9, nk9, nt9, na9, ne9, nao9, ncap9, nks9, rfl, g, hm9⟩
       simp only at hm9
       have e9 := Lib.hid g
       clear g
       have c9 : w9.cell? ⟨N, 4, none⟩ = some (.slice ao ks.length cp) := (cell4 ((e9.out.ein.kept.block N (lt_of_block hbx4.out) hPN.out.1).trans hbx4.out)).1
       refine hK.out _ _ trivial (fun hHeld => ?_)
       clear hK K
       try simp only [Act.put, kA, kB, kC, kD, kE, kF]
       refine wpAnyH_ready (rs := [1, 6]) (by kernel_rfl) (by simp) ?_
       refine AllReadyH.cons rfl (fun K hK => ?_) (AllReadyH.cons rfl (fun K hK => ?_) AllReadyH.nil)
       ·rw [if_pos (by rfl)]
        go_simp
        refine hK.out _ _ trivial (fun hHeld => ?_)
        clear hK K
        try simp only [Act.put, kA, kB, kC, kD, kE, kF]
        refine wpAnyH_ready (rs := [6]) (by kernel_rfl) (by simp) ?_
        refine AllReadyH.cons rfl (fun K hK => ?_) AllReadyH.nil
        rw [if_pos (by rfl)]
        go_simp
        refine hK.out _ _ trivial (fun hHeld => ?_)
        clear hK K
        try simp only [Act.put, kA, kB, kC, kD, kE, kF]
        refine wpAnyH_ready (rs := [7]) (by kernel_rfl) (by simp) ?_
        refine AllReadyH.cons rfl (fun K hK => ?_) AllReadyH.nil
        rw [if_pos (by rfl)]
        refine wp_app (.tmp 59) (.tmp 64) rfl e9.out rfl rfl rfl (by simp only; omega) ?_
        intro g cap w10 e
        have e10 := Lib.hid e
        clear e
        refine hK.out _ _ trivial (fun hHeld => ?_)
        clear hK K
        try simp only [Act.put, kA, kB, kC, kD, kE, kF]
        obtain ⟨c10, f10⟩ := cell4 ((e10.out.kept.block N (lt_of_block hbx4.out) hPN.out.1).trans hbx4.out)
        refine tk (i := 8) (v := .pointer (some ⟨N, 4, none⟩)) rfl hHeld ?_
        try simp only [Act.put, kA, kB, kC, kD, kE, kF]
        refine wpAnyH_ready (rs := [9]) (by kernel_rfl) (by simp) ?_
        refine AllReadyH.cons rfl (fun K hK => ?_) AllReadyH.nil
        rw [if_pos (by rfl)]
        go_simp
        refine hK.out _ _ trivial (fun hHeld => ?_)
        clear hK K
        try simp only [Act.put, kA, kB, kC, kD, kE, kF]
        refine wpAnyH_done (by kernel_rfl) ?_ _
        clear hHeld c10 f10 c6 c9
        obtain ⟨q1, q2⟩ := e10.out.set4 hbx4.out hPN.out.1 hPN.out.2 (.slice (some ⟨g, 0, none⟩) (ks.length + 1) cap)
        have q1' := Lib.hid q1
        have q2' := Lib.hid q2
        have q3' := Lib.hid (Below.setCell hb4.out (show w1.heap.size ≤ (⟨N, 4, none⟩ : Addr).block from Nat.le_of_eq hNn.out) (.slice (some ⟨g, 0, none⟩) (ks.length + 1) cap))
        clear q1 q2
        go_wp2
        go_roundw
        case rel => exact ⟨k', lv9, s7, some ⟨g, 0, none⟩, cap, ks ++ [_], _, by simpa using q1'.out, by rw [List.length_append]; exact q2', q3', by simp; omega, by omega, by simpa using hmo2⟩
        case measure => rw [q1'.out.pin.atOf, hato.out]; simp only; omega
       ·rw [if_pos (by rfl)]
        go_simp
        refine hK.out _ _ trivial (fun hHeld => ?_)
        clear hK K
        try simp only [Act.put, kA, kB, kC, kD, kE, kF]
        have c11 : (w9.alloc (.cells #[.int .i64 nk9, .string nt9, .int .i64 na9, .int .i64 ne9, .slice nao9 nks9.length ncap9] 25)).cell? ⟨N, 4, none⟩ = some (.slice ao ks.length cp) := (((Below.refl _ w9).alloc (Nat.le_refl _) _).cell (p := ⟨N, 4, none⟩) (by have := e9.out.ein.bb; simp only; omega)).trans c9
        refine wpAnyH_ready (rs := [1]) (by kernel_rfl) (by simp) ?_
        refine AllReadyH.cons rfl (fun K hK => ?_) AllReadyH.nil
        rw [if_pos (by rfl)]
        go_simp
        refine hK.out _ _ trivial (fun hHeld => ?_)
        clear hK K
        try simp only [Act.put, kA, kB, kC, kD, kE, kF]
        refine wpAnyH_ready (rs := [7]) (by kernel_rfl) (by simp) ?_
        refine AllReadyH.cons rfl (fun K hK => ?_) AllReadyH.nil
        rw [if_pos (by rfl)]
        refine wp_app (.tmp 59) (.tmp 64) rfl e9.out rfl rfl rfl (by simp only; omega) ?_
        intro g cap w10 e
        have e10 := Lib.hid e
        clear e
        refine hK.out _ _ trivial (fun hHeld => ?_)
        clear hK K
        try simp only [Act.put, kA, kB, kC, kD, kE, kF]
        obtain ⟨c10, f10⟩ := cell4 ((e10.out.kept.block N (lt_of_block hbx4.out) hPN.out.1).trans hbx4.out)
        refine tk (i := 8) (v := .pointer (some ⟨N, 4, none⟩)) rfl hHeld ?_
        try simp only [Act.put, kA, kB, kC, kD, kE, kF]
        refine wpAnyH_ready (rs := [9]) (by kernel_rfl) (by simp) ?_
        refine AllReadyH.cons rfl (fun K hK => ?_) AllReadyH.nil
        rw [if_pos (by rfl)]
        go_simp
        refine hK.out _ _ trivial (fun hHeld => ?_)
        clear hK K
        try simp only [Act.put, kA, kB, kC, kD, kE, kF]
        refine wpAnyH_done (by kernel_rfl) ?_ _
        clear hHeld c10 f10 c6 c9
        obtain ⟨q1, q2⟩ := e10.out.set4 hbx4.out hPN.out.1 hPN.out.2 (.slice (some ⟨g, 0, none⟩) (ks.length + 1) cap)
        have q1' := Lib.hid q1
        have q2' := Lib.hid q2
        have q3' := Lib.hid (Below.setCell hb4.out (show w1.heap.size ≤ (⟨N, 4, none⟩ : Addr).block from Nat.le_of_eq hNn.out) (.slice (some ⟨g, 0, none⟩) (ks.length + 1) cap))
        clear q1 q2
        go_wp2
        go_roundw
        case rel => exact ⟨k', lv9, s7, some ⟨g, 0, none⟩, cap, ks ++ [_], _, by simpa using q1'.out, by rw [List.length_append]; exact q2', q3', by simp; omega, by omega, by simpa using hmo2⟩
        case measure => rw [q1'.out.pin.atOf, hato.out]; simp only; omega
     | false =>
      have hd7' := Lib.hid hd7
      cases he7 : atEnd S.A s7 with
      | true =>
       have hE8 := Lib.hid (hE7.out true he7)
       have hsE : skipDecl S.A k2 s7 = s7 := sdecl_stop (by rw [he7]; rfl)
       have hRs : s7 = sR := hsE.symm.trans hmo7.out
       subst hRs
       have hD := Lib.hid (fun (W : World) (lvq : Value) (q : PIn W P tv lvq S s7) => node_leaf q 0 s4.at_ ⟨#[]⟩ (Nat.le_of_lt hs47))
       generalize node 0 s4.at_ ⟨#[]⟩ [] s7 = kk7 at *
       clear hd7 he7 hE7
       go_upto_region 13 with (first
        | (go_at_call 32; refine (e72.out.callB (by first | exact Below.refl _ _ | exact (Below.refl _ _).drew) (hE8.out _ _)).mono ?_; rintro e w6 ⟨rfl, g⟩; have e6 := Lib.hid g; clear g)
        | (go_at_call 33; refine (e71.out.callIsS hs71.out false (show isB S.A declWords s7 = false from hd7'.out) (by decide)).mono ?_; rintro e w72 ⟨rfl, g⟩; have e72 := Lib.hid g; clear g)
        | (go_at_call 34; refine (e70.out.callWs (by first | exact Below.refl _ _ | exact (Below.refl _ _).drew) rpdeclarations_ok).mono ?_; rintro e w71 ⟨o71, n71, c71, rfl, hs, g⟩; have e71 := Lib.hid g; have hs71 := Lib.hid hs; clear g hs))
       have c6 : w6.drew.cell? ⟨N, 4, none⟩ = some (.slice ao ks.length cp) := (cell4 ((e6.out.kept.block N (lt_of_block hbx4.out) hPN.out.1).trans hbx4.out)).1
       refine wp_region_held_drew (S := fun _ => True) (by kernel_rfl) trivial (fun hHeld => ?_)
       refine tk (i := 0) (v := .pointer (some ⟨N, 4, none⟩)) rfl hHeld ?_
       try simp only [Act.put, kA, kB, kC, kD, kE, kF]
       refine tk (i := 2) (v := .pointer (some ⟨P, 0, none⟩)) rfl hHeld ?_
       try simp only [Act.put, kA, kB, kC, kD, kE, kF]
       refine tk (i := 3) (v := .int .i64 s4.at_) rfl hHeld ?_
       try simp only [Act.put, kA, kB, kC, kD, kE, kF]
       refine tk (i := 4) (v := .int .i64 (S.last s4.at_)) rfl hHeld ?_
       try simp only [Act.put, kA, kB, kC, kD, kE, kF]
       refine wpAnyH_ready (rs := [1, 5]) (by kernel_rfl) (by simp) ?_
       refine AllReadyH.cons rfl (fun K hK => ?_) (AllReadyH.cons rfl (fun K hK => ?_) AllReadyH.nil)
       ·rw [if_pos (by rfl)]
        go_simp
        refine hK.out _ _ trivial (fun hHeld => ?_)
        clear hK K
        try simp only [Act.put, kA, kB, kC, kD, kE, kF]
        refine wpAnyH_ready (rs := [5]) (by kernel_rfl) (by simp) ?_
        refine AllReadyH.cons rfl (fun K hK => ?_) AllReadyH.nil
        rw [if_pos (by rfl)]
        go_simp
        go_at_call 38
        refine (e6.out.callNs (by first | exact Below.refl _ _ | exact (Below.refl _ _).drew) (Nat.le_refl _) (hD.out _ _)).mono ?_
        rintro e w9 ⟨lv9, nk9, nt9, na9, ne9, nao9, ncap9, nks9, rfl, g, hm9⟩
        simp only at hm9
        have e9 := Lib.hid g
        clear g
        have c9 : w9.cell? ⟨N, 4, none⟩ = some (.slice ao ks.length cp) := (cell4 ((e9.out.ein.kept.block N (lt_of_block hbx4.out) hPN.out.1).trans hbx4.out)).1
        refine hK.out _ _ trivial (fun hHeld => ?_)
        clear hK K
        try simp only [Act.put, kA, kB, kC, kD, kE, kF]
        refine wpAnyH_ready (rs := [6]) (by kernel_rfl) (by simp) ?_
        refine AllReadyH.cons rfl (fun K hK => ?_) AllReadyH.nil
        rw [if_pos (by rfl)]
        go_simp
        refine hK.out _ _ trivial (fun hHeld => ?_)
        clear hK K
        try simp only [Act.put, kA, kB, kC, kD, kE, kF]
        refine wpAnyH_ready (rs := [7]) (by kernel_rfl) (by simp) ?_
        refine AllReadyH.cons rfl (fun K hK => ?_) AllReadyH.nil
        rw [if_pos (by rfl)]
        refine wp_app (.tmp 59) (.tmp 64) rfl e9.out rfl rfl rfl (by simp only; omega) ?_
        intro g cap w10 e
        have e10 := Lib.hid e
        clear e
        refine hK.out _ _ trivial (fun hHeld => ?_)
        clear hK K
        try simp only [Act.put, kA, kB, kC, kD, kE, kF]
        obtain ⟨c10, f10⟩ := cell4 ((e10.out.kept.block N (lt_of_block hbx4.out) hPN.out.1).trans hbx4.out)
        refine tk (i := 8) (v := .pointer (some ⟨N, 4, none⟩)) rfl hHeld ?_
        try simp only [Act.put, kA, kB, kC, kD, kE, kF]
        refine wpAnyH_ready (rs := [9]) (by kernel_rfl) (by simp) ?_
        refine AllReadyH.cons rfl (fun K hK => ?_) AllReadyH.nil
        rw [if_pos (by rfl)]
        go_simp
        refine hK.out _ _ trivial (fun hHeld => ?_)
        clear hK K
        try simp only [Act.put, kA, kB, kC, kD, kE, kF]
        refine wpAnyH_done (by kernel_rfl) ?_ _
        clear hHeld c10 f10 c6 c9
        obtain ⟨q1, q2⟩ := e10.out.set4 hbx4.out hPN.out.1 hPN.out.2 (.slice (some ⟨g, 0, none⟩) (ks.length + 1) cap)
        have q1' := Lib.hid q1
        have q2' := Lib.hid q2
        have q3' := Lib.hid (Below.setCell hb4.out (show w1.heap.size ≤ (⟨N, 4, none⟩ : Addr).block from Nat.le_of_eq hNn.out) (.slice (some ⟨g, 0, none⟩) (ks.length + 1) cap))
        clear q1 q2
        go_wp2
        go_roundw
        case rel => exact ⟨k', lv9, s7, some ⟨g, 0, none⟩, cap, ks ++ [_], _, by simpa using q1'.out, by rw [List.length_append]; exact q2', q3', by simp; omega, by omega, by simpa using hmo2⟩
        case measure => rw [q1'.out.pin.atOf, hato.out]; simp only; omega
       ·rw [if_pos (by rfl)]
        go_simp
        go_at_call 38
        refine (e6.out.callNs (by first | exact Below.refl _ _ | exact (Below.refl _ _).drew) (Nat.le_refl _) (hD.out _ _)).mono ?_
        rintro e w9 ⟨lv9, nk9, nt9, na9, ne9, nao9, ncap9, nks9, rfl, g, hm9⟩
        simp only at hm9
        have e9 := Lib.hid g
        clear g
        have c9 : w9.cell? ⟨N, 4, none⟩ = some (.slice ao ks.length cp) := (cell4 ((e9.out.ein.kept.block N (lt_of_block hbx4.out) hPN.out.1).trans hbx4.out)).1
        refine hK.out _ _ trivial (fun hHeld => ?_)
        clear hK K
        try simp only [Act.put, kA, kB, kC, kD, kE, kF]
        refine wpAnyH_ready (rs := [1, 6]) (by kernel_rfl) (by simp) ?_
        refine AllReadyH.cons rfl (fun K hK => ?_) (AllReadyH.cons rfl (fun K hK => ?_) AllReadyH.nil)
        ·rw [if_pos (by rfl)]
         go_simp
         refine hK.out _ _ trivial (fun hHeld => ?_)
         clear hK K
         try simp only [Act.put, kA, kB, kC, kD, kE, kF]
         refine wpAnyH_ready (rs := [6]) (by kernel_rfl) (by simp) ?_
         refine AllReadyH.cons rfl (fun K hK => ?_) AllReadyH.nil
         rw [if_pos (by rfl)]
         go_simp
         refine hK.out _ _ trivial (fun hHeld => ?_)
         clear hK K
         try simp only [Act.put, kA, kB, kC, kD, kE, kF]
         refine wpAnyH_ready (rs := [7]) (by kernel_rfl) (by simp) ?_
         refine AllReadyH.cons rfl (fun K hK => ?_) AllReadyH.nil
         rw [if_pos (by rfl)]
         refine wp_app (.tmp 59) (.tmp 64) rfl e9.out rfl rfl rfl (by simp only; omega) ?_
         intro g cap w10 e
         have e10 := Lib.hid e
         clear e
         refine hK.out _ _ trivial (fun hHeld => ?_)
         clear hK K
         try simp only [Act.put, kA, kB, kC, kD, kE, kF]
         obtain ⟨c10, f10⟩ := cell4 ((e10.out.kept.block N (lt_of_block hbx4.out) hPN.out.1).trans hbx4.out)
         refine tk (i := 8) (v := .pointer (some ⟨N, 4, none⟩)) rfl hHeld ?_
         try simp only [Act.put, kA, kB, kC, kD, kE, kF]
         refine wpAnyH_ready (rs := [9]) (by kernel_rfl) (by simp) ?_
         refine AllReadyH.cons rfl (fun K hK => ?_) AllReadyH.nil
         rw [if_pos (by rfl)]
         go_simp
         refine hK.out _ _ trivial (fun hHeld => ?_)
         clear hK K
         try simp only [Act.put, kA, kB, kC, kD, kE, kF]
         refine wpAnyH_done (by kernel_rfl) ?_ _
         clear hHeld c10 f10 c6 c9
         obtain ⟨q1, q2⟩ := e10.out.set4 hbx4.out hPN.out.1 hPN.out.2 (.slice (some ⟨g, 0, none⟩) (ks.length + 1) cap)
         have q1' := Lib.hid q1
         have q2' := Lib.hid q2
         have q3' := Lib.hid (Below.setCell hb4.out (show w1.heap.size ≤ (⟨N, 4, none⟩ : Addr).block from Nat.le_of_eq hNn.out) (.slice (some ⟨g, 0, none⟩) (ks.length + 1) cap))
         clear q1 q2
         go_wp2
         go_roundw
         case rel => exact ⟨k', lv9, s7, some ⟨g, 0, none⟩, cap, ks ++ [_], _, by simpa using q1'.out, by rw [List.length_append]; exact q2', q3', by simp; omega, by omega, by simpa using hmo2⟩
         case measure => rw [q1'.out.pin.atOf, hato.out]; simp only; omega
        ·rw [if_pos (by rfl)]
         go_simp
         refine hK.out _ _ trivial (fun hHeld => ?_)
         clear hK K
         try simp only [Act.put, kA, kB, kC, kD, kE, kF]
         have c11 : (w9.alloc (.cells #[.int .i64 nk9, .string nt9, .int .i64 na9, .int .i64 ne9, .slice nao9 nks9.length ncap9] 25)).cell? ⟨N, 4, none⟩ = some (.slice ao ks.length cp) := (((Below.refl _ w9).alloc (Nat.le_refl _) _).cell (p := ⟨N, 4, none⟩) (by have := e9.out.ein.bb; simp only; omega)).trans c9
         refine wpAnyH_ready (rs := [1]) (by kernel_rfl) (by simp) ?_
         refine AllReadyH.cons rfl (fun K hK => ?_) AllReadyH.nil
         rw [if_pos (by rfl)]
         go_simp
         refine hK.out _ _ trivial (fun hHeld => ?_)
         clear hK K
         try simp only [Act.put, kA, kB, kC, kD, kE, kF]
         refine wpAnyH_ready (rs := [7]) (by kernel_rfl) (by simp) ?_
         refine AllReadyH.cons rfl (fun K hK => ?_) AllReadyH.nil
         rw [if_pos (by rfl)]
         refine wp_app (.tmp 59) (.tmp 64) rfl e9.out rfl rfl rfl (by simp only; omega) ?_
         intro g cap w10 e
         have e10 := Lib.hid e
         clear e
         refine hK.out _ _ trivial (fun hHeld => ?_)
         clear hK K
         try simp only [Act.put, kA, kB, kC, kD, kE, kF]
         obtain ⟨c10, f10⟩ := cell4 ((e10.out.kept.block N (lt_of_block hbx4.out) hPN.out.1).trans hbx4.out)
         refine tk (i := 8) (v := .pointer (some ⟨N, 4, none⟩)) rfl hHeld ?_
         try simp only [Act.put, kA, kB, kC, kD, kE, kF]
         refine wpAnyH_ready (rs := [9]) (by kernel_rfl) (by simp) ?_
         refine AllReadyH.cons rfl (fun K hK => ?_) AllReadyH.nil
         rw [if_pos (by rfl)]
         go_simp
         refine hK.out _ _ trivial (fun hHeld => ?_)
         clear hK K
         try simp only [Act.put, kA, kB, kC, kD, kE, kF]
         refine wpAnyH_done (by kernel_rfl) ?_ _
         clear hHeld c10 f10 c6 c9
         obtain ⟨q1, q2⟩ := e10.out.set4 hbx4.out hPN.out.1 hPN.out.2 (.slice (some ⟨g, 0, none⟩) (ks.length + 1) cap)
         have q1' := Lib.hid q1
         have q2' := Lib.hid q2
         have q3' := Lib.hid (Below.setCell hb4.out (show w1.heap.size ≤ (⟨N, 4, none⟩ : Addr).block from Nat.le_of_eq hNn.out) (.slice (some ⟨g, 0, none⟩) (ks.length + 1) cap))
         clear q1 q2
         go_wp2
         go_roundw
         case rel => exact ⟨k', lv9, s7, some ⟨g, 0, none⟩, cap, ks ++ [_], _, by simpa using q1'.out, by rw [List.length_append]; exact q2', q3', by simp; omega, by omega, by simpa using hmo2⟩
         case measure => rw [q1'.out.pin.atOf, hato.out]; simp only; omega
      | false =>
       have hE8 := Lib.hid (hE7.out false he7)
       have hN7 := Lib.hid (fun (W : World) (lvq : Value) (q : PIn W P tv lvq S s7) => read_walk q (atEnd_kind he7))
       obtain ⟨k3, rfl⟩ : ∃ k3, k2 = k3 + 1 := ⟨k2 - 1, by omega⟩
       have hmo8 := Lib.hid ((sdecl_go (A := S.A) (k := k3) (s := s7) (by rw [he7, show declares S.A s7 = false from hd7]; rfl)).symm.trans hmo7.out)
       generalize (next S.A s7).1 = x8 at *
       generalize (next S.A s7).2 = s8 at *
       clear he7 hd7 hE7 hmo7
       go_wp2_with (first
        | (go_at_call 37; refine (e73.out.callS (by first | exact Below.refl _ _ | exact (Below.refl _ _).drew) (hN7.out _ _)).mono ?_; rintro e w74 ⟨lv74, rfl, g⟩; have e74 := Lib.hid g; clear g)
        | (go_at_call 32; refine (e72.out.callB (by first | exact Below.refl _ _ | exact (Below.refl _ _).drew) (hE8.out _ _)).mono ?_; rintro e w73 ⟨rfl, g⟩; have e73 := Lib.hid g; clear g)
        | (go_at_call 33; refine (e71.out.callIsS hs71.out false hd7'.out (by decide)).mono ?_; rintro e w72 ⟨rfl, g⟩; have e72 := Lib.hid g; clear g)
        | (go_at_call 34; refine (e70.out.callWs (by first | exact Below.refl _ _ | exact (Below.refl _ _).drew) rpdeclarations_ok).mono ?_; rintro e w71 ⟨o71, n71, c71, rfl, hs, g⟩; have e71 := Lib.hid g; have hs71 := Lib.hid hs; clear g hs))
       go_roundw
       case rel => exact ⟨k3, lv74, s8, e74.out, by have := hs8.out; omega, by have := hs8.out; omega, hmo8⟩
       case measure => rw [e74.out.pin.atOf, hato7.out]; have := hs8.out; omega
  | true =>
   have hE2 := Lib.hid (hE.out true hend)
   have hst := (decls_stop hend (k := k) (l := ks.map Prod.snd)).symm.trans hmo.out
   obtain ⟨rfl, rfl⟩ : ks.map Prod.snd = r1 ∧ s4 = r2 := by simpa using hst
   clear hst hend hmo hR'
   go_upto_region 14 with (go_at_call 32; refine (e5.out.callB (by first | exact Below.refl _ _ | exact (Below.refl _ _).drew) (hE2.out _ _)).mono ?_; rintro e w6 ⟨rfl, g⟩; have e6 := Lib.hid g; clear g)
   have hN6 : Hid (w6.drew.heap[N]? = some (.cells #[.int .i64 2, .string ⟨#[]⟩, .int .i64 0, .int .i64 T.size, .slice ao ks.length cp] 25 (0, 0))) := (e6.out.kept.block N (lt_of_block hbx4.out) hPN.out.1).trans hbx4.out
   obtain ⟨cw, cwr⟩ : w6.drew.cell? ⟨P, 4, none⟩ = some lv4 ∧ True := ⟨e6.out.pin.cell.2.2.2.2.2.1, trivial⟩
   have hrl : Hid (w6.drew.ownsRow (w.alloc zbox).heap.size 34 4 lw ld.length (dgV ld)) := Lib.hid (ownsRow_same p2'.out (fun k hk => (e6.out.kept.block k (Nat.lt_of_lt_of_le (p2'.out.lt k hk).2 hb4.out.size) (fun e => by
    rcases e with rfl | e
    ·exact p4 hk
    ·simp [Value.ownBlock] at e)).trans (hb4.out.block k (p2'.out.lt k hk).2)))
   have hrd := Lib.hid (RowB.reads (C := S.list s4) (.inr e6.out.pin.list.drew))
   obtain ⟨i0, hi, hz0, hz1, hz2⟩ := info_parts info_dg
   have hl1 : (S.list s4).length ≤ 20001 := list_len e6.out.pin.sok e6.out.pin.ok
   have hPw := lt_of_block e6.out.pin.box
   have hldl : ld.length ≤ 20001 := by
    have h1 := lexDgs_len T (toks T)
    have h2 := toks_len' T
    rw [hld] at h1
    omega
   refine wp_region_held_drew (S := fun u => u.heap[N]? = some (.cells #[.int .i64 2, .string ⟨#[]⟩, .int .i64 0, .int .i64 T.size, .slice ao ks.length cp] 25 (0, 0))) (by kernel_rfl) hN6.out (fun hHeld => ?_)
   refine tk (i := 0) (v := .agg #[.int .i64 2, .string ⟨#[]⟩, .int .i64 0, .int .i64 T.size, .slice ao ks.length cp]) (hy := yieldsIf_load_mid (by rfl) _ _ rfl _ _ rfl [.int .i64 2, .string ⟨#[]⟩, .int .i64 0, .int .i64 T.size, .slice ao ks.length cp] _ (fun _ h => rangeAt_whole h) Tryz.underlying25 rfl info_nds) rfl hHeld ?_
   try simp only [Act.put, kA, kB, kC, kD, kE, kF]
   refine tk (i := 1) (v := lw) rfl hHeld ?_
   try simp only [Act.put, kA, kB, kC, kD, kE, kF]
   refine tk (i := 2) (v := .pointer (some ⟨P, 0, none⟩)) rfl hHeld ?_
   try simp only [Act.put, kA, kB, kC, kD, kE, kF]
   refine tk (i := 3) (v := .pointer (some ⟨P, 0, none⟩)) rfl hHeld ?_
   try simp only [Act.put, kA, kB, kC, kD, kE, kF]
   refine tk (i := 4) (v := .pointer (some ⟨P, 4, none⟩)) rfl hHeld ?_
   try simp only [Act.put, kA, kB, kC, kD, kE, kF]
   refine wpAnyH_ready (rs := [5]) (by kernel_rfl) (by simp) ?_
   refine AllReadyH.cons rfl (fun K hK => ?_) AllReadyH.nil
   rw [if_pos (by rfl)]
   go_simp
   refine hK.out _ _ hN6.out (fun hHeld => ?_)
   clear hK K
   try simp only [Act.put, kA, kB, kC, kD, kE, kF]
   refine wpAnyH_ready (rs := [6]) (by kernel_rfl) (by simp) ?_
   refine AllReadyH.cons rfl (fun K hK => ?_) AllReadyH.nil
   rw [if_pos (by rfl)]
   have hzb : (w.alloc zbox).heap.size = w.heap.size + 1 := by simp
   have hB6 : (w.alloc zbox).heap.size ≤ w6.drew.heap.size := Nat.le_trans p6'.out.size (Nat.le_trans hb4.out.size e6.out.kept.size)
   refine wp_append_reads (.tmp 68) (.tmp 72) 26 rfl (w.alloc zbox).heap.size 34 i0 _ 4 40 Tryz.underlying26 hi hz0 hz1 hz2 (by decide) lw ld.length (dgV ld) rfl (.inr hrl.out) lv4 (S.list s4).length (dgV (S.list s4)) rfl hrd.out (dgV_len _) (dgV_ones _) (by unfold maxLen; omega) (by omega) hB6 ?_
   intro ao7 c7 w7 hown7 hb7 hk7 _
   have hN7 : Hid (w7.heap[N]? = some (.cells #[.int .i64 2, .string ⟨#[]⟩, .int .i64 0, .int .i64 T.size, .slice ao ks.length cp] 25 (0, 0))) := (hk7.block N (lt_of_block hN6.out) (fun e => by have h1 := (p2'.out.lt N e).2; have h2 := hNn.out; omega)).trans hN6.out
   refine hK.out _ _ hN7.out (fun hHeld => ?_)
   clear hK K
   try simp only [Act.put, kA, kB, kC, kD, kE, kF]
   have hb7' := Lib.hid hb7
   have hk7' := Lib.hid hk7
   have hdg : DgsIn w7 (.slice ao7 (ld.length + (S.list s4).length) c7) (ld ++ S.list s4) := RowB.dgs (by rw [dgV_app]; exact hown7) (by simp)
   have hSo := Lib.hid (rsorted_walk w7 _ (ld ++ S.list s4) hdg (by rw [List.length_append]; omega))
   clear hdg hown7 hb7 hk7 hi hz0 hz1 hz2
   refine wpAnyH_ready (rs := [7]) (by kernel_rfl) (by simp) ?_
   refine AllReadyH.cons rfl (fun K hK => ?_) AllReadyH.nil
   rw [if_pos (by rfl)]
   go_simp
   go_at_call 39
   refine hSo.out.mono ?_
   rintro e w8 ⟨b8, cap8, rfl, hb8, hb8z, g1, g2⟩
   obtain ⟨n8, hn8⟩ : ∃ n, (sortD (ld ++ S.list s4)).length = n := ⟨_, rfl⟩
   rw [hn8]
   obtain ⟨v8, hv8⟩ : ∃ v, Value.slice (some ⟨b8, 0, none⟩) n8 cap8 = v := ⟨_, rfl⟩
   rw [hv8]
   have hv8' := Lib.hid hv8
   have hn8' := Lib.hid hn8
   clear hv8 hn8
   have g1' := Lib.hid g1
   have g2' := Lib.hid g2
   clear g1 g2
   have hpP : w.heap.size + 1 ≤ P := by rw [← hzb]; exact p3
   have hz1 : Hid (Below (w.heap.size + 1) (w.alloc zbox) w8) := by
    have a1 := p6'.out
    rw [hzb] at a1
    have a0 := a1.size
    rw [hzb] at a0
    have a2 := (hb4.out).mono (show w.heap.size + 1 ≤ w1.heap.size from a0)
    have a4 := hb4.out.size
    have a3 := e6.out.kept.below (w.heap.size + 1) (by omega) (fun i hi => by
     rcases hi with rfl | e
     ·exact hpP
     ·simp [Value.ownBlock] at e)
    have a5 := e6.out.kept.size
    have a6 := hb7'.out
    rw [hzb] at a6
    have a7 := g2'.out.mono (show w.heap.size + 1 ≤ w7.heap.size from by have := a6.size; have e9 : w6.drew.heap.size = w6.heap.size := rfl; omega)
    exact a1.trans (a2.trans (a3.trans ((Below.refl _ _).drew.trans (a6.trans a7))))
   have hz2 : Hid (w8.heap[w.heap.size]? = some zbox) := (hz1.out.block _ (Nat.lt_succ_self _)).trans (block_new _ _ _)
   have hz3 : Hid (w8.heap[N]? = some (.cells #[.int .i64 2, .string ⟨#[]⟩, .int .i64 0, .int .i64 T.size, .slice ao ks.length cp] 25 (0, 0))) := (g2'.out.block N (lt_of_block hN7.out)).trans hN7.out
   have hZN : Hid (w.heap.size + 1 ≤ N) := by
    have h1 := p6'.out.size
    have e2 := hNn.out
    rw [hzb] at h1
    unfold Hid
    omega
   obtain ⟨z0, z1, z2, z3, z4, z5⟩ : w8.cell? ⟨w.heap.size, 0, none⟩ = some (.int .i64 0) ∧ w8.cell? ⟨w.heap.size, 1, none⟩ = some (.string ⟨#[]⟩) ∧ w8.cell? ⟨w.heap.size, 2, none⟩ = some (.int .i64 0) ∧ w8.cell? ⟨w.heap.size, 3, none⟩ = some (.int .i64 0) ∧ w8.cell? ⟨w.heap.size, 4, none⟩ = some (.slice none 0 0) ∧ ∀ i, w8.frozen? ⟨w.heap.size, i, none⟩ = false := by
    have hb := hz2.out
    refine ⟨?_, ?_, ?_, ?_, ?_, fun i => ?_⟩ <;> simp [World.cell?, World.frozen?, hb, zbox]
   refine hK.out _ _ hz3.out (fun hHeld => ?_)
   clear hK K
   try simp only [Act.put, kA, kB, kC, kD, kE, kF]
   refine wpAnyH_ready (rs := [8]) (by kernel_rfl) (by simp) ?_
   refine AllReadyH.cons rfl (fun K hK => ?_) AllReadyH.nil
   rw [if_pos (by rfl)]
   go_simp
   refine hK.out _ _ (((kept5 _ _ _ _ _ _ _).block N (lt_of_block hz3.out) (fun e => by have := hZN.out; omega)).trans hz3.out) (fun hHeld => ?_)
   clear hK K
   try simp only [Act.put, kA, kB, kC, kD, kE, kF]
   refine tk (i := 9) (v := v8) rfl hHeld ?_
   try simp only [Act.put, kA, kB, kC, kD, kE, kF]
   refine tk (i := 10) (v := .int .i64 0) rfl hHeld ?_
   try simp only [Act.put, kA, kB, kC, kD, kE, kF]
   refine wpAnyH_done (by kernel_rfl) ?_ _
   clear hHeld
   go_wp2
   refine bodyPost_ret (v := .tuple #[.agg #[.int .i64 2, .string ⟨#[]⟩, .int .i64 0, .int .i64 T.size, .slice ao ks.length cp], v8, .int .i64 0]) (by simp [results, Tryz.results11, go_sem, z0, z1, z2, z3, z4] <;> rfl) rfl ?_
   rw [hm.out]
   have hl : (ks.map Prod.fst).length = ks.length := by simp
   have hKz := kept5 w8 w.heap.size (.int .i64 2) (.string ⟨#[]⟩) (.int .i64 0) (.int .i64 T.size) (.slice ao ks.length cp)
   have hlt7 : ∀ b, b < w6.heap.size → b < w7.heap.size := fun b hb => Nat.lt_of_lt_of_le hb hk7'.out.size
   have hlt6 : ∀ b, b < w6.heap.size → b < w8.heap.size := fun b hb => Nat.lt_of_lt_of_le (hlt7 b hb) g2'.out.size
   have hsame : ∀ b, b < w6.heap.size → N + 1 ≤ b ∧ ¬ pfoot P lv4 b → _ := fun b hb hq => (hKz.block b (hlt6 b hb) (fun e => by have := hZN.out; have := hq.1; omega)).trans ((g2'.out.block b (hlt7 b hb)).trans (hk7'.out.block b hb (fun e => by have h1 := (p2'.out.lt b e).2; have h2 := hNn.out; have := hq.1; omega)))
   have hsz : w6.heap.size ≤ _ := Nat.le_trans (Nat.le_trans hk7'.out.size g2'.out.size) hKz.size
   have hcnt := e6.out.cnt
   have hlen := e6.out.pin.ok.len
   refine ⟨v8, 2, ⟨#[]⟩, 0, T.size, ao, cp, ks.map Prod.fst, by rw [hl], ?_, ?_, ?_, ?_, ?_⟩
   ·simp only [Nd.tr, trs_map, List.map_map]
    congr 1
    refine List.map_congr_left fun p hp => ?_
    rw [Function.comp, Function.comp, ← tree_src, hS]
    exact (e6.out.kr.kids p hp).2
   ·rw [hl]
    refine .mk ((e6.out.kr.at_ (by omega)).same hsame hsz (fun b hb hq => by have := hZN.out; have := hq.1; omega)) fun n hn => ?_
    obtain ⟨p, hp, rfl⟩ := List.mem_map.1 hn
    have hn1 := (e6.out.kr.kids p hp).1
    exact NodeIn.same (w := w6) (G := fun b => N + 1 ≤ b ∧ ¬ pfoot P lv4 b ∧ (Value.slice ao ks.length cp).ownBlock ≠ some b) (fun b hb hq => hsame b hb ⟨hq.1, hq.2.1⟩) hsz (fun b hb hq => by have := hZN.out; have := hq.1; omega) hn1
   ·have e9 : (src T).list s4 = ld ++ S.list s4 := by rw [← hld, ← hS]; rfl
    rw [e9, ← hv8'.out]
    have hb9 : b8 ≠ w.heap.size := by
     have h1 := hz1.out.size
     have h2 := hb7'.out.size
     have e10 : w6.drew.heap.size = w6.heap.size := rfl
     rw [hzb] at hB6
     omega
    refine ⟨some ⟨b8, 0, none⟩, cap8, by rw [hn8'.out], fun i hi => ⟨b8, 0, rfl, Nat.lt_of_lt_of_le hb8z hKz.size, fun q u hu => ?_⟩⟩
    rw [Nat.zero_add]
    exact (World.cell?_of_block (a := ⟨b8, _, none⟩) (hKz.block b8 hb8z hb9)).trans (g1'.out.get hi q u hu)
   ·exact ((Below.refl _ w).alloc (Nat.le_refl _) zbox).trans ((hz1.out.mono (Nat.le_succ _)).trans (hKz.below _ (by have := hz1.out.size; simp at this; omega) (fun i hi => Nat.le_of_eq hi.symm)))
   ·have e9 : (src T).list s4 = ld ++ S.list s4 := by rw [← hld, ← hS]; rfl
    simp only
    rw [e9, sortD_len, List.length_append]
    omega
end Go.Proofs.YthggagophcnkfaaGreatDoor.py
