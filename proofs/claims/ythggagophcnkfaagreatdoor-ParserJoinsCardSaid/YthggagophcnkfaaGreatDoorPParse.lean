/- The walk of Parse for a text that is not too large. -/
import Derived.Test.YthggagophcnkfaaGreatDoorPParse0
import Derived.Test.YthggagophcnkfaaGreatDoorM11
namespace Go.Proofs.YthggagophcnkfaaGreatDoor.px
open Go.RowKit Go.Proofs.YthggagophcnkfaaGreatDoor.agg Go.Proofs.YthggagophcnkfaaGreatDoor.sx Go.Proofs.YthggagophcnkfaaGreatDoor.lx Go.Proofs.YthggagophcnkfaaGreatDoor.so
set_option linter.unusedSimpArgs false
set_option linter.unusedVariables false

theorem block_new (w : World) (c : Array Value) (t : TypeId) : (w.alloc (.cells c t)).heap[w.heap.size]? = some (.cells c t (0, 0)) :=
  (MapKept.heap_alloc w (.cells c t)).1
theorem cell4 {w : World} {N : Nat} {k : Int} {t : ByteArray} {a e : Int} {v0 : Value} (hb : w.heap[N]? = some (.cells #[.int .i64 k, .string t, .int .i64 a, .int .i64 e, v0] 25 (0, 0))) : w.cell? ⟨N, 4, none⟩ = some v0 ∧ w.frozen? ⟨N, 4, none⟩ = false := by
  constructor
  · exact (cell_of_row _ _ _ _ _ _ hb).trans rfl
  · simp [World.frozen?, hb]
set_option maxRecDepth 100000 in
set_option maxHeartbeats 4000000 in
theorem parse_walk (w : World) (hT : TabIn w) (T : ByteArray) (hs : T.size ≤ 4096) : Calls Tryz.prog 10 #[.string T] w (ParseEnd w T (parse T)) := by
  obtain ⟨S, hS⟩ : ∃ S, src T = S := ⟨_, rfl⟩
  have hB := Lib.hid (fun (W : World) (hb : Below w.heap.size w W) => begin_walk W (hT.below hb) T hs)
  unfold BeginEnd at hB
  obtain ⟨R, hR⟩ : ∃ R, decls (src T).A (src T).A.length [] ⟨0, []⟩ = R := ⟨_, rfl⟩
  obtain ⟨r1, r2⟩ := R
  have hm : Hid (parse T = (.mk 2 ⟨#[]⟩ 0 T.size (r1.map (src T).tree), sortD ((src T).list r2))) := by
    unfold parse
    rw [hR]
    exact rfl
  have hlo : Hid (∀ s, PsOk (src T) s → OkD ((src T).list s)) := fun s h => list_ok hs h
  have hro : Hid (∀ s, PsOk (src T) s → ResOk T (sortD ((src T).list s))) := fun s h => res_ok hs h (sortD_len _)
  have hfo : Hid (∀ s, s = r2 → PsOk (src T) s → FinOk T) := fun s e h => by unfold FinOk; rw [hR]; subst e; exact h
  have hR' := Lib.hid hR
  rw [hS] at hB hm hlo hR' hro hfo
  generalize parse T = m at *
  have hT0 : (0 : Int) ≤ T.size := Int.natCast_nonneg _
  clear hR hT hS
  go_enter Tryz.func10, Tryz.ntmps10
  go_wp2_with (go_at_call 27; refine (hB.out _ (by repeat (first | exact Below.refl _ _ | apply bl_drew | apply bl_alloc))).mono ?_; rintro e w1 ⟨P, tv, lv, rfl, p1, p2, p3⟩; have p1' := Lib.hid p1; have p2' := Lib.hid p2; have p3' := Lib.hid p3; clear p1 p2 p3)
  obtain ⟨N, hN⟩ : ∃ N, w1.heap.size = N := ⟨_, rfl⟩
  have hNn := Lib.hid hN
  rw [hN]
  obtain ⟨W0, hW0⟩ : ∃ W0, w1.alloc (.cells #[.int .i64 2, .string ⟨#[]⟩, .int .i64 0, .int .i64 T.size, .slice none 0 0] 25) = W0 := ⟨_, rfl⟩
  rw [hW0]
  have hz0 : w1.heap.size < W0.heap.size := by rw [← hW0]; simp
  have hb0 : Hid (Below w1.heap.size w1 W0) := by unfold Hid; rw [← hW0]; exact (Below.refl _ _).alloc (Nat.le_refl _) _
  have hbx : Hid (W0.heap[N]? = some (.cells #[.int .i64 2, .string ⟨#[]⟩, .int .i64 0, .int .i64 T.size, .slice none 0 0] 25 (0, 0))) := by unfold Hid; rw [← hW0, ← hN]; exact block_new _ _ _
  have he0 := Lib.hid (EIn.start (p1'.out.below hb0.out))
  have hBn : Hid (W0.heap.size = N + 1) := by unfold Hid; rw [← hW0, ← hN]; simp
  rw [hBn.out] at he0
  have hPN : Hid (¬ pfoot P lv N ∧ tokBlock tv ≠ some N) := ⟨fun e => by have := p1'.out.lt N e; omega, fun e => by have := p1'.out.toks.lt N e; omega⟩
  clear hN hW0 hz0
  go_loopw [22] (fun _ wr => ∃ (k : Nat) (lv2 : Value) (s2 : Ps) (ao : Option Addr) (cp : Nat) (ks : Kds) (w0 : World), EIn w0 none (N + 1) P tv lv S ⟨0, []⟩ wr lv2 s2 (.slice ao ks.length cp) ks ∧ Hid (w0.heap[N]? = some (.cells #[.int .i64 2, .string ⟨#[]⟩, .int .i64 0, .int .i64 T.size, .slice ao ks.length cp] 25 (0, 0))) ∧ Hid (Below w1.heap.size w1 w0) ∧ ks.length ≤ s2.at_ ∧ S.L.length ≤ s2.at_ + k ∧ Hid (decls S.A k (ks.map Prod.snd) s2 = (r1, r2))) (fun _ wr => S.L.length - atOf P wr)
  case atStart => exact ⟨S.A.length, lv, ⟨0, []⟩, none, 0, [], W0, he0.out, hbx, hb0, by simp, by rw [Src.len]; omega, hR'⟩
  case round =>
    obtain ⟨k, lv4, s4, ao, cp, ks, w0, e5', hbx4, hb4, hkl, hk, hmo⟩ := hrel
    have e5 := Lib.hid e5'
    have hlt := e5'.pin.sok.lt
    have hato := Lib.hid e5'.pin.atOf
    clear e5'
    have hE := Lib.hid (fun (W : World) (lvq : Value) (q : PIn W P tv lvq S s4) => end_walk q)
    cases hend : atEnd S.A s4 with
    | false =>
      rw [hend] at hE
      obtain ⟨k', rfl⟩ : ∃ k', k = k' + 1 := ⟨k - 1, by omega⟩
      have hmo2 := Lib.hid ((decls_go hend).symm.trans hmo.out)
      have hD := Lib.hid (fun (W : World) (lvq : Value) (q : PIn W P tv lvq S s4) => declaration_walk q hend)
      generalize declaration S.A s4 = k7 at *
      obtain ⟨kk7, s7⟩ := k7
      clear hend hmo
      go_wp2_with (go_at_call 28; refine (e5.out.callB (by repeat (first | exact Below.refl _ _ | apply bl_drew | apply bl_alloc)) (hE.out _ _)).mono ?_; rintro e w6 ⟨rfl, g⟩; have e6 := Lib.hid g; clear g)
      have c6 : w6.drew.cell? ⟨N, 4, none⟩ = some (.slice ao ks.length cp) := (cell4 ((e6.out.kept.block N (lt_of_block hbx4.out) hPN.out.1).trans hbx4.out)).1
      refine wp_region_held_drew (S := fun _ => True) (by kernel_rfl) trivial (fun hHeld => ?_)
      refine wpAnyH_take (i := 0) (v := .pointer (some ⟨N, 4, none⟩)) rfl (by kernel_rfl) (by kernel_rfl) (by kernel_rfl) (fun _ _ _ h => h) (Or.inl ⟨by rfl, by intro u hu; (try dsimp only at hu); go_simp⟩) hHeld ?_
      try simp only [Act.put, List.getElem_toArray, List.getElem_cons_zero, List.getElem_cons_succ, List.setIfInBounds_toArray, List.set_cons_zero, List.set_cons_succ]
      refine wpAnyH_take (i := 2) (v := .pointer (some ⟨P, 0, none⟩)) rfl (by kernel_rfl) (by kernel_rfl) (by kernel_rfl) (fun _ _ _ h => h) (Or.inl ⟨by rfl, by intro u hu; (try dsimp only at hu); go_simp⟩) hHeld ?_
      try simp only [Act.put, List.getElem_toArray, List.getElem_cons_zero, List.getElem_cons_succ, List.setIfInBounds_toArray, List.set_cons_zero, List.set_cons_succ]
      refine wpAnyH_ready (rs := [1, 3]) (by kernel_rfl) (by simp) ?_
      refine AllReadyH.cons rfl (fun K hK => ?_) (AllReadyH.cons rfl (fun K hK => ?_) AllReadyH.nil)
      · rw [if_pos (by rfl)]
        go_simp
        refine hK.out _ _ trivial (fun hHeld => ?_)
        clear hK K
        try simp only [Act.put, List.getElem_toArray, List.getElem_cons_zero, List.getElem_cons_succ, List.setIfInBounds_toArray, List.set_cons_zero, List.set_cons_succ]
        refine wpAnyH_ready (rs := [3]) (by kernel_rfl) (by simp) ?_
        refine AllReadyH.cons rfl (fun K hK => ?_) AllReadyH.nil
        rw [if_pos (by rfl)]
        go_simp
        go_at_call 29
        refine (e6.out.callNs (by repeat (first | exact Below.refl _ _ | apply bl_drew | apply bl_alloc)) (Nat.le_succ _) (hD.out _ _)).mono ?_
        rintro e w9 ⟨lv9, nk9, nt9, na9, ne9, nao9, ncap9, nks9, rfl, g, hm9⟩
        simp only at hm9
        have e9 := Lib.hid g
        clear g
        have c9 : w9.cell? ⟨N, 4, none⟩ = some (.slice ao ks.length cp) := (cell4 ((e9.out.ein.kept.block N (lt_of_block hbx4.out) hPN.out.1).trans hbx4.out)).1
        refine hK.out _ _ trivial (fun hHeld => ?_)
        clear hK K
        try simp only [Act.put, List.getElem_toArray, List.getElem_cons_zero, List.getElem_cons_succ, List.setIfInBounds_toArray, List.set_cons_zero, List.set_cons_succ]
        refine wpAnyH_ready (rs := [4]) (by kernel_rfl) (by simp) ?_
        refine AllReadyH.cons rfl (fun K hK => ?_) AllReadyH.nil
        rw [if_pos (by rfl)]
        go_simp
        refine hK.out _ _ trivial (fun hHeld => ?_)
        clear hK K
        try simp only [Act.put, List.getElem_toArray, List.getElem_cons_zero, List.getElem_cons_succ, List.setIfInBounds_toArray, List.set_cons_zero, List.set_cons_succ]
        refine wpAnyH_ready (rs := [5]) (by kernel_rfl) (by simp) ?_
        refine AllReadyH.cons rfl (fun K hK => ?_) AllReadyH.nil
        rw [if_pos (by rfl)]
        refine wp_app (.tmp 24) (.tmp 27) rfl e9.out rfl rfl rfl (by simp only; omega) ?_
        intro g cap w10 e
        have e10 := Lib.hid e
        clear e
        refine hK.out _ _ trivial (fun hHeld => ?_)
        clear hK K
        try simp only [Act.put, List.getElem_toArray, List.getElem_cons_zero, List.getElem_cons_succ, List.setIfInBounds_toArray, List.set_cons_zero, List.set_cons_succ]
        obtain ⟨c10, f10⟩ := cell4 ((e10.out.kept.block N (lt_of_block hbx4.out) hPN.out.1).trans hbx4.out)
        refine wpAnyH_take (i := 6) (v := .pointer (some ⟨N, 4, none⟩)) rfl (by kernel_rfl) (by kernel_rfl) (by kernel_rfl) (fun _ _ _ h => h) (Or.inl ⟨by rfl, by intro u hu; (try dsimp only at hu); go_simp⟩) hHeld ?_
        try simp only [Act.put, List.getElem_toArray, List.getElem_cons_zero, List.getElem_cons_succ, List.setIfInBounds_toArray, List.set_cons_zero, List.set_cons_succ]
        refine wpAnyH_ready (rs := [7]) (by kernel_rfl) (by simp) ?_
        refine AllReadyH.cons rfl (fun K hK => ?_) AllReadyH.nil
        rw [if_pos (by rfl)]
        go_simp
        refine hK.out _ _ trivial (fun hHeld => ?_)
        clear hK K
        try simp only [Act.put, List.getElem_toArray, List.getElem_cons_zero, List.getElem_cons_succ, List.setIfInBounds_toArray, List.set_cons_zero, List.set_cons_succ]
        refine wpAnyH_done (by kernel_rfl) ?_ _
        clear hHeld c10 f10 c6 c9
        obtain ⟨q1, q2⟩ := e10.out.set4 hbx4.out hPN.out.1 hPN.out.2 (.slice (some ⟨g, 0, none⟩) (ks.length + 1) cap)
        have q1' := Lib.hid q1
        have q2' := Lib.hid q2
        have q3' := Lib.hid (Below.setCell hb4.out (show w1.heap.size ≤ (⟨N, 4, none⟩ : Addr).block from Nat.le_of_eq hNn.out) (.slice (some ⟨g, 0, none⟩) (ks.length + 1) cap))
        clear q1 q2
        go_wp2
        go_roundw
        case rel => exact ⟨k', lv9, s7, some ⟨g, 0, none⟩, cap, ks ++ [_], _, by simpa using q1'.out, by rw [List.length_append]; exact q2', q3', by simp; omega, by omega, by simpa using hmo2⟩
        case measure => rw [q1'.out.pin.atOf, hato.out]; simp only; omega
      · rw [if_pos (by rfl)]
        go_simp
        go_at_call 29
        refine (e6.out.callNs (by repeat (first | exact Below.refl _ _ | apply bl_drew | apply bl_alloc)) (Nat.le_succ _) (hD.out _ _)).mono ?_
        rintro e w9 ⟨lv9, nk9, nt9, na9, ne9, nao9, ncap9, nks9, rfl, g, hm9⟩
        simp only at hm9
        have e9 := Lib.hid g
        clear g
        have c9 : w9.cell? ⟨N, 4, none⟩ = some (.slice ao ks.length cp) := (cell4 ((e9.out.ein.kept.block N (lt_of_block hbx4.out) hPN.out.1).trans hbx4.out)).1
        refine hK.out _ _ trivial (fun hHeld => ?_)
        clear hK K
        try simp only [Act.put, List.getElem_toArray, List.getElem_cons_zero, List.getElem_cons_succ, List.setIfInBounds_toArray, List.set_cons_zero, List.set_cons_succ]
        refine wpAnyH_ready (rs := [1, 4]) (by kernel_rfl) (by simp) ?_
        refine AllReadyH.cons rfl (fun K hK => ?_) (AllReadyH.cons rfl (fun K hK => ?_) AllReadyH.nil)
        · rw [if_pos (by rfl)]
          go_simp
          refine hK.out _ _ trivial (fun hHeld => ?_)
          clear hK K
          try simp only [Act.put, List.getElem_toArray, List.getElem_cons_zero, List.getElem_cons_succ, List.setIfInBounds_toArray, List.set_cons_zero, List.set_cons_succ]
          refine wpAnyH_ready (rs := [4]) (by kernel_rfl) (by simp) ?_
          refine AllReadyH.cons rfl (fun K hK => ?_) AllReadyH.nil
          rw [if_pos (by rfl)]
          go_simp
          refine hK.out _ _ trivial (fun hHeld => ?_)
          clear hK K
          try simp only [Act.put, List.getElem_toArray, List.getElem_cons_zero, List.getElem_cons_succ, List.setIfInBounds_toArray, List.set_cons_zero, List.set_cons_succ]
          refine wpAnyH_ready (rs := [5]) (by kernel_rfl) (by simp) ?_
          refine AllReadyH.cons rfl (fun K hK => ?_) AllReadyH.nil
          rw [if_pos (by rfl)]
          refine wp_app (.tmp 24) (.tmp 27) rfl e9.out rfl rfl rfl (by simp only; omega) ?_
          intro g cap w10 e
          have e10 := Lib.hid e
          clear e
          refine hK.out _ _ trivial (fun hHeld => ?_)
          clear hK K
          try simp only [Act.put, List.getElem_toArray, List.getElem_cons_zero, List.getElem_cons_succ, List.setIfInBounds_toArray, List.set_cons_zero, List.set_cons_succ]
          obtain ⟨c10, f10⟩ := cell4 ((e10.out.kept.block N (lt_of_block hbx4.out) hPN.out.1).trans hbx4.out)
          refine wpAnyH_take (i := 6) (v := .pointer (some ⟨N, 4, none⟩)) rfl (by kernel_rfl) (by kernel_rfl) (by kernel_rfl) (fun _ _ _ h => h) (Or.inl ⟨by rfl, by intro u hu; (try dsimp only at hu); go_simp⟩) hHeld ?_
          try simp only [Act.put, List.getElem_toArray, List.getElem_cons_zero, List.getElem_cons_succ, List.setIfInBounds_toArray, List.set_cons_zero, List.set_cons_succ]
          refine wpAnyH_ready (rs := [7]) (by kernel_rfl) (by simp) ?_
          refine AllReadyH.cons rfl (fun K hK => ?_) AllReadyH.nil
          rw [if_pos (by rfl)]
          go_simp
          refine hK.out _ _ trivial (fun hHeld => ?_)
          clear hK K
          try simp only [Act.put, List.getElem_toArray, List.getElem_cons_zero, List.getElem_cons_succ, List.setIfInBounds_toArray, List.set_cons_zero, List.set_cons_succ]
          refine wpAnyH_done (by kernel_rfl) ?_ _
          clear hHeld c10 f10 c6 c9
          obtain ⟨q1, q2⟩ := e10.out.set4 hbx4.out hPN.out.1 hPN.out.2 (.slice (some ⟨g, 0, none⟩) (ks.length + 1) cap)
          have q1' := Lib.hid q1
          have q2' := Lib.hid q2
          have q3' := Lib.hid (Below.setCell hb4.out (show w1.heap.size ≤ (⟨N, 4, none⟩ : Addr).block from Nat.le_of_eq hNn.out) (.slice (some ⟨g, 0, none⟩) (ks.length + 1) cap))
          clear q1 q2
          go_wp2
          go_roundw
          case rel => exact ⟨k', lv9, s7, some ⟨g, 0, none⟩, cap, ks ++ [_], _, by simpa using q1'.out, by rw [List.length_append]; exact q2', q3', by simp; omega, by omega, by simpa using hmo2⟩
          case measure => rw [q1'.out.pin.atOf, hato.out]; simp only; omega
        · rw [if_pos (by rfl)]
          go_simp
          refine hK.out _ _ trivial (fun hHeld => ?_)
          clear hK K
          try simp only [Act.put, List.getElem_toArray, List.getElem_cons_zero, List.getElem_cons_succ, List.setIfInBounds_toArray, List.set_cons_zero, List.set_cons_succ]
          have c11 : (w9.alloc (.cells #[.int .i64 nk9, .string nt9, .int .i64 na9, .int .i64 ne9, .slice nao9 nks9.length ncap9] 25)).cell? ⟨N, 4, none⟩ = some (.slice ao ks.length cp) := (((Below.refl _ w9).alloc (Nat.le_refl _) _).cell (p := ⟨N, 4, none⟩) (by have := e9.out.ein.bb; simp only; omega)).trans c9
          refine wpAnyH_ready (rs := [1]) (by kernel_rfl) (by simp) ?_
          refine AllReadyH.cons rfl (fun K hK => ?_) AllReadyH.nil
          rw [if_pos (by rfl)]
          go_simp
          refine hK.out _ _ trivial (fun hHeld => ?_)
          clear hK K
          try simp only [Act.put, List.getElem_toArray, List.getElem_cons_zero, List.getElem_cons_succ, List.setIfInBounds_toArray, List.set_cons_zero, List.set_cons_succ]
          refine wpAnyH_ready (rs := [5]) (by kernel_rfl) (by simp) ?_
          refine AllReadyH.cons rfl (fun K hK => ?_) AllReadyH.nil
          rw [if_pos (by rfl)]
          refine wp_app (.tmp 24) (.tmp 27) rfl e9.out rfl rfl rfl (by simp only; omega) ?_
          intro g cap w10 e
          have e10 := Lib.hid e
          clear e
          refine hK.out _ _ trivial (fun hHeld => ?_)
          clear hK K
          try simp only [Act.put, List.getElem_toArray, List.getElem_cons_zero, List.getElem_cons_succ, List.setIfInBounds_toArray, List.set_cons_zero, List.set_cons_succ]
          obtain ⟨c10, f10⟩ := cell4 ((e10.out.kept.block N (lt_of_block hbx4.out) hPN.out.1).trans hbx4.out)
          refine wpAnyH_take (i := 6) (v := .pointer (some ⟨N, 4, none⟩)) rfl (by kernel_rfl) (by kernel_rfl) (by kernel_rfl) (fun _ _ _ h => h) (Or.inl ⟨by rfl, by intro u hu; (try dsimp only at hu); go_simp⟩) hHeld ?_
          try simp only [Act.put, List.getElem_toArray, List.getElem_cons_zero, List.getElem_cons_succ, List.setIfInBounds_toArray, List.set_cons_zero, List.set_cons_succ]
          refine wpAnyH_ready (rs := [7]) (by kernel_rfl) (by simp) ?_
          refine AllReadyH.cons rfl (fun K hK => ?_) AllReadyH.nil
          rw [if_pos (by rfl)]
          go_simp
          refine hK.out _ _ trivial (fun hHeld => ?_)
          clear hK K
          try simp only [Act.put, List.getElem_toArray, List.getElem_cons_zero, List.getElem_cons_succ, List.setIfInBounds_toArray, List.set_cons_zero, List.set_cons_succ]
          refine wpAnyH_done (by kernel_rfl) ?_ _
          clear hHeld c10 f10 c6 c9
          obtain ⟨q1, q2⟩ := e10.out.set4 hbx4.out hPN.out.1 hPN.out.2 (.slice (some ⟨g, 0, none⟩) (ks.length + 1) cap)
          have q1' := Lib.hid q1
          have q2' := Lib.hid q2
          have q3' := Lib.hid (Below.setCell hb4.out (show w1.heap.size ≤ (⟨N, 4, none⟩ : Addr).block from Nat.le_of_eq hNn.out) (.slice (some ⟨g, 0, none⟩) (ks.length + 1) cap))
          clear q1 q2
          go_wp2
          go_roundw
          case rel => exact ⟨k', lv9, s7, some ⟨g, 0, none⟩, cap, ks ++ [_], _, by simpa using q1'.out, by rw [List.length_append]; exact q2', q3', by simp; omega, by omega, by simpa using hmo2⟩
          case measure => rw [q1'.out.pin.atOf, hato.out]; simp only; omega
    | true =>
      rw [hend] at hE
      have hst := (decls_stop hend (k := k) (l := ks.map Prod.snd)).symm.trans hmo.out
      obtain ⟨rfl, rfl⟩ : ks.map Prod.snd = r1 ∧ s4 = r2 := by simpa using hst
      clear hst hend hmo hR'
      go_wp2_with (go_at_call 28; refine (e5.out.callB (by repeat (first | exact Below.refl _ _ | apply bl_drew | apply bl_alloc)) (hE.out _ _)).mono ?_; rintro e w6 ⟨rfl, g⟩; have e6 := Lib.hid g; clear g)
      have hN6 : Hid (w6.drew.heap[N]? = some (.cells #[.int .i64 2, .string ⟨#[]⟩, .int .i64 0, .int .i64 T.size, .slice ao ks.length cp] 25 (0, 0))) := (e6.out.kept.block N (lt_of_block hbx4.out) hPN.out.1).trans hbx4.out
      have hDg := Lib.hid (diag_walk (e6.out.pin.below (Below.refl _ _).drew) (hlo.out _ e6.out.pin.sok) (Nat.le_trans (list_len e6.out.pin.sok e6.out.pin.ok) (by decide)))
      refine wp_region_held_drew (S := fun u => u.heap[N]? = some (.cells #[.int .i64 2, .string ⟨#[]⟩, .int .i64 0, .int .i64 T.size, .slice ao ks.length cp] 25 (0, 0))) (by kernel_rfl) hN6.out (fun hHeld => ?_)
      refine wpAnyH_take (i := 0) (v := .agg #[.int .i64 2, .string ⟨#[]⟩, .int .i64 0, .int .i64 T.size, .slice ao ks.length cp]) rfl (by kernel_rfl) (by kernel_rfl) (by kernel_rfl) (fun _ _ _ h => h) (yieldsIf_load_mid (by rfl) _ _ rfl _ _ rfl [.int .i64 2, .string ⟨#[]⟩, .int .i64 0, .int .i64 T.size, .slice ao ks.length cp] _ (fun _ h => rangeAt_whole h) Tryz.underlying25 rfl info_nds) hHeld ?_
      try simp only [Act.put, List.getElem_toArray, List.getElem_cons_zero, List.getElem_cons_succ, List.setIfInBounds_toArray, List.set_cons_zero, List.set_cons_succ]
      refine wpAnyH_take (i := 1) (v := .pointer (some ⟨P, 0, none⟩)) rfl (by kernel_rfl) (by kernel_rfl) (by kernel_rfl) (fun _ _ _ h => h) (Or.inl ⟨by rfl, by intro u hu; (try dsimp only at hu); go_simp⟩) hHeld ?_
      try simp only [Act.put, List.getElem_toArray, List.getElem_cons_zero, List.getElem_cons_succ, List.setIfInBounds_toArray, List.set_cons_zero, List.set_cons_succ]
      refine wpAnyH_ready (rs := [2]) (by kernel_rfl) (by simp) ?_
      refine AllReadyH.cons rfl (fun K hK => ?_) AllReadyH.nil
      rw [if_pos (by rfl)]
      go_simp
      go_at_call 30
      refine hDg.out.mono ?_
      rintro e w7 ⟨rfl, g1, g2⟩
      have g1' := Lib.hid g1
      have g2' := Lib.hid g2
      clear g1 g2
      have hz1 : Hid (Below (w.heap.size + 1) (w.alloc zbox) w7) := by
        have a1 := p3'.out
        have ez : (w.alloc zbox).heap.size = w.heap.size + 1 := by simp
        rw [ez] at a1
        have a0 := a1.size
        have a2 := (hb4.out).mono (show w.heap.size + 1 ≤ w1.heap.size by rw [ez] at a0; exact a0)
        have hpf : ∀ i, pfoot P lv i → w.heap.size + 1 ≤ i := fun i hi => by have := p2'.out i (.inl hi); rw [ez] at this; exact this
        have a4 := hb4.out.size
        rw [ez] at a0
        have a3 := e6.out.kept.below (w.heap.size + 1) (by omega) hpf
        have a5 := e6.out.kept.size
        have a6 := g2'.out.below (w.heap.size + 1) (by show _ ≤ w6.heap.size; omega) (fun i hi => by
          rcases e6.out.fresh i hi with e | e
          · exact hpf i (.inr e)
          · omega)
        exact a1.trans (a2.trans (a3.trans ((Below.refl _ _).drew.trans a6)))
      have hz2 : Hid (w7.heap[w.heap.size]? = some zbox) := (hz1.out.block _ (Nat.lt_succ_self _)).trans (block_new _ _ _)
      have hz3 : Hid (w7.heap[N]? = some (.cells #[.int .i64 2, .string ⟨#[]⟩, .int .i64 0, .int .i64 T.size, .slice ao ks.length cp] 25 (0, 0))) := (g2'.out.block N (lt_of_block hN6.out) (fun e => pfoot_fresh e6.out.fresh (lt_of_block hbx4.out) hPN.out.1 (.inr e))).trans hN6.out
      have hZN : Hid (w.heap.size + 1 ≤ N) := by
        have := p3'.out.size
        have ez : (w.alloc zbox).heap.size = w.heap.size + 1 := by simp
        have e2 := hNn.out
        rw [ez] at this
        unfold Hid
        omega
      obtain ⟨z0, z1, z2, z3, z4, z5⟩ : w7.cell? ⟨w.heap.size, 0, none⟩ = some (.int .i64 0) ∧ w7.cell? ⟨w.heap.size, 1, none⟩ = some (.string ⟨#[]⟩) ∧ w7.cell? ⟨w.heap.size, 2, none⟩ = some (.int .i64 0) ∧ w7.cell? ⟨w.heap.size, 3, none⟩ = some (.int .i64 0) ∧ w7.cell? ⟨w.heap.size, 4, none⟩ = some (.slice none 0 0) ∧ ∀ i, w7.frozen? ⟨w.heap.size, i, none⟩ = false := by
        have hb := hz2.out
        refine ⟨?_, ?_, ?_, ?_, ?_, fun i => ?_⟩ <;> simp [World.cell?, World.frozen?, hb, zbox]
      refine hK.out _ _ hz3.out (fun hHeld => ?_)
      clear hK K
      try simp only [Act.put, List.getElem_toArray, List.getElem_cons_zero, List.getElem_cons_succ, List.setIfInBounds_toArray, List.set_cons_zero, List.set_cons_succ]
      refine wpAnyH_ready (rs := [3]) (by kernel_rfl) (by simp) ?_
      refine AllReadyH.cons rfl (fun K hK => ?_) AllReadyH.nil
      rw [if_pos (by rfl)]
      go_simp
      refine hK.out _ _ (((kept5 _ _ _ _ _ _ _).block N (lt_of_block hz3.out) (fun e => by have := hZN.out; omega)).trans hz3.out) (fun hHeld => ?_)
      clear hK K
      try simp only [Act.put, List.getElem_toArray, List.getElem_cons_zero, List.getElem_cons_succ, List.setIfInBounds_toArray, List.set_cons_zero, List.set_cons_succ]
      refine wpAnyH_take (i := 4) (v := lv4) rfl (by kernel_rfl) (by kernel_rfl) (by kernel_rfl) (fun _ _ _ h => h) (Or.inl ⟨by rfl, by intro u hu; (try dsimp only at hu); go_simp⟩) hHeld ?_
      try simp only [Act.put, List.getElem_toArray, List.getElem_cons_zero, List.getElem_cons_succ, List.setIfInBounds_toArray, List.set_cons_zero, List.set_cons_succ]
      refine wpAnyH_take (i := 5) (v := .int .i64 0) rfl (by kernel_rfl) (by kernel_rfl) (by kernel_rfl) (fun _ _ _ h => h) (Or.inl ⟨by rfl, by intro u hu; (try dsimp only at hu); go_simp⟩) hHeld ?_
      try simp only [Act.put, List.getElem_toArray, List.getElem_cons_zero, List.getElem_cons_succ, List.setIfInBounds_toArray, List.set_cons_zero, List.set_cons_succ]
      refine wpAnyH_done (by kernel_rfl) ?_ _
      clear hHeld
      go_wp2
      refine bodyPost_ret (v := .tuple #[.agg #[.int .i64 2, .string ⟨#[]⟩, .int .i64 0, .int .i64 T.size, .slice ao ks.length cp], lv4, .int .i64 0]) (by simp [results, Tryz.results10, go_sem, z0, z1, z2, z3, z4] <;> rfl) rfl ?_
      rw [hm.out]
      have hl : (ks.map Prod.fst).length = ks.length := by simp
      have hKz := kept5 w7 w.heap.size (.int .i64 2) (.string ⟨#[]⟩) (.int .i64 0) (.int .i64 T.size) (.slice ao ks.length cp)
      have hlt6 : ∀ b, b < w6.heap.size → b < w7.heap.size := fun b hb => Nat.lt_of_lt_of_le hb (by have := g2'.out.size; exact this)
      have hsame : ∀ b, b < w6.heap.size → N + 1 ≤ b ∧ ¬ pfoot P lv4 b → _ := fun b hb hq => (hKz.block b (hlt6 b hb) (fun e => by have := hZN.out; omega)).trans (g2'.out.block b hb (fun e => hq.2 (.inr e)))
      have hsz := Nat.le_trans (show w6.heap.size ≤ w7.heap.size from g2'.out.size) hKz.size
      have hcnt := e6.out.cnt
      have hlen := e6.out.pin.ok.len
      refine ⟨lv4, 2, ⟨#[]⟩, 0, T.size, ao, cp, ks.map Prod.fst, by rw [hl], ?_, ?_, ?_, ?_, hro.out _ e6.out.pin.sok, hfo.out _ rfl e6.out.pin.sok⟩
      · simp only [Nd.tr, trs_map, List.map_map]
        congr 1
        refine List.map_congr_left fun p hp => ?_
        exact (e6.out.kr.kids p hp).2
      · rw [hl]
        refine .mk ((e6.out.kr.at_ (by omega)).same hsame hsz (fun b hb hq => by have := hZN.out; have := hq.1; omega)) fun n hn => ?_
        obtain ⟨p, hp, rfl⟩ := List.mem_map.1 hn
        have hn1 := (e6.out.kr.kids p hp).1
        exact NodeIn.same (w := w6) (G := fun b => N + 1 ≤ b ∧ ¬ pfoot P lv4 b ∧ (Value.slice ao ks.length cp).ownBlock ≠ some b) (fun b hb hq => hsame b hb ⟨hq.1, hq.2.1⟩) hsz (fun b hb hq => by have := hZN.out; have := hq.1; omega) hn1
      · have hbk : ∀ b, lv4.ownBlock = some b → w.heap.size + 1 ≤ b := fun i hi => by
          rcases e6.out.fresh i hi with e | e
          · have := p2'.out i (.inl (.inr e))
            simpa using this
          · have := hb4.out.size
            have := hNn.out
            have := hZN.out
            omega
        have h1 : (sortD (S.list s4)).length = (S.list s4).length := sortD_len _
        rw [h1]
        exact ownsRow_up (ownsRow_same g1'.out (fun b hb => hKz.block b (g1'.out.lt b hb).2 (fun e => by have := hbk b hb; omega))) (fun b hb => Nat.le_of_succ_le (hbk b hb))
      · exact ((Below.refl _ w).alloc (Nat.le_refl _) zbox).trans ((hz1.out.mono (Nat.le_succ _)).trans (hKz.below _ (by have := hz1.out.size; simp at this; omega) (fun i hi => Nat.le_of_eq hi.symm)))
end Go.Proofs.YthggagophcnkfaaGreatDoor.px
