/- The walk of the reference lexer's Scan. -/
import Derived.Test.YthggagophcnkfaaGreatDoorQLexD
import Derived.Test.YthggagophcnkfaaGreatDoorPBegin
namespace Go.Proofs.YthggagophcnkfaaGreatDoor.lx
open Go.RowKit Go.Proofs.YthggagophcnkfaaGreatDoor.agg Go.Proofs.YthggagophcnkfaaGreatDoor.sx Go.Proofs.YthggagophcnkfaaGreatDoor.px
set_option linter.unusedSimpArgs false
set_option linter.unusedVariables false

theorem info_tk3 : (Tryz.prog.info? 39).map (fun i => (i.zero, i.size, i.bytes)) = some (some (.agg #[.int .i64 0, .int .i64 0, .int .i64 0, .int .i64 0]), 4, 32) := by kernel_rfl
theorem scan_end {n : Nat} {l : List UInt8} {pos : Nat} (h : l.drop (skipS false l) = []) : scan (n + 1) l pos = [⟨0, pos, pos + skipS false l, pos + skipS false l⟩] := by
  rw [scan, h]
theorem scan_step {n : Nat} {l l2 : List UInt8} {pos : Nat} (h : l.drop (skipS false l) = l2) (h2 : l2 ≠ []) : scan (n + 1) l pos = ⟨(tokB l2).1, pos, pos + skipS false l, pos + skipS false l + (tokB l2).2⟩ :: scan n (l2.drop (tokB l2).2) (pos + skipS false l + (tokB l2).2) := by
  rw [scan, h]
  cases l2 with
  | nil => exact absurd rfl h2
  | cons c r => rfl
theorem skip_skip (l : List UInt8) : skipS false (l.drop (skipS false l)) = 0 := by
  have h : ∀ (b : Bool) (l : List UInt8), skipS false (l.drop (skipS b l)) = 0 := by
    intro b l
    induction l generalizing b with
    | nil => cases b <;> rfl
    | cons c l ih =>
      cases b with
      | false =>
        cases h1 : whiteB c with
        | true => rw [skip_white h1, Nat.add_comm, List.drop_succ_cons]; exact ih false
        | false =>
          cases h2 : c == 35 with
          | true => rw [comment_start h1 h2, comment_step (by rw [show c = 35 by simpa using h2]; decide), List.drop_succ_cons]; exact ih true
          | false => rw [skip_other h1 h2, List.drop_zero, skip_other h1 h2]
      | true =>
        cases h2 : c == 10 with
        | true => rw [comment_stop h2, skip_white (by rw [show c = 10 by simpa using h2]; decide), Nat.add_comm, List.drop_succ_cons]; exact ih false
        | false => rw [comment_step h2, List.drop_succ_cons]; exact ih true
  exact h false l
theorem tokV_snoc (ts : List Tok) (t : Tok) : tokV (ts ++ [t]) = tokV ts ++ t.cells.toList := by rw [tokV_app]; simp [tokV]
theorem tokB_le (l : List UInt8) : (tokB l).2 ≤ l.length := tokB_len l
/-- Rows that grow behind a place. -/
theorem own_grow {B : Nat} {w0 w W0 w' : World} {e : TypeId} {size n : Nat} {v : Value} {xs : List Value} (h : w.ownsRow B e size v n xs) (hw : Below B w0 w) (hb : Below w.heap.size w W0) (hs : B ≤ w.heap.size) (hg : W0.grownBy w' v.ownBlock) : Below B w0 w' :=
  hw.trans ((hb.mono hs).trans ((Kept.grown (F := fun k => v.ownBlock = some k) hg (fun k hk => hk)).below B (Nat.le_trans hs hb.size) (fun i hi => (h.lt i hi).1)))
set_option maxRecDepth 100000 in
set_option maxHeartbeats 4000000 in
theorem rscan_walk (w : World) (T : ByteArray) (hT : T.size ≤ 4096) : Calls Tryz.prog 14 #[.string T] w (ScanEnd2 w T) := by
  have hTL : T.data.toList.length = T.size := rfl
  have hstart : Hid ([] ++ scan (T.size + 1) (T.data.toList.drop 0) 0 = toks T) := rfl
  have hlen := toks_len' T
  unfold ScanEnd2
  generalize toks T = R at *
  have hSk := Lib.hid (fun (W : World) (a : Nat) (ha : a ≤ T.size) => rskip_walk W T (by omega) a ha)
  have hTk := Lib.hid (fun (W : World) (a : Nat) (ha : a < T.size) (h0 : skipS false (T.data.toList.drop a) = 0) => rtoken_walk W T (by omega) a ha h0)
  obtain ⟨i0, hi, hz0, hz1, hz2⟩ := info_parts info_tk3
  go_enter Tryz.func14, Tryz.ntmps14
  go_wp2_with fail
  have hrow : Hid ((w.alloc (.cells #[] 39)).ownsRow w.heap.size 39 4 (.slice (some ⟨w.heap.size, 0, none⟩) 0 0) 0 []) := World.ownsRow_lit w #[] 0 (Nat.le_refl _) (by decide) rfl
  have hbel : Hid (Below w.heap.size w (w.alloc (.cells #[] 39))) := (Below.refl _ w).alloc (Nat.le_refl _) _
  go_loopw [4, 5] (fun o f wr => ∃ (k a : Nat) (ts : List Tok) (ao : Option Addr) (cp : Nat), o = .slice ao ts.length cp ∧ f = .int .i64 a ∧ a ≤ T.size ∧ T.size - a < k ∧ ts.length ≤ a ∧ Hid (ts ++ scan k (T.data.toList.drop a) a = R) ∧ Hid (wr.ownsRow w.heap.size 39 4 (.slice ao ts.length cp) ts.length (tokV ts)) ∧ Hid (Below w.heap.size w wr)) (fun _ f _ => T.size - (intOf f).toNat)
  case atStart => exact ⟨T.size + 1, 0, [], _, 0, rfl, rfl, by omega, by omega, by simp, hstart, hrow, hbel⟩
  case round =>
    clear hstart hrow hbel
    obtain ⟨k, a, ts, ao, cp, rfl, rfl, ha, hk, hts, hsc, hrow, hbel⟩ := hrel
    obtain ⟨k', rfl⟩ : ∃ k', k = k' + 1 := ⟨k - 1, by omega⟩
    obtain ⟨A, hA⟩ : ∃ A, a + skipS false (T.data.toList.drop a) = A := ⟨_, rfl⟩
    have hAd : Hid ((T.data.toList.drop a).drop (skipS false (T.data.toList.drop a)) = T.data.toList.drop A) := by rw [← hA, List.drop_drop]; exact rfl
    have hAle : A ≤ T.size := by
      have := skipS_le false (T.data.toList.drop a)
      rw [List.length_drop, hTL] at this
      omega
    have hS := Lib.hid (fun (W : World) => hSk.out W a ha)
    rw [hA] at hS
    have hbz := hbel.out.size
    by_cases hlt : A < T.size
    · have hne : T.data.toList.drop A ≠ [] := by
        intro e
        have := congrArg List.length e
        rw [List.length_drop, hTL] at this
        simp at this
        omega
      have h0 : skipS false (T.data.toList.drop A) = 0 := by rw [← hAd.out]; exact skip_skip _
      have hTk2 := Lib.hid (fun (W : World) => hTk.out W A hlt h0)
      have hsc2 := scan_step (n := k') (pos := a) hAd.out hne
      have hle := tokB_le (T.data.toList.drop A)
      have hpos : 0 < (tokB (T.data.toList.drop A)).2 := by
        rw [drop_get T A hlt]
        exact tokB_pos.1
      rw [List.length_drop, hTL] at hle
      rw [hA, List.drop_drop] at hsc2
      generalize tokB (T.data.toList.drop A) = m at *
      obtain ⟨m1, m2⟩ := m
      simp only at hsc2 hle hpos
      have hsc3 : Hid ((ts ++ [⟨m1, a, A, A + m2⟩]) ++ scan k' (T.data.toList.drop (A + m2)) (A + m2) = R) := by
        have h1 := hsc.out
        rw [hsc2] at h1
        rw [List.append_assoc]
        exact h1
      have haA : a ≤ A := by omega
      clear hsc hsc2 hA hAd hne h0
      unfold TokEnd at hTk2
      simp only at hTk2
      obtain ⟨b, hb⟩ : ∃ b, A + m2 = b := ⟨_, rfl⟩
      have hbs : b ≤ T.size := by omega
      have hab : a < b := by omega
      rw [hb] at hTk2 hsc3
      have hb' := Lib.hid hb
      clear hb hpos
      go_wp2_with (first
        | (go_at_call 40; refine (hS.out _).mono ?_; rintro e _ ⟨rfl, rfl⟩)
        | (go_at_call 41; refine (hTk2.out _).mono ?_; rintro e w2 ⟨rfl, k2⟩; have k2' := Lib.hid k2; have hzz := k2.size; clear k2)
        | (at_builtin; refine wpList_append_mine rfl (.tmp 28) (.tmp 34) 35 rfl w.heap.size 39 i0 _ 4 32 Tryz.underlying35 hi hz0 hz1 hz2 (by decide) (.slice ao ts.length cp) ts.length (tokV ts) rfl ((ownsRow_same hrow.out (fun b hb => k2'.out.block b (hrow.out.lt b hb).2)).alloc _) ⟨w2.heap.size, 0, none⟩ 1 1 (Tok.mk m1 a A b).cells.toList rfl rfl (by omega) (cells_new w2 (Tok.mk m1 a A b).cells _) (tok_one _) (by unfold maxLen; omega) (by omega) (by simp; omega) ?_; intro g' cap' w' hown' hgrow hnew))
      have hrow2 := Lib.hid hown'
      have hbel2 := Lib.hid (own_grow (W0 := w2.alloc (.cells #[.int .i64 m1, .int .i64 a, .int .i64 A, .int .i64 b] 39)) hrow.out hbel.out (k2'.out.alloc hzz _) hbz hgrow)
      clear hown' hgrow hnew
      go_wp2
      go_roundw
      case rel => exact ⟨k', b, ts ++ [⟨m1, a, A, b⟩], _, cap', by rw [List.length_append]; rfl, by rfl, hbs, by omega, by rw [List.length_append]; simp only [List.length_singleton]; omega, hsc3, by rw [tokV_snoc, List.length_append]; exact hrow2, hbel2⟩
      case measure => simp [intOf]; omega
    · obtain rfl : A = T.size := by omega
      have hfin : Hid (ts ++ [⟨0, a, T.size, T.size⟩] = R) := by
        have h1 := hsc.out
        rw [scan_end (by rw [hAd.out]; exact drop_end T), hA] at h1
        exact h1
      clear hsc hA hAd hTk
      go_wp2_with (first
        | (go_at_call 40; refine (hS.out _).mono ?_; rintro e _ ⟨rfl, rfl⟩)
        | (at_builtin; refine wpList_append_mine rfl (.tmp 37) (.tmp 44) 35 rfl w.heap.size 39 i0 _ 4 32 Tryz.underlying35 hi hz0 hz1 hz2 (by decide) (.slice ao ts.length cp) ts.length (tokV ts) rfl (hrow.out.alloc _) ⟨wr.heap.size, 0, none⟩ 1 1 (Tok.mk 0 a T.size T.size).cells.toList rfl rfl (by omega) (cells_new wr (Tok.mk 0 a T.size T.size).cells _) (tok_one _) (by unfold maxLen; omega) (by omega) (by simp; omega) ?_; intro g' cap' w' hown' hgrow hnew))
      have hrow2 := Lib.hid hown'
      have hbel2 := Lib.hid (own_grow (W0 := wr.alloc (.cells #[.int .i64 0, .int .i64 a, .int .i64 T.size, .int .i64 T.size] 39)) hrow.out hbel.out ((Below.refl _ wr).alloc (Nat.le_refl _) _) hbz hgrow)
      clear hown' hgrow hnew
      go_wp2
      go_ret2
      refine ⟨_, rfl, ?_, hbel2.out⟩
      rw [← hfin.out, tokV_snoc, List.length_append]
      exact hrow2.out
end Go.Proofs.YthggagophcnkfaaGreatDoor.lx
