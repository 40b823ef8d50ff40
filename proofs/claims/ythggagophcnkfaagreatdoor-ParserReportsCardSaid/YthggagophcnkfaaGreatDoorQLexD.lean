/- The walk of the reference lexer's token: numbers, symbols, what is wrong; the whole. -/
import Derived.Test.YthggagophcnkfaaGreatDoorQLexC
namespace Go.Proofs.YthggagophcnkfaaGreatDoor.lx
open Go.RowKit Go.Proofs.YthggagophcnkfaaGreatDoor.agg Go.Proofs.YthggagophcnkfaaGreatDoor.sx Go.Proofs.YthggagophcnkfaaGreatDoor.px
set_option linter.unusedSimpArgs false
set_option linter.unusedVariables false

set_option maxRecDepth 100000 in
set_option maxHeartbeats 4000000 in
theorem rtoken_digit (w : World) (s : ByteArray) (hs : s.size ≤ 100000) (a : Nat) (ha : a < s.size) (hl : letterB s[a] = false) (hd : digitB s[a] = true) :
    Calls Tryz.prog 41 #[.string s, .int .i64 a] w (TokEnd w a (tokB (s.data.toList.drop a))) := by
  obtain ⟨R, hR⟩ : ∃ R, a + cntN digitB (s.data.toList.drop a) = R := ⟨_, rfl⟩
  have hm : Hid (tokB (s.data.toList.drop a) = (3, R - a)) := by
    have e2 : R - a = cntN digitB (s.data.toList.drop a) := by omega
    rw [e2, drop_get s a ha]
    unfold Hid
    rw [tokB, if_neg (by rw [hl]; simp), if_pos hd]
  have haR : a ≤ R := by omega
  have hR' := Lib.hid hR
  generalize tokB (s.data.toList.drop a) = m at *
  have hL0 := Lib.hid (fun (W : World) => rletter_fn s[a] W)
  have hD0 := Lib.hid (fun (W : World) => rdigit_fn s[a] W)
  rw [hl] at hL0
  rw [hd] at hD0
  clear hR hl hd
  have hDf := Lib.hid rdigit_fn
  go_enter Tryz.func41, Tryz.ntmps41
  go_wp2_with (first | (go_at_call 90; refine (hL0.out _).mono ?_; rintro e _ ⟨rfl, rfl⟩) | (go_at_call 91; refine (hD0.out _).mono ?_; rintro e _ ⟨rfl, rfl⟩))
  go_loop [6] (fun i => ∃ k : Nat, a ≤ k ∧ k ≤ s.size ∧ i = .int .i64 k ∧ Hid (k + cntN digitB (s.data.toList.drop k) = R)) (fun i => s.size - (intOf i).toNat)
  case atStart => exact ⟨a, Nat.le_refl _, Nat.le_of_lt ha, rfl, hR'⟩
  case round =>
    clear hR'
    obtain ⟨k, hak, hk, rfl, hn⟩ := hrel
    by_cases hlt : k < s.size
    · have hD := Lib.hid (fun (W : World) => hDf.out s[k] W)
      cases h1 : digitB s[k] with
      | true =>
        rw [h1] at hD
        have hx : Hid ((k + 1) + cntN digitB (s.data.toList.drop (k + 1)) = R) := by
          have h2 := hn.out
          rw [drop_get s k hlt, cnt_step h1] at h2
          unfold Hid
          omega
        clear h1 hn hDf
        go_wp2_with (go_at_call 91; refine (hD.out _).mono ?_; rintro e _ ⟨rfl, rfl⟩)
        go_round
        case rel => exact ⟨k + 1, by omega, by omega, by go_num, hx⟩
        case measure => simp [intOf]; omega
      | false =>
        rw [h1] at hD
        have hx : Hid (k = R) := by
          have h2 := hn.out
          rw [drop_get s k hlt, cnt_stop h1] at h2
          exact h2
        clear h1 hn hDf
        go_wp2_with (go_at_call 91; refine (hD.out _).mono ?_; rintro e _ ⟨rfl, rfl⟩)
        go_ret2
        have := hx.out
        rw [hm.out]
        exact ⟨by simp only [show ((a + (R - a) : Nat) : Int) = k by omega]; rfl, Below.refl _ _⟩
    · obtain rfl : k = s.size := by omega
      have hx : Hid (s.size = R) := by
        have h2 := hn.out
        rw [drop_end] at h2
        exact h2
      clear hn hDf
      go_wp2_with fail
      go_ret2
      have := hx.out
      rw [hm.out]
      exact ⟨by simp only [show ((a + (R - a) : Nat) : Int) = s.size by omega]; rfl, Below.refl _ _⟩
set_option maxRecDepth 100000 in
set_option maxHeartbeats 4000000 in
theorem rtoken_symbol (w : World) (s : ByteArray) (hs : s.size ≤ 100000) (a : Nat) (ha : a < s.size) (hl : letterB s[a] = false) (hd : digitB s[a] = false) (hy : 0 < symN (s.data.toList.drop a)) :
    Calls Tryz.prog 41 #[.string s, .int .i64 a] w (TokEnd w a (tokB (s.data.toList.drop a))) := by
  have hm : Hid (tokB (s.data.toList.drop a) = (4, symN (s.data.toList.drop a))) := by
    rw [drop_get s a ha] at hy ⊢
    unfold Hid
    rw [tokB, if_neg (by rw [hl]; simp), if_neg (by rw [hd]; simp), if_pos hy]
  have hS := Lib.hid (rsymbol_walk w s hs a (Nat.le_of_lt ha))
  have hle := (symN_le (s.data.toList.drop a)).2
  generalize tokB (s.data.toList.drop a) = m at *
  generalize symN (s.data.toList.drop a) = n at *
  have hL0 := Lib.hid (fun (W : World) => rletter_fn s[a] W)
  have hD0 := Lib.hid (fun (W : World) => rdigit_fn s[a] W)
  rw [hl] at hL0
  rw [hd] at hD0
  clear hl hd
  go_enter Tryz.func41, Tryz.ntmps41
  go_wp2_with (first | (go_at_call 90; refine (hL0.out _).mono ?_; rintro e _ ⟨rfl, rfl⟩) | (go_at_call 91; refine (hD0.out _).mono ?_; rintro e _ ⟨rfl, rfl⟩) | (go_at_call 93; refine (hS.out).mono ?_; rintro e w1 ⟨rfl, k1⟩; have k1' := Lib.hid k1; clear k1))
  go_ret2
  rw [hm.out]
  exact ⟨by simp only [Int.natCast_add]; rfl, k1'.out⟩
theorem wrong_step {c : UInt8} {l : List UInt8} (h1 : whiteB c = false) (h2 : (c == 35) = false) (h3 : letterB c = false) (h4 : digitB c = false) (h5 : symN (c :: l) = 0) : wrongN (c :: l) = wrongN l + 1 := by
  rw [wrongN, if_neg]
  rw [h1, h2, beginsB, h3, h4, h5]
  decide
theorem wrong_stop {c : UInt8} {l : List UInt8} (h : whiteB c = true ∨ (c == 35) = true ∨ letterB c = true ∨ digitB c = true ∨ 0 < symN (c :: l)) : wrongN (c :: l) = 0 := by
  rw [wrongN, if_pos]
  rw [beginsB]
  rcases h with h | h | h | h | h
  · rw [h]; rfl
  · rw [h]; cases whiteB c <;> rfl
  · rw [h]; cases whiteB c <;> cases (c == 35) <;> rfl
  · rw [h]; cases whiteB c <;> cases (c == 35) <;> cases letterB c <;> rfl
  · rw [decide_eq_true h]; cases whiteB c <;> cases (c == 35) <;> cases letterB c <;> cases digitB c <;> rfl
set_option maxRecDepth 100000 in
set_option maxHeartbeats 4000000 in
theorem rtoken_wrong (w : World) (s : ByteArray) (hs : s.size ≤ 100000) (a : Nat) (ha : a < s.size) (h0 : skipS false (s.data.toList.drop a) = 0) (hl : letterB s[a] = false) (hd : digitB s[a] = false) (hy : symN (s.data.toList.drop a) = 0) :
    Calls Tryz.prog 41 #[.string s, .int .i64 a] w (TokEnd w a (tokB (s.data.toList.drop a))) := by
  obtain ⟨R, hR⟩ : ∃ R, a + wrongN (s.data.toList.drop a) = R := ⟨_, rfl⟩
  have hw0 : whiteB s[a] = false ∧ (s[a] == 35) = false := by
    rw [drop_get s a ha, skipS] at h0
    cases h1 : whiteB s[a] with
    | true => rw [h1, if_pos rfl] at h0; omega
    | false =>
      rw [h1, if_neg (by simp)] at h0
      cases h2 : s[a] == 35 with
      | true => rw [h2, if_pos rfl] at h0; omega
      | false => exact ⟨rfl, rfl⟩
  have hm : Hid (tokB (s.data.toList.drop a) = (5, R - a)) := by
    have e2 : R - a = wrongN (s.data.toList.drop a) := by omega
    rw [e2]
    rw [drop_get s a ha] at hy ⊢
    rw [wrong_step hw0.1 hw0.2 hl hd hy]
    unfold Hid
    rw [tokB, if_neg (by rw [hl]; simp), if_neg (by rw [hd]; simp), if_neg (by omega)]
  have hR' := Lib.hid hR
  have hS := Lib.hid (rsymbol_walk w s hs a (Nat.le_of_lt ha))
  rw [hy] at hS
  generalize tokB (s.data.toList.drop a) = m at *
  have hL0 := Lib.hid (fun (W : World) => rletter_fn s[a] W)
  have hD0 := Lib.hid (fun (W : World) => rdigit_fn s[a] W)
  rw [hl] at hL0
  rw [hd] at hD0
  have hSf := Lib.hid (fun (W : World) (k : Nat) (hk : k ≤ s.size) => rsymbol_walk W s hs k hk)
  have hLf := Lib.hid rletter_fn
  have hDf := Lib.hid rdigit_fn
  have hWf := Lib.hid rwhite_fn
  clear hR hl hd hy hw0 h0
  go_enter Tryz.func41, Tryz.ntmps41
  go_wp2_with (first | (go_at_call 90; refine (hL0.out _).mono ?_; rintro e _ ⟨rfl, rfl⟩) | (go_at_call 91; refine (hD0.out _).mono ?_; rintro e _ ⟨rfl, rfl⟩) | (go_at_call 93; refine (hS.out).mono ?_; rintro e w1 ⟨rfl, k1⟩; have k1' := Lib.hid k1; clear k1))
  go_loopw [6] (fun i wr => ∃ k : Nat, a ≤ k ∧ k ≤ s.size ∧ i = .int .i64 k ∧ Hid (k + wrongN (s.data.toList.drop k) = R) ∧ Hid (Below w.heap.size w wr)) (fun i _ => s.size - (intOf i).toNat)
  case atStart => exact ⟨a, Nat.le_refl _, Nat.le_of_lt ha, rfl, hR', k1'⟩
  case round =>
    clear hR' hS hL0 hD0 k1'
    obtain ⟨k, hak, hk, rfl, hn, hb⟩ := hrel
    have hcase : (∃ hlt : k < s.size, whiteB s[k] = true) ∨ (∃ hlt : k < s.size, whiteB s[k] = false ∧ (s[k] == 35) = true) ∨ (∃ hlt : k < s.size, whiteB s[k] = false ∧ (s[k] == 35) = false ∧ letterB s[k] = true) ∨ (∃ hlt : k < s.size, whiteB s[k] = false ∧ (s[k] == 35) = false ∧ letterB s[k] = false ∧ digitB s[k] = true) ∨ (∃ hlt : k < s.size, whiteB s[k] = false ∧ (s[k] == 35) = false ∧ letterB s[k] = false ∧ digitB s[k] = false ∧ 0 < symN (s.data.toList.drop k)) ∨ (∃ hlt : k < s.size, whiteB s[k] = false ∧ (s[k] == 35) = false ∧ letterB s[k] = false ∧ digitB s[k] = false ∧ symN (s.data.toList.drop k) = 0) ∨ k = s.size := by
      by_cases hlt : k < s.size
      · cases h1 : whiteB s[k] with
        | true => exact .inl ⟨hlt, h1⟩
        | false =>
          cases h2 : s[k] == 35 with
          | true => exact .inr (.inl ⟨hlt, h1, h2⟩)
          | false =>
            cases h3 : letterB s[k] with
            | true => exact .inr (.inr (.inl ⟨hlt, h1, h2, h3⟩))
            | false =>
              cases h4 : digitB s[k] with
              | true => exact .inr (.inr (.inr (.inl ⟨hlt, h1, h2, h3, h4⟩)))
              | false =>
                rcases Nat.eq_zero_or_pos (symN (s.data.toList.drop k)) with h5 | h5
                · exact .inr (.inr (.inr (.inr (.inr (.inl ⟨hlt, h1, h2, h3, h4, h5⟩)))))
                · exact .inr (.inr (.inr (.inr (.inl ⟨hlt, h1, h2, h3, h4, h5⟩))))
      · exact .inr (.inr (.inr (.inr (.inr (.inr (by omega))))))
    have hstop := Lib.hid (fun (hlt : k < s.size) (h : whiteB s[k] = true ∨ (s[k] == 35) = true ∨ letterB s[k] = true ∨ digitB s[k] = true ∨ 0 < symN (s.data.toList.drop k)) => (show k = R by
      have h1 := hn.out
      have h2 := h
      rw [drop_get s k hlt] at h1 h2
      rw [wrong_stop h2] at h1
      exact h1))
    rcases hcase with ⟨hlt, h1⟩ | ⟨hlt, h1, h2⟩ | ⟨hlt, h1, h2, h3⟩ | ⟨hlt, h1, h2, h3, h4⟩ | ⟨hlt, h1, h2, h3, h4, h5⟩ | ⟨hlt, h1, h2, h3, h4, h5⟩ | hE
    · have hW := Lib.hid (fun (W : World) => hWf.out s[k] W)
      rw [h1] at hW
      have hx := Lib.hid (hstop.out hlt (.inl h1))
      clear h1 hn hstop hSf hLf hDf hWf
      go_wp2_with (go_at_call 89; refine (hW.out _).mono ?_; rintro e _ ⟨rfl, rfl⟩)
      go_ret2
      have := hx.out
      rw [hm.out]
      exact ⟨by simp only [show ((a + (R - a) : Nat) : Int) = k by omega]; rfl, hb.out⟩
    · have hW := Lib.hid (fun (W : World) => hWf.out s[k] W)
      rw [h1] at hW
      have hb35 : ((s[k].toNat : Int) == 35) = true := u8_b s[k] 35 (by decide) h2
      have hb35' : ((s[k].toNat : Int) != 35) = false := by simpa using hb35
      have hx := Lib.hid (hstop.out hlt (.inr (.inl h2)))
      clear h1 h2 hn hstop hSf hLf hDf hWf
      go_wp2_with (go_at_call 89; refine (hW.out _).mono ?_; rintro e _ ⟨rfl, rfl⟩)
      go_ret2
      have := hx.out
      rw [hm.out]
      exact ⟨by simp only [show ((a + (R - a) : Nat) : Int) = k by omega]; rfl, hb.out⟩
    · have hW := Lib.hid (fun (W : World) => hWf.out s[k] W)
      have hL := Lib.hid (fun (W : World) => hLf.out s[k] W)
      rw [h1] at hW
      rw [h3] at hL
      have hb35 : ((s[k].toNat : Int) == 35) = false := u8_b s[k] 35 (by decide) h2
      have hb35' : ((s[k].toNat : Int) != 35) = true := by simpa using hb35
      have hx := Lib.hid (hstop.out hlt (.inr (.inr (.inl h3))))
      clear h1 h2 h3 hn hstop hSf hLf hDf hWf
      go_wp2_with (first | (go_at_call 89; refine (hW.out _).mono ?_; rintro e _ ⟨rfl, rfl⟩) | (go_at_call 90; refine (hL.out _).mono ?_; rintro e _ ⟨rfl, rfl⟩))
      go_ret2
      have := hx.out
      rw [hm.out]
      exact ⟨by simp only [show ((a + (R - a) : Nat) : Int) = k by omega]; rfl, hb.out⟩
    · have hW := Lib.hid (fun (W : World) => hWf.out s[k] W)
      have hL := Lib.hid (fun (W : World) => hLf.out s[k] W)
      have hD := Lib.hid (fun (W : World) => hDf.out s[k] W)
      rw [h1] at hW
      rw [h3] at hL
      rw [h4] at hD
      have hb35 : ((s[k].toNat : Int) == 35) = false := u8_b s[k] 35 (by decide) h2
      have hb35' : ((s[k].toNat : Int) != 35) = true := by simpa using hb35
      have hx := Lib.hid (hstop.out hlt (.inr (.inr (.inr (.inl h4)))))
      clear h1 h2 h3 h4 hn hstop hSf hLf hDf hWf
      go_wp2_with (first | (go_at_call 89; refine (hW.out _).mono ?_; rintro e _ ⟨rfl, rfl⟩) | (go_at_call 90; refine (hL.out _).mono ?_; rintro e _ ⟨rfl, rfl⟩) | (go_at_call 91; refine (hD.out _).mono ?_; rintro e _ ⟨rfl, rfl⟩))
      go_ret2
      have := hx.out
      rw [hm.out]
      exact ⟨by simp only [show ((a + (R - a) : Nat) : Int) = k by omega]; rfl, hb.out⟩
    · have hW := Lib.hid (fun (W : World) => hWf.out s[k] W)
      have hL := Lib.hid (fun (W : World) => hLf.out s[k] W)
      have hD := Lib.hid (fun (W : World) => hDf.out s[k] W)
      have hS := Lib.hid (fun (W : World) => hSf.out W k hk)
      rw [h1] at hW
      rw [h3] at hL
      rw [h4] at hD
      have hb35 : ((s[k].toNat : Int) == 35) = false := u8_b s[k] 35 (by decide) h2
      have hb35' : ((s[k].toNat : Int) != 35) = true := by simpa using hb35
      have hx := Lib.hid (hstop.out hlt (.inr (.inr (.inr (.inr h5)))))
      clear h1 h2 h3 h4 hn hstop hSf hLf hDf hWf
      generalize symN (s.data.toList.drop k) = n at *
      have hn0 : ((n : Int) == 0) = false := by simp; omega
      go_wp2_with (first | (go_at_call 89; refine (hW.out _).mono ?_; rintro e _ ⟨rfl, rfl⟩) | (go_at_call 90; refine (hL.out _).mono ?_; rintro e _ ⟨rfl, rfl⟩) | (go_at_call 91; refine (hD.out _).mono ?_; rintro e _ ⟨rfl, rfl⟩) | (go_at_call 93; refine (hS.out _).mono ?_; rintro e w2 ⟨rfl, k2⟩; have k2' := Lib.hid (hb.out.trans (k2.mono hb.out.size)); clear k2))
      go_ret2
      have := hx.out
      rw [hm.out]
      exact ⟨by simp only [show ((a + (R - a) : Nat) : Int) = k by omega]; rfl, k2'.out⟩
    · have hW := Lib.hid (fun (W : World) => hWf.out s[k] W)
      have hL := Lib.hid (fun (W : World) => hLf.out s[k] W)
      have hD := Lib.hid (fun (W : World) => hDf.out s[k] W)
      have hS := Lib.hid (fun (W : World) => hSf.out W k hk)
      rw [h1] at hW
      rw [h3] at hL
      rw [h4] at hD
      rw [h5] at hS
      have hb35 : ((s[k].toNat : Int) == 35) = false := u8_b s[k] 35 (by decide) h2
      have hb35' : ((s[k].toNat : Int) != 35) = true := by simpa using hb35
      have hx : Hid ((k + 1) + wrongN (s.data.toList.drop (k + 1)) = R) := by
        have h6 := hn.out
        have h7 := h5
        rw [drop_get s k hlt] at h6 h7
        rw [wrong_step h1 h2 h3 h4 h7] at h6
        unfold Hid
        omega
      clear h1 h2 h3 h4 h5 hn hstop hSf hLf hDf hWf
      go_wp2_with (first | (go_at_call 89; refine (hW.out _).mono ?_; rintro e _ ⟨rfl, rfl⟩) | (go_at_call 90; refine (hL.out _).mono ?_; rintro e _ ⟨rfl, rfl⟩) | (go_at_call 91; refine (hD.out _).mono ?_; rintro e _ ⟨rfl, rfl⟩) | (go_at_call 93; refine (hS.out _).mono ?_; rintro e w2 ⟨rfl, k2⟩; have k2' := Lib.hid (hb.out.trans (k2.mono hb.out.size)); clear k2))
      go_roundw
      case rel => exact ⟨k + 1, by omega, by omega, by go_num, hx, k2'⟩
      case measure => simp [intOf]; omega
    · obtain rfl : k = s.size := by omega
      have hx : Hid (s.size = R) := by
        have h2 := hn.out
        rw [drop_end] at h2
        exact h2
      clear hn hstop hSf hLf hDf hWf
      go_wp2_with fail
      go_ret2
      have := hx.out
      rw [hm.out]
      exact ⟨by simp only [show ((a + (R - a) : Nat) : Int) = s.size by omega]; rfl, hb.out⟩
theorem rtoken_walk (w : World) (s : ByteArray) (hs : s.size ≤ 100000) (a : Nat) (ha : a < s.size) (h0 : skipS false (s.data.toList.drop a) = 0) :
    Calls Tryz.prog 41 #[.string s, .int .i64 a] w (TokEnd w a (tokB (s.data.toList.drop a))) := by
  cases hl : letterB s[a] with
  | true => exact rtoken_letter w s hs a ha hl
  | false =>
    cases hd : digitB s[a] with
    | true => exact rtoken_digit w s hs a ha hl hd
    | false =>
      rcases Nat.eq_zero_or_pos (symN (s.data.toList.drop a)) with hy | hy
      · exact rtoken_wrong w s hs a ha h0 hl hd hy
      · exact rtoken_symbol w s hs a ha hl hd hy
end Go.Proofs.YthggagophcnkfaaGreatDoor.lx
