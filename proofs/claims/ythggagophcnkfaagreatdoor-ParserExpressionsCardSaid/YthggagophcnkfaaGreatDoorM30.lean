/- The walk of the reference lexer's token. The walk of the reference lexer's token: numbers, symbols, what is wrong; the whole. The walk of the reference lexer's Scan. The walks of the reference lexer's Kind and Number. -/
import Derived.Test.YthggagophcnkfaaGreatDoorTk
import Derived.Test.YthggagophcnkfaaGreatDoorM13
import Derived.Deep.RegionHeld3
import Derived.Test.YthggagophcnkfaaGreatDoorPBegin
namespace Go.Proofs.YthggagophcnkfaaGreatDoor.lx
open Go.RowKit Go.Proofs.YthggagophcnkfaaGreatDoor.agg Go.Proofs.YthggagophcnkfaaGreatDoor.sx Go.Proofs.YthggagophcnkfaaGreatDoor.px
set_option linter.unusedSimpArgs false
set_option linter.unusedVariables false
theorem cnt_step {p : UInt8 → Bool} {c : UInt8} {l : List UInt8} (h : p c = true) : cntN p (c :: l) = cntN p l + 1 := by rw [cntN, if_pos h]
theorem cnt_stop {p : UInt8 → Bool} {c : UInt8} {l : List UInt8} (h : p c = false) : cntN p (c :: l) = 0 := by rw [cntN, if_neg (by rw [h]; simp)]
def TokEnd (w : World) (a : Nat) (r : Nat × Nat) (e : Ending) (w' : World) : Prop := e = .returned (.tuple #[.int .i64 (r.1 : Nat), .int .i64 ((a + r.2 : Nat) : Int)]) ∧ Below w.heap.size w w'
theorem u8_b (c : UInt8) (k : Nat) (hk : k < 256) {b : Bool} (h : (c == UInt8.ofNat k) = b) : ((c.toNat : Int) == (k : Int)) = b := (u8_eq c k hk).trans h
theorem part_of_l {c : UInt8} (h : letterB c = true) : partB c = true := by unfold partB; rw [h]; rfl
theorem part_of_d {c : UInt8} (h : digitB c = true) : partB c = true := by unfold partB; rw [h]; cases letterB c <;> rfl
theorem part_of_u {c : UInt8} (h : (c == 95) = true) : partB c = true := by unfold partB; rw [h]; cases letterB c <;> cases digitB c <;> rfl
theorem part_no {c : UInt8} (h : letterB c = false) (h2 : digitB c = false) (h3 : (c == 95) = false) : partB c = false := by unfold partB; rw [h, h2, h3]; rfl
set_option maxRecDepth 100000 in
set_option maxHeartbeats 4000000 in
theorem rtoken_letter (w : World) (s : ByteArray) (hs : s.size ≤ 100000) (a : Nat) (ha : a < s.size) (hl : letterB s[a] = true) :
 Calls Tryz.prog 41 #[.string s, .int .i64 a] w (TokEnd w a (tokB (s.data.toList.drop a))) := by
 obtain ⟨R, hR⟩ : ∃ R, a + cntN partB (s.data.toList.drop a) = R := ⟨_, rfl⟩
 have hRs : R ≤ s.size := by
  have h1 := cntN_le partB (s.data.toList.drop a)
  rw [List.length_drop] at h1
  have h2 : s.data.toList.length = s.size := rfl
  omega
 have hm : Hid (tokB (s.data.toList.drop a) = (if hasS kwB (s.extract a R) then 2 else 1, R - a)) := by
  have h1 := extract_at s a (R - a)
  have e : a + (R - a) = R := by omega
  have e2 : R - a = cntN partB (s.data.toList.drop a) := by omega
  rw [e, e2] at h1
  rw [has_keys, h1, e2, drop_get s a ha]
  unfold Hid
  rw [tokB, if_pos hl]
 have haR : a ≤ R := by omega
 have hR' := Lib.hid hR
 generalize tokB (s.data.toList.drop a) = m at *
 have hL0 := Lib.hid (fun (W : World) => rletter_fn s[a] W)
 rw [hl] at hL0
 clear hR hl
 have hLf := Lib.hid rletter_fn
 have hDf := Lib.hid rdigit_fn
 have hHas := Lib.hid (fun (W : World) (v : Value) (h : StrsIn W v kwB) => rhas_walk W v kwB (s.extract a R) h (by decide +kernel))
 go_enter Tryz.func41, Tryz.ntmps41
 go_wp2_with (go_at_call 90; refine (hL0.out _).mono ?_; rintro e _ ⟨rfl, rfl⟩)
 go_loop [6] (fun i => ∃ k : Nat, a ≤ k ∧ k ≤ s.size ∧ i = .int .i64 k ∧ Hid (k + cntN partB (s.data.toList.drop k) = R)) (fun i => s.size - (intOf i).toNat)
 case atStart => exact ⟨a, Nat.le_refl _, Nat.le_of_lt ha, rfl, hR'⟩
 case round =>
  clear hR'
  obtain ⟨k, hak, hk, rfl, hn⟩ := hrel
  have hcase : (∃ hlt : k < s.size, letterB s[k] = true) ∨ (∃ hlt : k < s.size, letterB s[k] = false ∧ digitB s[k] = true) ∨ (∃ hlt : k < s.size, letterB s[k] = false ∧ digitB s[k] = false ∧ (s[k] == 95) = true) ∨ (∃ hlt : k < s.size, letterB s[k] = false ∧ digitB s[k] = false ∧ (s[k] == 95) = false) ∨ k = s.size := by
   by_cases hlt : k < s.size
   ·cases h1 : letterB s[k] with
    | true => exact .inl ⟨hlt, h1⟩
    | false =>
     cases h2 : digitB s[k] with
     | true => exact .inr (.inl ⟨hlt, h1, h2⟩)
     | false =>
      cases h3 : s[k] == 95 with
      | true => exact .inr (.inr (.inl ⟨hlt, h1, h2, h3⟩))
      | false => exact .inr (.inr (.inr (.inl ⟨hlt, h1, h2, h3⟩)))
   ·exact .inr (.inr (.inr (.inr (by omega))))
  have hnext := Lib.hid (fun (hlt : k < s.size) (hp : partB s[k] = true) => (show (k + 1) + cntN partB (s.data.toList.drop (k + 1)) = R by
   have h1 := hn.out
   rw [drop_get s k hlt, cnt_step hp] at h1
   omega))
  have hstop := Lib.hid (fun (h : k = s.size ∨ ∃ hlt : k < s.size, partB s[k] = false) => (show k = R by
   have h1 := hn.out
   rcases h with rfl | ⟨hlt, hp⟩
   ·rw [drop_end] at h1
    exact h1
   ·rw [drop_get s k hlt, cnt_stop hp] at h1
    exact h1))
  clear hn
  rcases hcase with ⟨hlt, h1⟩ | ⟨hlt, h1, h2⟩ | ⟨hlt, h1, h2, h3⟩ | ⟨hlt, h1, h2, h3⟩ | hE
  ·have hL := Lib.hid (fun (W : World) => hLf.out s[k] W)
   rw [h1] at hL
   have hx := Lib.hid (hnext.out hlt (part_of_l h1))
   clear h1 hnext hstop hLf hDf
   go_wp2_with (go_at_call 90; refine (hL.out _).mono ?_; rintro e _ ⟨rfl, rfl⟩)
   go_round
   case rel => exact ⟨k + 1, by omega, by omega, by go_num, hx⟩
   case measure => simp [intOf]; omega
  ·have hL := Lib.hid (fun (W : World) => hLf.out s[k] W)
   have hD := Lib.hid (fun (W : World) => hDf.out s[k] W)
   rw [h1] at hL
   rw [h2] at hD
   have hx := Lib.hid (hnext.out hlt (part_of_d h2))
   clear h1 h2 hnext hstop hLf hDf
   go_wp2_with (first | (go_at_call 90; refine (hL.out _).mono ?_; rintro e _ ⟨rfl, rfl⟩) | (go_at_call 91; refine (hD.out _).mono ?_; rintro e _ ⟨rfl, rfl⟩))
   go_round
   case rel => exact ⟨k + 1, by omega, by omega, by go_num, hx⟩
   case measure => simp [intOf]; omega
  ·have hL := Lib.hid (fun (W : World) => hLf.out s[k] W)
   have hD := Lib.hid (fun (W : World) => hDf.out s[k] W)
   rw [h1] at hL
   rw [h2] at hD
   have hx := Lib.hid (hnext.out hlt (part_of_u h3))
   have hb : ((s[k].toNat : Int) == 95) = true := u8_b s[k] 95 (by decide) h3
   clear h1 h2 h3 hnext hstop hLf hDf
   go_wp2_with (first | (go_at_call 90; refine (hL.out _).mono ?_; rintro e _ ⟨rfl, rfl⟩) | (go_at_call 91; refine (hD.out _).mono ?_; rintro e _ ⟨rfl, rfl⟩))
   go_round
   case rel => exact ⟨k + 1, by omega, by omega, by go_num, hx⟩
   case measure => simp [intOf]; omega
  case' inr.inr.inr.inl =>
   have hL := Lib.hid (fun (W : World) => hLf.out s[k] W)
   have hD := Lib.hid (fun (W : World) => hDf.out s[k] W)
   rw [h1] at hL
   rw [h2] at hD
   have hb : ((s[k].toNat : Int) == 95) = false := u8_b s[k] 95 (by decide) h3
   obtain rfl : k = R := hstop.out (.inr ⟨hlt, part_no h1 h2 h3⟩)
   clear h1 h2 h3 hnext hstop hLf hDf
   go_upto_region 5 with (first | (go_at_call 90; refine (hL.out _).mono ?_; rintro e _ ⟨rfl, rfl⟩) | (go_at_call 91; refine (hD.out _).mono ?_; rintro e _ ⟨rfl, rfl⟩))
  case' inr.inr.inr.inr =>
   obtain rfl : k = R := hstop.out (.inl hE)
   have hnl : ¬ k < s.size := by omega
   clear hE hnext hstop hLf hDf
   go_upto_region 5 with (fail)
  all_goals
   have hm2 := Lib.hid (fun (b : Bool) (h : hasS kwB (s.extract a k) = b) => (show m = (if b then 2 else 1, k - a) by rw [hm.out, h]))
   have hka : ((a + (k - a) : Nat) : Int) = k := by omega
   have hka' := Lib.hid hka
   clear hm hka
   generalize hasS kwB (s.extract a k) = b at *
   have hm3 := Lib.hid (hm2.out b rfl)
   clear hm2
   have hKw := Lib.hid (fun (W : World) => rkeywords_walk W)
   refine wp_region_held_drew (S := fun u => True) (by kernel_rfl) trivial (fun hHeld => ?_)
   refine tk (i := 1) (v := .string s) rfl hHeld ?_
   try simp only [Act.put, kA, kB, kC, kD, kE, kF]
   refine tk (i := 2) (v := .int .i64 a) rfl hHeld ?_
   try simp only [Act.put, kA, kB, kC, kD, kE, kF]
   refine tk (i := 3) (v := .int .i64 k) rfl hHeld ?_
   try simp only [Act.put, kA, kB, kC, kD, kE, kF]
   refine tk (i := 4) (v := .string (s.extract a k)) rfl hHeld ?_
   try simp only [Act.put, kA, kB, kC, kD, kE, kF]
   refine wpAnyH_ready (rs := [0]) (by kernel_rfl) (by simp) ?_
   refine AllReadyH.cons rfl (fun K hK => ?_) AllReadyH.nil
   rw [if_pos (by rfl)]
   go_simp
   go_at_call 92
   refine (hKw.out _).mono ?_
   rintro e w1 ⟨v, rfl, k1, k2⟩
   have k1' := Lib.hid k1
   have k2' := Lib.hid k2
   clear k1 k2
   refine hK.out _ _ trivial (fun hHeld => ?_)
   clear hK K
   try simp only [Act.put, kA, kB, kC, kD, kE, kF]
   refine wpAnyH_ready (rs := [5]) (by kernel_rfl) (by simp) ?_
   refine AllReadyH.cons rfl (fun K hK => ?_) AllReadyH.nil
   rw [if_pos (by rfl)]
   go_simp
   go_at_call 78
   refine (hHas.out _ _ k1'.out).mono ?_
   rintro e _ ⟨rfl, rfl⟩
   refine hK.out _ _ trivial (fun hHeld => ?_)
   clear hK K
   try simp only [Act.put, kA, kB, kC, kD, kE, kF]
   refine wpAnyH_done (by kernel_rfl) ?_ _
   clear hHeld hHas
   cases b
   all_goals
    go_wp2_with fail
    go_ret2
    rw [hm3.out]
    exact ⟨by simp only [hka'.out]; rfl, (Below.refl _ _).drew.trans k2'.out⟩
end Go.Proofs.YthggagophcnkfaaGreatDoor.lx
namespace Go.Proofs.YthggagophcnkfaaGreatDoor.lx
open Go.RowKit Go.Proofs.YthggagophcnkfaaGreatDoor.agg Go.Proofs.YthggagophcnkfaaGreatDoor.sx Go.Proofs.YthggagophcnkfaaGreatDoor.px
set_option linter.unusedSimpArgs false
set_option linter.unusedVariables false
set_option maxRecDepth 100000 in
set_option maxHeartbeats 4000000 in
theorem rtoken_digit (w : World) (s : ByteArray) (hs : s.size ≤ 100000) (a : Nat) (ha : a < s.size) (hl : letterB s[a] = false) (hd : digitB s[a] = true) :
 Calls Tryz.prog 41 #[.string s, .int .i64 a] w (TokEnd w a (tokB (s.data.toList.drop a))) := by
 obtain ⟨R, hR⟩ : ∃ R, a + cntN digitB (s.data.toList.drop a) = R := ⟨_, rfl⟩
 have hm : Hid (tokB (s.data.toList.drop a) = (3, R - a)) := by
  have e2 : R - a = cntN digitB (s.data.toList.drop a) := by omega
  rw [e2, drop_get s a ha]
  unfold Hid
  rw [tokB, if_neg (by rw [hl]; simp), if_pos hd]
 have haR : a ≤ R := by omega
 have hR' := Lib.hid hR
 generalize tokB (s.data.toList.drop a) = m at *
 have hL0 := Lib.hid (fun (W : World) => rletter_fn s[a] W)
 have hD0 := Lib.hid (fun (W : World) => rdigit_fn s[a] W)
 rw [hl] at hL0
 rw [hd] at hD0
 clear hR hl hd
 have hDf := Lib.hid rdigit_fn
 go_enter Tryz.func41, Tryz.ntmps41
 go_wp2_with (first | (go_at_call 90; refine (hL0.out _).mono ?_; rintro e _ ⟨rfl, rfl⟩) | (go_at_call 91; refine (hD0.out _).mono ?_; rintro e _ ⟨rfl, rfl⟩))
 go_loop [6] (fun i => ∃ k : Nat, a ≤ k ∧ k ≤ s.size ∧ i = .int .i64 k ∧ Hid (k + cntN digitB (s.data.toList.drop k) = R)) (fun i => s.size - (intOf i).toNat)
 case atStart => exact ⟨a, Nat.le_refl _, Nat.le_of_lt ha, rfl, hR'⟩
 case round =>
  clear hR'
  obtain ⟨k, hak, hk, rfl, hn⟩ := hrel
  by_cases hlt : k < s.size
  ·have hD := Lib.hid (fun (W : World) => hDf.out s[k] W)
   cases h1 : digitB s[k] with
   | true =>
    rw [h1] at hD
    have hx : Hid ((k + 1) + cntN digitB (s.data.toList.drop (k + 1)) = R) := by
     have h2 := hn.out
     rw [drop_get s k hlt, cnt_step h1] at h2
     unfold Hid
     omega
    clear h1 hn hDf
    go_wp2_with (go_at_call 91; refine (hD.out _).mono ?_; rintro e _ ⟨rfl, rfl⟩)
    go_round
    case rel => exact ⟨k + 1, by omega, by omega, by go_num, hx⟩
    case measure => simp [intOf]; omega
   | false =>
    rw [h1] at hD
    have hx : Hid (k = R) := by
     have h2 := hn.out
     rw [drop_get s k hlt, cnt_stop h1] at h2
     exact h2
    clear h1 hn hDf
    go_wp2_with (go_at_call 91; refine (hD.out _).mono ?_; rintro e _ ⟨rfl, rfl⟩)
    go_ret2
    have := hx.out
    rw [hm.out]
    exact ⟨by simp only [show ((a + (R - a) : Nat) : Int) = k by omega]; rfl, Below.refl _ _⟩
  ·obtain rfl : k = s.size := by omega
   have hx : Hid (s.size = R) := by
    have h2 := hn.out
    rw [drop_end] at h2
    exact h2
   clear hn hDf
   go_wp2_with fail
   go_ret2
   have := hx.out
   rw [hm.out]
   exact ⟨by simp only [show ((a + (R - a) : Nat) : Int) = s.size by omega]; rfl, Below.refl _ _⟩
set_option maxRecDepth 100000 in
set_option maxHeartbeats 4000000 in
theorem rtoken_symbol (w : World) (s : ByteArray) (hs : s.size ≤ 100000) (a : Nat) (ha : a < s.size) (hl : letterB s[a] = false) (hd : digitB s[a] = false) (hy : 0 < symN (s.data.toList.drop a)) :
 Calls Tryz.prog 41 #[.string s, .int .i64 a] w (TokEnd w a (tokB (s.data.toList.drop a))) := by
 have hm : Hid (tokB (s.data.toList.drop a) = (4, symN (s.data.toList.drop a))) := by
  rw [drop_get s a ha] at hy ⊢
  unfold Hid
  rw [tokB, if_neg (by rw [hl]; simp), if_neg (by rw [hd]; simp), if_pos hy]
 have hS := Lib.hid (rsymbol_walk w s hs a (Nat.le_of_lt ha))
 have hle := (symN_le (s.data.toList.drop a)).2
 generalize tokB (s.data.toList.drop a) = m at *
 generalize symN (s.data.toList.drop a) = n at *
 have hL0 := Lib.hid (fun (W : World) => rletter_fn s[a] W)
 have hD0 := Lib.hid (fun (W : World) => rdigit_fn s[a] W)
 rw [hl] at hL0
 rw [hd] at hD0
 clear hl hd
 go_enter Tryz.func41, Tryz.ntmps41
 go_wp2_with (first | (go_at_call 90; refine (hL0.out _).mono ?_; rintro e _ ⟨rfl, rfl⟩) | (go_at_call 91; refine (hD0.out _).mono ?_; rintro e _ ⟨rfl, rfl⟩) | (go_at_call 93; refine (hS.out).mono ?_; rintro e w1 ⟨rfl, k1⟩; have k1' := Lib.hid k1; clear k1))
 go_ret2
 rw [hm.out]
 exact ⟨by simp only [Int.natCast_add]; rfl, k1'.out⟩
theorem wrong_step {c : UInt8} {l : List UInt8} (h1 : whiteB c = false) (h2 : (c == 35) = false) (h3 : letterB c = false) (h4 : digitB c = false) (h5 : symN (c :: l) = 0) : wrongN (c :: l) = wrongN l + 1 := by
 rw [wrongN, if_neg]
 rw [h1, h2, beginsB, h3, h4, h5]
 decide
theorem wrong_stop {c : UInt8} {l : List UInt8} (h : whiteB c = true ∨ (c == 35) = true ∨ letterB c = true ∨ digitB c = true ∨ 0 < symN (c :: l)) : wrongN (c :: l) = 0 := by
 rw [wrongN, if_pos]
 rw [beginsB]
 rcases h with h | h | h | h | h
 ·rw [h]; rfl
 ·rw [h]; cases whiteB c <;> rfl
 ·rw [h]; cases whiteB c <;> cases (c == 35) <;> rfl
 ·rw [h]; cases whiteB c <;> cases (c == 35) <;> cases letterB c <;> rfl
 ·rw [decide_eq_true h]; cases whiteB c <;> cases (c == 35) <;> cases letterB c <;> cases digitB c <;> rfl
set_option maxRecDepth 100000 in
set_option maxHeartbeats 4000000 in
theorem rtoken_wrong (w : World) (s : ByteArray) (hs : s.size ≤ 100000) (a : Nat) (ha : a < s.size) (h0 : skipS false (s.data.toList.drop a) = 0) (hl : letterB s[a] = false) (hd : digitB s[a] = false) (hy : symN (s.data.toList.drop a) = 0) :
 Calls Tryz.prog 41 #[.string s, .int .i64 a] w (TokEnd w a (tokB (s.data.toList.drop a))) := by
 obtain ⟨R, hR⟩ : ∃ R, a + wrongN (s.data.toList.drop a) = R := ⟨_, rfl⟩
 have hw0 : whiteB s[a] = false ∧ (s[a] == 35) = false := by
  rw [drop_get s a ha, skipS] at h0
  cases h1 : whiteB s[a] with
  | true => rw [h1, if_pos rfl] at h0; omega
  | false =>
   rw [h1, if_neg (by simp)] at h0
   cases h2 : s[a] == 35 with
   | true => rw [h2, if_pos rfl] at h0; omega
   | false => exact ⟨rfl, rfl⟩
 have hm : Hid (tokB (s.data.toList.drop a) = (5, R - a)) := by
  have e2 : R - a = wrongN (s.data.toList.drop a) := by omega
  rw [e2]
  rw [drop_get s a ha] at hy ⊢
  rw [wrong_step hw0.1 hw0.2 hl hd hy]
  unfold Hid
  rw [tokB, if_neg (by rw [hl]; simp), if_neg (by rw [hd]; simp), if_neg (by omega)]
 have hR' := Lib.hid hR
 have hS := Lib.hid (rsymbol_walk w s hs a (Nat.le_of_lt ha))
 rw [hy] at hS
 generalize tokB (s.data.toList.drop a) = m at *
 have hL0 := Lib.hid (fun (W : World) => rletter_fn s[a] W)
 have hD0 := Lib.hid (fun (W : World) => rdigit_fn s[a] W)
 rw [hl] at hL0
 rw [hd] at hD0
 have hSf := Lib.hid (fun (W : World) (k : Nat) (hk : k ≤ s.size) => rsymbol_walk W s hs k hk)
 have hLf := Lib.hid rletter_fn
 have hDf := Lib.hid rdigit_fn
 have hWf := Lib.hid rwhite_fn
 clear hR hl hd hy hw0 h0
 go_enter Tryz.func41, Tryz.ntmps41
 go_wp2_with (first | (go_at_call 90; refine (hL0.out _).mono ?_; rintro e _ ⟨rfl, rfl⟩) | (go_at_call 91; refine (hD0.out _).mono ?_; rintro e _ ⟨rfl, rfl⟩) | (go_at_call 93; refine (hS.out).mono ?_; rintro e w1 ⟨rfl, k1⟩; have k1' := Lib.hid k1; clear k1))
 go_loopw [6] (fun i wr => ∃ k : Nat, a ≤ k ∧ k ≤ s.size ∧ i = .int .i64 k ∧ Hid (k + wrongN (s.data.toList.drop k) = R) ∧ Hid (Below w.heap.size w wr)) (fun i _ => s.size - (intOf i).toNat)
 case atStart => exact ⟨a, Nat.le_refl _, Nat.le_of_lt ha, rfl, hR', k1'⟩
 case round =>
  clear hR' hS hL0 hD0 k1'
  obtain ⟨k, hak, hk, rfl, hn, hb⟩ := hrel
  have hcase : (∃ hlt : k < s.size, whiteB s[k] = true) ∨ (∃ hlt : k < s.size, whiteB s[k] = false ∧ (s[k] == 35) = true) ∨ (∃ hlt : k < s.size, whiteB s[k] = false ∧ (s[k] == 35) = false ∧ letterB s[k] = true) ∨ (∃ hlt : k < s.size, whiteB s[k] = false ∧ (s[k] == 35) = false ∧ letterB s[k] = false ∧ digitB s[k] = true) ∨ (∃ hlt : k < s.size, whiteB s[k] = false ∧ (s[k] == 35) = false ∧ letterB s[k] = false ∧ digitB s[k] = false ∧ 0 < symN (s.data.toList.drop k)) ∨ (∃ hlt : k < s.size, whiteB s[k] = false ∧ (s[k] == 35) = false ∧ letterB s[k] = false ∧ digitB s[k] = false ∧ symN (s.data.toList.drop k) = 0) ∨ k = s.size := by
   by_cases hlt : k < s.size
   ·cases h1 : whiteB s[k] with
    | true => exact .inl ⟨hlt, h1⟩
    | false =>
     cases h2 : s[k] == 35 with
     | true => exact .inr (.inl ⟨hlt, h1, h2⟩)
     | false =>
      cases h3 : letterB s[k] with
      | true => exact .inr (.inr (.inl ⟨hlt, h1, h2, h3⟩))
      | false =>
       cases h4 : digitB s[k] with
       | true => exact .inr (.inr (.inr (.inl ⟨hlt, h1, h2, h3, h4⟩)))
       | false =>
        rcases Nat.eq_zero_or_pos (symN (s.data.toList.drop k)) with h5 | h5
        ·exact .inr (.inr (.inr (.inr (.inr (.inl ⟨hlt, h1, h2, h3, h4, h5⟩)))))
        ·exact .inr (.inr (.inr (.inr (.inl ⟨hlt, h1, h2, h3, h4, h5⟩))))
   ·exact .inr (.inr (.inr (.inr (.inr (.inr (by omega))))))
  have hstop := Lib.hid (fun (hlt : k < s.size) (h : whiteB s[k] = true ∨ (s[k] == 35) = true ∨ letterB s[k] = true ∨ digitB s[k] = true ∨ 0 < symN (s.data.toList.drop k)) => (show k = R by
   have h1 := hn.out
   have h2 := h
   rw [drop_get s k hlt] at h1 h2
   rw [wrong_stop h2] at h1
   exact h1))
  rcases hcase with ⟨hlt, h1⟩ | ⟨hlt, h1, h2⟩ | ⟨hlt, h1, h2, h3⟩ | ⟨hlt, h1, h2, h3, h4⟩ | ⟨hlt, h1, h2, h3, h4, h5⟩ | ⟨hlt, h1, h2, h3, h4, h5⟩ | hE
  ·have hW := Lib.hid (fun (W : World) => hWf.out s[k] W)
   rw [h1] at hW
   have hx := Lib.hid (hstop.out hlt (.inl h1))
   clear h1 hn hstop hSf hLf hDf hWf
   go_wp2_with (go_at_call 89; refine (hW.out _).mono ?_; rintro e _ ⟨rfl, rfl⟩)
   go_ret2
   have := hx.out
   rw [hm.out]
   exact ⟨by simp only [show ((a + (R - a) : Nat) : Int) = k by omega]; rfl, hb.out⟩
  ·have hW := Lib.hid (fun (W : World) => hWf.out s[k] W)
   rw [h1] at hW
   have hb35 : ((s[k].toNat : Int) == 35) = true := u8_b s[k] 35 (by decide) h2
   have hb35' : ((s[k].toNat : Int) != 35) = false := by simpa using hb35
   have hx := Lib.hid (hstop.out hlt (.inr (.inl h2)))
   clear h1 h2 hn hstop hSf hLf hDf hWf
   go_wp2_with (go_at_call 89; refine (hW.out _).mono ?_; rintro e _ ⟨rfl, rfl⟩)
   go_ret2
   have := hx.out
   rw [hm.out]
   exact ⟨by simp only [show ((a + (R - a) : Nat) : Int) = k by omega]; rfl, hb.out⟩
  ·have hW := Lib.hid (fun (W : World) => hWf.out s[k] W)
   have hL := Lib.hid (fun (W : World) => hLf.out s[k] W)
   rw [h1] at hW
   rw [h3] at hL
   have hb35 : ((s[k].toNat : Int) == 35) = false := u8_b s[k] 35 (by decide) h2
   have hb35' : ((s[k].toNat : Int) != 35) = true := by simpa using hb35
   have hx := Lib.hid (hstop.out hlt (.inr (.inr (.inl h3))))
   clear h1 h2 h3 hn hstop hSf hLf hDf hWf
   go_wp2_with (first | (go_at_call 89; refine (hW.out _).mono ?_; rintro e _ ⟨rfl, rfl⟩) | (go_at_call 90; refine (hL.out _).mono ?_; rintro e _ ⟨rfl, rfl⟩))
   go_ret2
   have := hx.out
   rw [hm.out]
   exact ⟨by simp only [show ((a + (R - a) : Nat) : Int) = k by omega]; rfl, hb.out⟩
  ·have hW := Lib.hid (fun (W : World) => hWf.out s[k] W)
   have hL := Lib.hid (fun (W : World) => hLf.out s[k] W)
   have hD := Lib.hid (fun (W : World) => hDf.out s[k] W)
   rw [h1] at hW
   rw [h3] at hL
   rw [h4] at hD
   have hb35 : ((s[k].toNat : Int) == 35) = false := u8_b s[k] 35 (by decide) h2
   have hb35' : ((s[k].toNat : Int) != 35) = true := by simpa using hb35
   have hx := Lib.hid (hstop.out hlt (.inr (.inr (.inr (.inl h4)))))
   clear h1 h2 h3 h4 hn hstop hSf hLf hDf hWf
   go_wp2_with (first | (go_at_call 89; refine (hW.out _).mono ?_; rintro e _ ⟨rfl, rfl⟩) | (go_at_call 90; refine (hL.out _).mono ?_; rintro e _ ⟨rfl, rfl⟩) | (go_at_call 91; refine (hD.out _).mono ?_; rintro e _ ⟨rfl, rfl⟩))
   go_ret2
   have := hx.out
   rw [hm.out]
   exact ⟨by simp only [show ((a + (R - a) : Nat) : Int) = k by omega]; rfl, hb.out⟩
  ·have hW := Lib.hid (fun (W : World) => hWf.out s[k] W)
   have hL := Lib.hid (fun (W : World) => hLf.out s[k] W)
   have hD := Lib.hid (fun (W : World) => hDf.out s[k] W)
   have hS := Lib.hid (fun (W : World) => hSf.out W k hk)
   rw [h1] at hW
   rw [h3] at hL
   rw [h4] at hD
   have hb35 : ((s[k].toNat : Int) == 35) = false := u8_b s[k] 35 (by decide) h2
   have hb35' : ((s[k].toNat : Int) != 35) = true := by simpa using hb35
   have hx := Lib.hid (hstop.out hlt (.inr (.inr (.inr (.inr h5)))))
   clear h1 h2 h3 h4 hn hstop hSf hLf hDf hWf
   generalize symN (s.data.toList.drop k) = n at *
   have hn0 : ((n : Int) == 0) = false := by simp; omega
   go_wp2_with (first | (go_at_call 89; refine (hW.out _).mono ?_; rintro e _ ⟨rfl, rfl⟩) | (go_at_call 90; refine (hL.out _).mono ?_; rintro e _ ⟨rfl, rfl⟩) | (go_at_call 91; refine (hD.out _).mono ?_; rintro e _ ⟨rfl, rfl⟩) | (go_at_call 93; refine (hS.out _).mono ?_; rintro e w2 ⟨rfl, k2⟩; have k2' := Lib.hid (hb.out.trans (k2.mono hb.out.size)); clear k2))
   go_ret2
   have := hx.out
   rw [hm.out]
   exact ⟨by simp only [show ((a + (R - a) : Nat) : Int) = k by omega]; rfl, k2'.out⟩
  ·have hW := Lib.hid (fun (W : World) => hWf.out s[k] W)
   have hL := Lib.hid (fun (W : World) => hLf.out s[k] W)
   have hD := Lib.hid (fun (W : World) => hDf.out s[k] W)
   have hS := Lib.hid (fun (W : World) => hSf.out W k hk)
   rw [h1] at hW
   rw [h3] at hL
   rw [h4] at hD
   rw [h5] at hS
   have hb35 : ((s[k].toNat : Int) == 35) = false := u8_b s[k] 35 (by decide) h2
   have hb35' : ((s[k].toNat : Int) != 35) = true := by simpa using hb35
   have hx : Hid ((k + 1) + wrongN (s.data.toList.drop (k + 1)) = R) := by
    have h6 := hn.out
    have h7 := h5
    rw [drop_get s k hlt] at h6 h7
    rw [wrong_step h1 h2 h3 h4 h7] at h6
    unfold Hid
    omega
   clear h1 h2 h3 h4 h5 hn hstop hSf hLf hDf hWf
   go_wp2_with (first | (go_at_call 89; refine (hW.out _).mono ?_; rintro e _ ⟨rfl, rfl⟩) | (go_at_call 90; refine (hL.out _).mono ?_; rintro e _ ⟨rfl, rfl⟩) | (go_at_call 91; refine (hD.out _).mono ?_; rintro e _ ⟨rfl, rfl⟩) | (go_at_call 93; refine (hS.out _).mono ?_; rintro e w2 ⟨rfl, k2⟩; have k2' := Lib.hid (hb.out.trans (k2.mono hb.out.size)); clear k2))
   go_roundw
   case rel => exact ⟨k + 1, by omega, by omega, by go_num, hx, k2'⟩
   case measure => simp [intOf]; omega
  ·obtain rfl : k = s.size := by omega
   have hx : Hid (s.size = R) := by
    have h2 := hn.out
    rw [drop_end] at h2
    exact h2
   clear hn hstop hSf hLf hDf hWf
   go_wp2_with fail
   go_ret2
   have := hx.out
   rw [hm.out]
   exact ⟨by simp only [show ((a + (R - a) : Nat) : Int) = s.size by omega]; rfl, hb.out⟩
theorem rtoken_walk (w : World) (s : ByteArray) (hs : s.size ≤ 100000) (a : Nat) (ha : a < s.size) (h0 : skipS false (s.data.toList.drop a) = 0) :
 Calls Tryz.prog 41 #[.string s, .int .i64 a] w (TokEnd w a (tokB (s.data.toList.drop a))) := by
 cases hl : letterB s[a] with
 | true => exact rtoken_letter w s hs a ha hl
 | false =>
  cases hd : digitB s[a] with
  | true => exact rtoken_digit w s hs a ha hl hd
  | false =>
   rcases Nat.eq_zero_or_pos (symN (s.data.toList.drop a)) with hy | hy
   ·exact rtoken_wrong w s hs a ha h0 hl hd hy
   ·exact rtoken_symbol w s hs a ha hl hd hy
end Go.Proofs.YthggagophcnkfaaGreatDoor.lx
namespace Go.Proofs.YthggagophcnkfaaGreatDoor.lx
open Go.RowKit Go.Proofs.YthggagophcnkfaaGreatDoor.agg Go.Proofs.YthggagophcnkfaaGreatDoor.sx Go.Proofs.YthggagophcnkfaaGreatDoor.px
set_option linter.unusedSimpArgs false
set_option linter.unusedVariables false
theorem info_tk3 : (Tryz.prog.info? 39).map (fun i => (i.zero, i.size, i.bytes)) = some (some (.agg #[.int .i64 0, .int .i64 0, .int .i64 0, .int .i64 0]), 4, 32) := by kernel_rfl
theorem scan_end {n : Nat} {l : List UInt8} {pos : Nat} (h : l.drop (skipS false l) = []) : scan (n + 1) l pos = [⟨0, pos, pos + skipS false l, pos + skipS false l⟩] := by
 rw [scan, h]
theorem scan_step {n : Nat} {l l2 : List UInt8} {pos : Nat} (h : l.drop (skipS false l) = l2) (h2 : l2 ≠ []) : scan (n + 1) l pos = ⟨(tokB l2).1, pos, pos + skipS false l, pos + skipS false l + (tokB l2).2⟩ :: scan n (l2.drop (tokB l2).2) (pos + skipS false l + (tokB l2).2) := by
 rw [scan, h]
 cases l2 with
 | nil => exact absurd rfl h2
 | cons c r => rfl
theorem skip_skip (l : List UInt8) : skipS false (l.drop (skipS false l)) = 0 := by
 have h : ∀ (b : Bool) (l : List UInt8), skipS false (l.drop (skipS b l)) = 0 := by
  intro b l
  induction l generalizing b with
  | nil => cases b <;> rfl
  | cons c l ih =>
   cases b with
   | false =>
    cases h1 : whiteB c with
    | true => rw [skip_white h1, Nat.add_comm, List.drop_succ_cons]; exact ih false
    | false =>
     cases h2 : c == 35 with
     | true => rw [comment_start h1 h2, comment_step (by rw [show c = 35 by simpa using h2]; decide), List.drop_succ_cons]; exact ih true
     | false => rw [skip_other h1 h2, List.drop_zero, skip_other h1 h2]
   | true =>
    cases h2 : c == 10 with
    | true => rw [comment_stop h2, skip_white (by rw [show c = 10 by simpa using h2]; decide), Nat.add_comm, List.drop_succ_cons]; exact ih false
    | false => rw [comment_step h2, List.drop_succ_cons]; exact ih true
 exact h false l
theorem tokV_snoc (ts : List Tok) (t : Tok) : tokV (ts ++ [t]) = tokV ts ++ t.cells.toList := by rw [tokV_app]; simp [tokV]
theorem tokB_le (l : List UInt8) : (tokB l).2 ≤ l.length := tokB_len l
theorem own_grow {B : Nat} {w0 w W0 w' : World} {e : TypeId} {size n : Nat} {v : Value} {xs : List Value} (h : w.ownsRow B e size v n xs) (hw : Below B w0 w) (hb : Below w.heap.size w W0) (hs : B ≤ w.heap.size) (hg : W0.grownBy w' v.ownBlock) : Below B w0 w' :=
 hw.trans ((hb.mono hs).trans ((Kept.grown (F := fun k => v.ownBlock = some k) hg (fun k hk => hk)).below B (Nat.le_trans hs hb.size) (fun i hi => (h.lt i hi).1)))
set_option maxRecDepth 100000 in
set_option maxHeartbeats 4000000 in
theorem rscan_walk (w : World) (T : ByteArray) (hT : T.size ≤ 4096) : Calls Tryz.prog 14 #[.string T] w (ScanEnd2 w T) := by
 have hTL : T.data.toList.length = T.size := rfl
 have hstart : Hid ([] ++ scan (T.size + 1) (T.data.toList.drop 0) 0 = toks T) := rfl
 have hlen := toks_len' T
 unfold ScanEnd2
 generalize toks T = R at *
 have hSk := Lib.hid (fun (W : World) (a : Nat) (ha : a ≤ T.size) => rskip_walk W T (by omega) a ha)
 have hTk := Lib.hid (fun (W : World) (a : Nat) (ha : a < T.size) (h0 : skipS false (T.data.toList.drop a) = 0) => rtoken_walk W T (by omega) a ha h0)
 obtain ⟨i0, hi, hz0, hz1, hz2⟩ := info_parts info_tk3
 go_enter Tryz.func14, Tryz.ntmps14
 go_wp2_with fail
 have hrow : Hid ((w.alloc (.cells #[] 39)).ownsRow w.heap.size 39 4 (.slice (some ⟨w.heap.size, 0, none⟩) 0 0) 0 []) := World.ownsRow_lit w #[] 0 (Nat.le_refl _) (by decide) rfl
 have hbel : Hid (Below w.heap.size w (w.alloc (.cells #[] 39))) := (Below.refl _ w).alloc (Nat.le_refl _) _
 go_loopw [4, 5] (fun o f wr => ∃ (k a : Nat) (ts : List Tok) (ao : Option Addr) (cp : Nat), o = .slice ao ts.length cp ∧ f = .int .i64 a ∧ a ≤ T.size ∧ T.size - a < k ∧ ts.length ≤ a ∧ Hid (ts ++ scan k (T.data.toList.drop a) a = R) ∧ Hid (wr.ownsRow w.heap.size 39 4 (.slice ao ts.length cp) ts.length (tokV ts)) ∧ Hid (Below w.heap.size w wr)) (fun _ f _ => T.size - (intOf f).toNat)
 case atStart => exact ⟨T.size + 1, 0, [], _, 0, rfl, rfl, by omega, by omega, by simp, hstart, hrow, hbel⟩
 case round =>
  clear hstart hrow hbel
  obtain ⟨k, a, ts, ao, cp, rfl, rfl, ha, hk, hts, hsc, hrow, hbel⟩ := hrel
  obtain ⟨k', rfl⟩ : ∃ k', k = k' + 1 := ⟨k - 1, by omega⟩
  obtain ⟨A, hA⟩ : ∃ A, a + skipS false (T.data.toList.drop a) = A := ⟨_, rfl⟩
  have hAd : Hid ((T.data.toList.drop a).drop (skipS false (T.data.toList.drop a)) = T.data.toList.drop A) := by rw [← hA, List.drop_drop]; exact rfl
  have hAle : A ≤ T.size := by
   have := skipS_le false (T.data.toList.drop a)
   rw [List.length_drop, hTL] at this
   omega
  have hS := Lib.hid (fun (W : World) => hSk.out W a ha)
  rw [hA] at hS
  have hbz := hbel.out.size
  by_cases hlt : A < T.size
  ·have hne : T.data.toList.drop A ≠ [] := by
    intro e
    have := congrArg List.length e
    rw [List.length_drop, hTL] at this
    simp at this
    omega
   have h0 : skipS false (T.data.toList.drop A) = 0 := by rw [← hAd.out]; exact skip_skip _
   have hTk2 := Lib.hid (fun (W : World) => hTk.out W A hlt h0)
   have hsc2 := scan_step (n := k') (pos := a) hAd.out hne
   have hle := tokB_le (T.data.toList.drop A)
   have hpos : 0 < (tokB (T.data.toList.drop A)).2 := by
    rw [drop_get T A hlt]
    exact tokB_pos.1
   rw [List.length_drop, hTL] at hle
   rw [hA, List.drop_drop] at hsc2
   generalize tokB (T.data.toList.drop A) = m at *
   obtain ⟨m1, m2⟩ := m
   simp only at hsc2 hle hpos
   have hsc3 : Hid ((ts ++ [⟨m1, a, A, A + m2⟩]) ++ scan k' (T.data.toList.drop (A + m2)) (A + m2) = R) := by
    have h1 := hsc.out
    rw [hsc2] at h1
    rw [List.append_assoc]
    exact h1
   have haA : a ≤ A := by omega
   clear hsc hsc2 hA hAd hne h0
   unfold TokEnd at hTk2
   simp only at hTk2
   obtain ⟨b, hb⟩ : ∃ b, A + m2 = b := ⟨_, rfl⟩
   have hbs : b ≤ T.size := by omega
   have hab : a < b := by omega
   rw [hb] at hTk2 hsc3
   have hb' := Lib.hid hb
   clear hb hpos
   go_wp2_with (first
    | (go_at_call 40; refine (hS.out _).mono ?_; rintro e _ ⟨rfl, rfl⟩)
    | (go_at_call 41; refine (hTk2.out _).mono ?_; rintro e w2 ⟨rfl, k2⟩; have k2' := Lib.hid k2; have hzz := k2.size; clear k2)
    | (at_builtin; refine wpList_append_mine rfl (.tmp 28) (.tmp 34) 35 rfl w.heap.size 39 i0 _ 4 32 Tryz.underlying35 hi hz0 hz1 hz2 (by decide) (.slice ao ts.length cp) ts.length (tokV ts) rfl ((ownsRow_same hrow.out (fun b hb => k2'.out.block b (hrow.out.lt b hb).2)).alloc _) ⟨w2.heap.size, 0, none⟩ 1 1 (Tok.mk m1 a A b).cells.toList rfl rfl (by omega) (cells_new w2 (Tok.mk m1 a A b).cells _) (tok_one _) (by unfold maxLen; omega) (by omega) (by simp; omega) ?_; intro g' cap' w' hown' hgrow hnew))
   have hrow2 := Lib.hid hown'
   have hbel2 := Lib.hid (own_grow (W0 := w2.alloc (.cells #[.int .i64 m1, .int .i64 a, .int .i64 A, .int .i64 b] 39)) hrow.out hbel.out (k2'.out.alloc hzz _) hbz hgrow)
   clear hown' hgrow hnew
   go_wp2
   go_roundw
   case rel => exact ⟨k', b, ts ++ [⟨m1, a, A, b⟩], _, cap', by rw [List.length_append]; rfl, by rfl, hbs, by omega, by rw [List.length_append]; simp only [List.length_singleton]; omega, hsc3, by rw [tokV_snoc, List.length_append]; exact hrow2, hbel2⟩
   case measure => simp [intOf]; omega
  ·obtain rfl : A = T.size := by omega
   have hfin : Hid (ts ++ [⟨0, a, T.size, T.size⟩] = R) := by
    have h1 := hsc.out
    rw [scan_end (by rw [hAd.out]; exact drop_end T), hA] at h1
    exact h1
   clear hsc hA hAd hTk
   go_wp2_with (first
    | (go_at_call 40; refine (hS.out _).mono ?_; rintro e _ ⟨rfl, rfl⟩)
    | (at_builtin; refine wpList_append_mine rfl (.tmp 37) (.tmp 44) 35 rfl w.heap.size 39 i0 _ 4 32 Tryz.underlying35 hi hz0 hz1 hz2 (by decide) (.slice ao ts.length cp) ts.length (tokV ts) rfl (hrow.out.alloc _) ⟨wr.heap.size, 0, none⟩ 1 1 (Tok.mk 0 a T.size T.size).cells.toList rfl rfl (by omega) (cells_new wr (Tok.mk 0 a T.size T.size).cells _) (tok_one _) (by unfold maxLen; omega) (by omega) (by simp; omega) ?_; intro g' cap' w' hown' hgrow hnew))
   have hrow2 := Lib.hid hown'
   have hbel2 := Lib.hid (own_grow (W0 := wr.alloc (.cells #[.int .i64 0, .int .i64 a, .int .i64 T.size, .int .i64 T.size] 39)) hrow.out hbel.out ((Below.refl _ wr).alloc (Nat.le_refl _) _) hbz hgrow)
   clear hown' hgrow hnew
   go_wp2
   go_ret2
   refine ⟨_, rfl, ?_, hbel2.out⟩
   rw [← hfin.out, tokV_snoc, List.length_append]
   exact hrow2.out
end Go.Proofs.YthggagophcnkfaaGreatDoor.lx
namespace Go.Proofs.YthggagophcnkfaaGreatDoor.lx
open Go.RowKit Go.Proofs.YthggagophcnkfaaGreatDoor.agg Go.Proofs.YthggagophcnkfaaGreatDoor.sx Go.Proofs.YthggagophcnkfaaGreatDoor.px
set_option linter.unusedSimpArgs false
set_option linter.unusedVariables false
theorem kind_two {T : ByteArray} (h1 : T.size ≤ 4096) {t : Tok} {rest : List Tok} (h : toks T = t :: rest) : kindB T.data.toList = if (t :: rest).length = 2 ∧ t.at_ = 0 ∧ t.to = T.size then t.kind else 0 := by
 by_cases h0 : T = ⟨#[]⟩
 ·subst h0
  have e : toks ⟨#[]⟩ = [⟨0, 0, 0, 0⟩] := by decide +kernel
  rw [e] at h
  obtain ⟨rfl, rfl⟩ := List.cons.inj h
  rfl
 ·rw [kind_head h0 h1 h]
  by_cases hc : t.at_ = 0 ∧ t.to = T.size
  ·rw [if_pos hc]
   suffices hl : (t :: rest).length = 2 by rw [if_pos ⟨hl, hc⟩]
   have hn : T.data.toList ≠ [] := by
    intro e
    apply h0
    obtain ⟨⟨l⟩⟩ := T
    have : l = [] := e
    rw [this]
   have hl : T.data.toList.length = T.size := rfl
   have hp : 0 < T.size := by
    rw [← hl]
    exact List.length_pos_iff.2 hn
   obtain ⟨rest', e⟩ := toks_head T
   have h' := h
   rw [h] at e
   obtain ⟨rfl, _⟩ := List.cons.inj e
   simp only at hc
   obtain ⟨hc1, hc2⟩ := hc
   rw [hc1, List.drop_zero, Nat.zero_add] at hc2
   obtain ⟨m, hm⟩ : ∃ m, T.size = m + 1 := ⟨T.size - 1, by omega⟩
   rw [← h']
   unfold toks
   rw [scan_step (l2 := T.data.toList) (by rw [hc1, List.drop_zero]) hn, hc2, List.drop_eq_nil_of_le (by omega), hm, scan_end rfl]
   rfl
  ·rw [if_neg hc, if_neg (fun e => hc e.2)]
set_option maxRecDepth 100000 in
set_option maxHeartbeats 1000000 in
theorem rkind_walk (w : World) (T : ByteArray) (hT : T.size ≤ 4096) : Calls Tryz.prog 132 #[.string T] w (KindEnd w (kindB T.data.toList)) := by
 have hS := Lib.hid (rscan_walk w T hT)
 obtain ⟨t, rest, hL⟩ : ∃ t rest, toks T = t :: rest := by
  obtain ⟨rest, e⟩ := toks_head T
  exact ⟨_, rest, e⟩
 have hk0 := kind_two hT hL
 unfold ScanEnd2 at hS
 rw [hL] at hS
 have hpos : 0 < (t :: rest).length := by simp
 have hle : (t :: rest).length ≤ T.size + 2 := by rw [← hL]; exact toks_len' T
 have htl : t.at_ ≤ t.to ∧ t.to ≤ T.size := by
  obtain ⟨init, e, h1, _, _, _, h2, _⟩ := toks_split T
  have h3 := h2 t (by rw [← h1, hL]; exact List.mem_cons_self)
  exact h3.2
 generalize kindB T.data.toList = k at *
 have hrow := Lib.hid (fun (w1 : World) (g cap : Nat) (hr : w1.ownsRow w.heap.size 39 4 (.slice (some ⟨g, 0, none⟩) (t :: rest).length cap) (t :: rest).length (tokV (t :: rest))) (j : Nat) (u : Value) (hu : t.cells.toList[j]? = some u) => (by
  have := tokV_cell (L := t :: rest) (i := 0) hr (by simp) (j := j) (u := u) (by simpa using hu)
  simpa using this : w1.cell? ⟨g, j, none⟩ = some u))
 obtain ⟨n, hn⟩ : ∃ n, (t :: rest).length = n := ⟨_, rfl⟩
 have hsome := Lib.hid (fun (w1 : World) (v : Value) (hr : w1.ownsRow w.heap.size 39 4 v (t :: rest).length (tokV (t :: rest))) => row_some hr hpos)
 rw [hn] at hS hrow hk0 hpos hle hsome
 obtain ⟨kk, kf, ka, kt⟩ := t
 simp only at hk0 htl
 have hk := Lib.hid hk0
 clear hk0 hL hn
 go_enter Tryz.func132, Tryz.ntmps132
 go_upto_region 2 with (first
  | (go_at_call 14; refine hS.out.mono ?_; rintro e w1 ⟨v, rfl, hr, hb⟩; obtain ⟨g, cap, rfl⟩ := hsome.out _ _ hr; have hb' := Lib.hid hb; have y0 := hrow.out _ _ _ hr 0 _ rfl; have y2 := hrow.out _ _ _ hr 2 _ rfl; have y3 := hrow.out _ _ _ hr 3 _ rfl; clear hr hb))
 clear hS hrow hsome
 have hcase : n ≠ 2 ∨ (n = 2 ∧ ka ≠ 0) ∨ (n = 2 ∧ ka = 0 ∧ kt ≠ T.size) ∨ (n = 2 ∧ ka = 0 ∧ kt = T.size) := by omega
 rcases hcase with h1 | ⟨rfl, h1⟩ | ⟨rfl, rfl, h1⟩ | ⟨rfl, rfl, rfl⟩
 ·have hkk : k = 0 := by rw [hk.out, if_neg (fun e => h1 e.1)]
  subst hkk
  have e1 : ((n : Int) != 2) = true := by rw [bne_iff_ne]; omega
  go_wp2_with fail
  go_ret
  exact ⟨rfl, hb'.out⟩
 ·have hkk : k = 0 := by rw [hk.out, if_neg (fun e => h1 e.2.1)]
  subst hkk
  have e1 : ((ka : Int) != 0) = true := by rw [bne_iff_ne]; omega
  go_wp2_with fail
  go_ret
  exact ⟨rfl, hb'.out⟩
 ·have hkk : k = 0 := by rw [hk.out, if_neg (fun e => h1 e.2.2)]
  subst hkk
  have e1 : ((kt : Int) != (T.size : Int)) = true := by rw [bne_iff_ne]; omega
  go_wp2_with fail
  go_ret
  exact ⟨rfl, hb'.out⟩
 ·have hkk : k = kk := by rw [hk.out, if_pos ⟨rfl, rfl, rfl⟩]
  subst hkk
  go_wp2_with fail
  go_ret
  exact ⟨rfl, hb'.out⟩
set_option maxRecDepth 100000 in
set_option maxHeartbeats 1000000 in
theorem rnumber_walk (w : World) (T : ByteArray) (hT : T.size ≤ 4096) : Calls Tryz.prog 77 #[.string T] w (NumberEnd w (numberB T.data.toList)) := by
 have hK := Lib.hid (rkind_walk w T hT)
 have hn : numberB T.data.toList = (decide (T.size ≤ 4) && kindB T.data.toList == 3) := rfl
 rw [hn]
 generalize kindB T.data.toList = k at *
 clear hn
 by_cases h3 : k = 3
 ·subst h3
  by_cases h4 : T.size ≤ 4
  ·have e0 : (decide (T.size ≤ 4) && (3 : Nat) == 3) = true := by rw [decide_eq_true h4]; rfl
   rw [e0]
   go_enter Tryz.func77, Tryz.ntmps77
   go_wp2_with (first
    | (go_at_call 132; refine hK.out.mono ?_; rintro e w1 ⟨rfl, hb⟩; have hb' := Lib.hid hb; clear hb))
   go_loopw [4, 5] (fun v i wr => ∃ (m : Int) (j : Nat), v = .int .i64 m ∧ i = .int .i64 j ∧ j ≤ T.size ∧ wr = w1) (fun _ i _ => T.size - (intOf i).toNat)
   case atStart => exact ⟨0, 0, rfl, rfl, Nat.zero_le _, by first | rfl | trivial⟩
   case round =>
    obtain ⟨m, j, rfl, rfl, hj, rfl⟩ := hrel
    by_cases hlt : j < T.size
    ·go_wp2
     go_roundw
     case rel => exact ⟨_, j + 1, rfl, by go_num, by omega, by first | rfl | trivial⟩
     case measure => simp [intOf]; omega
    ·obtain rfl : j = T.size := by omega
     go_wp2
     go_ret2
     exact ⟨m, rfl, hb'.out⟩
  ·have e0 : (decide (T.size ≤ 4) && (3 : Nat) == 3) = false := by rw [decide_eq_false h4]; rfl
   rw [e0]
   go_enter Tryz.func77, Tryz.ntmps77
   go_wp2_with (first
    | (go_at_call 132; refine hK.out.mono ?_; rintro e w1 ⟨rfl, hb⟩; have hb' := Lib.hid hb; clear hb))
   go_ret2
   exact ⟨0, rfl, hb'.out⟩
 ·have e0 : (decide (T.size ≤ 4) && k == 3) = false := by
   have : (k == 3) = false := by simpa using h3
   rw [this, Bool.and_false]
  have hk2 : ((k : Int) != 3) = true := by rw [bne_iff_ne]; omega
  rw [e0]
  go_enter Tryz.func77, Tryz.ntmps77
  go_wp2_with (first
   | (go_at_call 132; refine hK.out.mono ?_; rintro e w1 ⟨rfl, hb⟩; have hb' := Lib.hid hb; clear hb))
  go_ret2
  exact ⟨0, rfl, hb'.out⟩
end Go.Proofs.YthggagophcnkfaaGreatDoor.lx
