/- The walks of the reference lexer's letter, digit, white and skip. The walks of the reference lexer's Has, Keywords, Symbols and symbol. -/
import Derived.Test.YthggagophcnkfaaGreatDoorM3
import Derived.Test.YthggagophcnkfaaGreatDoorM5
import Derived.Deep.QuietTactic
import Derived.BigQuiet
import Derived.OwnWalk
import Derived.IntWalk
namespace Go.Proofs.YthggagophcnkfaaGreatDoor.lx
open Go.RowKit Go.Proofs.YthggagophcnkfaaGreatDoor.agg Go.Proofs.YthggagophcnkfaaGreatDoor.sx
set_option linter.unusedSimpArgs false
set_option linter.unusedVariables false
theorem rletter_fn : ByteFn 90 letterB := by
 intro c W
 unfold letterB
 have hc := c.toNat_lt
 generalize c.toNat = n at *
 by_cases h1 : 97 ≤ n
 ·rw [decide_eq_true h1]
  have e1 : decide (n ≤ 122) = decide ((n : Int) ≤ 122) := by
   by_cases h2 : n ≤ 122
   ·rw [decide_eq_true h2, decide_eq_true (by omega)]
   ·rw [decide_eq_false h2, decide_eq_false (by omega)]
  rw [e1]
  go_enter Tryz.func90, Tryz.ntmps90
  go_wp2_with fail
  go_ret
  exact ⟨rfl, rfl⟩
 ·rw [decide_eq_false h1]
  go_enter Tryz.func90, Tryz.ntmps90
  go_wp2_with fail
  go_ret
  exact ⟨rfl, rfl⟩
theorem rdigit_fn : ByteFn 91 digitB := by
 intro c W
 unfold digitB
 have hc := c.toNat_lt
 generalize c.toNat = n at *
 by_cases h1 : 48 ≤ n
 ·rw [decide_eq_true h1]
  have e1 : decide (n ≤ 57) = decide ((n : Int) ≤ 57) := by
   by_cases h2 : n ≤ 57
   ·rw [decide_eq_true h2, decide_eq_true (by omega)]
   ·rw [decide_eq_false h2, decide_eq_false (by omega)]
  rw [e1]
  go_enter Tryz.func91, Tryz.ntmps91
  go_wp2_with fail
  go_ret
  exact ⟨rfl, rfl⟩
 ·rw [decide_eq_false h1]
  go_enter Tryz.func91, Tryz.ntmps91
  go_wp2_with fail
  go_ret
  exact ⟨rfl, rfl⟩
theorem rwhite_fn : ByteFn 89 whiteB := by
 intro c W
 have hb : whiteB c = ((((c.toNat : Int) == 9) || ((c.toNat : Int) == 10)) || ((c.toNat : Int) == 13) || ((c.toNat : Int) == 32)) := by
  have h1 : ((c.toNat : Int) == 32) = (c == UInt8.ofNat 32) := u8_eq c 32 (by decide)
  have h2 : ((c.toNat : Int) == 9) = (c == UInt8.ofNat 9) := u8_eq c 9 (by decide)
  have h3 : ((c.toNat : Int) == 10) = (c == UInt8.ofNat 10) := u8_eq c 10 (by decide)
  have h4 : ((c.toNat : Int) == 13) = (c == UInt8.ofNat 13) := u8_eq c 13 (by decide)
  have e1 : whiteB c = (c == UInt8.ofNat 32 || c == UInt8.ofNat 9 || c == UInt8.ofNat 10 || c == UInt8.ofNat 13) := rfl
  rw [e1, ← h1, ← h2, ← h3, ← h4]
  cases ((c.toNat : Int) == 32) <;> cases ((c.toNat : Int) == 9) <;> cases ((c.toNat : Int) == 10) <;> cases ((c.toNat : Int) == 13) <;> rfl
 rw [hb]
 have hc := c.toNat_lt
 clear hb
 generalize c.toNat = n at *
 cases h1 : ((n : Int) == 9) with
 | true =>
  go_enter Tryz.func89, Tryz.ntmps89
  go_wp2_with fail
  go_ret
  exact ⟨rfl, rfl⟩
 | false =>
  cases h2 : ((n : Int) == 10) with
  | true =>
   go_enter Tryz.func89, Tryz.ntmps89
   go_wp2_with fail
   go_ret
   exact ⟨rfl, rfl⟩
  | false =>
   cases h3 : ((n : Int) == 13) with
   | true =>
    go_enter Tryz.func89, Tryz.ntmps89
    go_wp2_with fail
    go_ret
    exact ⟨rfl, rfl⟩
   | false =>
    go_enter Tryz.func89, Tryz.ntmps89
    go_wp2_with fail
    go_ret
    exact ⟨rfl, rfl⟩
theorem drop_end (s : ByteArray) : s.data.toList.drop s.size = [] := List.drop_eq_nil_of_le (Nat.le_refl _)
theorem comment_step {c : UInt8} {l : List UInt8} (h : (c == 10) = false) : skipS true (c :: l) = skipS true l + 1 := by
 rw [skipS, if_neg (by rw [h]; simp)]
theorem comment_stop {c : UInt8} {l : List UInt8} (h : (c == 10) = true) : skipS true (c :: l) = skipS false (c :: l) := by
 have hw : whiteB c = true := by rw [show c = 10 by simpa using h]; rfl
 rw [skipS, if_pos h, skipS, if_pos hw]
theorem comment_start {c : UInt8} {l : List UInt8} (h : whiteB c = false) (h2 : (c == 35) = true) : skipS false (c :: l) = skipS true (c :: l) := by
 have hc : c = 35 := by simpa using h2
 subst hc
 show (if whiteB 35 then skipS false l + 1 else if (35 : UInt8) == 35 then skipS true l + 1 else 0) = (if (35 : UInt8) == 10 then skipS false l + 1 else skipS true l + 1)
 rfl
set_option maxHeartbeats 2000000 in
theorem rskip_walk (w : World) (s : ByteArray) (hs : s.size ≤ 100000) (a : Nat) (ha : a ≤ s.size) :
 Calls Tryz.prog 40 #[.string s, .int .i64 a] w fun e w' => e = .returned (.int .i64 ((a + skipS false (s.data.toList.drop a) : Nat) : Int)) ∧ w = w' := by
 obtain ⟨R, hR⟩ : ∃ R, a + skipS false (s.data.toList.drop a) = R := ⟨_, rfl⟩
 rw [hR]
 have hR' := Lib.hid hR
 clear hR
 go_enter Tryz.func40, Tryz.ntmps40
 go_wp2_with fail
 go_loop [1] (fun i => ∃ j : Nat, j ≤ s.size ∧ i = .int .i64 j ∧ Hid (j + skipS false (s.data.toList.drop j) = R)) (fun i => s.size - (intOf i).toNat)
 case atStart => exact ⟨a, ha, rfl, hR'⟩
 case round =>
  clear hR'
  obtain ⟨j, hj, rfl, hn⟩ := hrel
  by_cases hlt : j < s.size
  ·have hd := Lib.hid (drop_get s j hlt)
   have hW := Lib.hid (fun (W : World) => rwhite_fn s[j] W)
   cases hw : whiteB s[j] with
   | true =>
    rw [hw] at hW
    have hb : ((s[j].toNat : Int) == 35) = false := (u8_eq s[j] 35 (by decide)).trans (by
     cases h : s[j] == UInt8.ofNat 35 with
     | false => rfl
     | true => rw [show s[j] = UInt8.ofNat 35 by simpa using h] at hw; exact absurd hw (by decide))
    have hn2 : Hid ((j + 1) + skipS false (s.data.toList.drop (j + 1)) = R) := by
     have h1 := hn.out
     rw [hd.out, skip_white hw] at h1
     unfold Hid
     omega
    clear hw hn hd
    go_wp2_with (go_at_call 89; refine (hW.out _).mono ?_; rintro e _ ⟨rfl, rfl⟩)
    go_round
    case rel => exact ⟨j + 1, by omega, by go_num, hn2⟩
    case measure => simp [intOf]; omega
   | false =>
    rw [hw] at hW
    cases h35 : s[j] == 35 with
    | true =>
     have hb : ((s[j].toNat : Int) == 35) = true := (u8_eq s[j] 35 (by decide)).trans h35
     have hn2 : Hid (j + skipS true (s.data.toList.drop j) = R) := by
      have h1 := hn.out
      rw [hd.out, comment_start hw h35, ← hd.out] at h1
      exact h1
     have hne : Hid (¬ (s[j] == 10) = true) := by
      rw [show s[j] = 35 by simpa using h35]
      exact Lib.hid (by decide)
     clear hw hn hd h35
     go_wp2_with (go_at_call 89; refine (hW.out _).mono ?_; rintro e _ ⟨rfl, rfl⟩)
     go_loop [1] (fun i => ∃ k : Nat, j ≤ k ∧ k ≤ s.size ∧ i = .int .i64 k ∧ Hid (k + skipS true (s.data.toList.drop k) = R)) (fun i => s.size - (intOf i).toNat)
     case atStart => exact ⟨j, Nat.le_refl _, hj, rfl, hn2⟩
     case round =>
      obtain ⟨k, hjk, hk, rfl, hn3⟩ := hrel
      by_cases hlk : k < s.size
      ·have hd2 := Lib.hid (drop_get s k hlk)
       cases h10 : s[k] == 10 with
       | true =>
        have hb2 : ((s[k].toNat : Int) != 10) = false := by
         have := (u8_eq s[k] 10 (by decide)).trans h10
         simpa using this
        have hn4 : Hid (k + skipS false (s.data.toList.drop k) = R) := by
         have h1 := hn3.out
         rw [hd2.out, comment_stop h10, ← hd2.out] at h1
         exact h1
        have hjk2 : j < k := by
         rcases Nat.lt_or_eq_of_le hjk with h | h
         ·exact h
         ·subst h; exact absurd h10 hne.out
        clear h10 hd2 hn3 hne
        go_wp2_with fail
        go_round
        case rel => exact ⟨k, hk, rfl, hn4⟩
        case measure => simp [intOf]; omega
       | false =>
        have hb2 : ((s[k].toNat : Int) != 10) = true := by
         have := (u8_eq s[k] 10 (by decide)).trans h10
         simpa using this
        have hn4 : Hid ((k + 1) + skipS true (s.data.toList.drop (k + 1)) = R) := by
         have h1 := hn3.out
         rw [hd2.out, comment_step h10] at h1
         unfold Hid
         omega
        clear h10 hd2 hn3 hne
        go_wp2_with fail
        go_round
        case rel => exact ⟨k + 1, by omega, by omega, by go_num, hn4⟩
        case measure => simp [intOf]; omega
      ·obtain rfl : k = s.size := by omega
       have hn4 : Hid (s.size + skipS false (s.data.toList.drop s.size) = R) := by
        have h1 := hn3.out
        rw [drop_end] at h1 ⊢
        exact h1
       clear hn3 hne
       go_wp2_with fail
       go_round
       case rel => exact ⟨s.size, Nat.le_refl _, rfl, hn4⟩
       case measure => simp [intOf]; omega
    | false =>
     have hb : ((s[j].toNat : Int) == 35) = false := (u8_eq s[j] 35 (by decide)).trans h35
     have hr : Hid (R = j) := by
      have h1 := hn.out
      rw [hd.out, skip_other hw h35] at h1
      exact h1.symm
     clear hw hn hd h35
     go_wp2_with (go_at_call 89; refine (hW.out _).mono ?_; rintro e _ ⟨rfl, rfl⟩)
     go_ret
     exact ⟨by rw [hr.out]; rfl, rfl⟩
  ·obtain rfl : j = s.size := by omega
   have hr : Hid (R = s.size) := by
    have h1 := hn.out
    rw [drop_end] at h1
    exact h1.symm
   clear hn
   go_wp2_with fail
   go_ret
   exact ⟨by rw [hr.out]; rfl, rfl⟩
end Go.Proofs.YthggagophcnkfaaGreatDoor.lx
namespace Go.Proofs.YthggagophcnkfaaGreatDoor.lx
open Go.RowKit Go.Proofs.YthggagophcnkfaaGreatDoor.agg Go.Proofs.YthggagophcnkfaaGreatDoor.sx Go.Proofs.YthggagophcnkfaaGreatDoor.px
set_option linter.unusedSimpArgs false
set_option linter.unusedVariables false
set_option maxHeartbeats 1000000 in
theorem rhas_walk (w : World) (v : Value) (l : List ByteArray) (x : ByteArray) (h : StrsIn w v l) (hl : l.length < 1000000) :
 Calls Tryz.prog 78 #[v, .string x] w fun e w' => e = .returned (.bool (hasS l x)) ∧ w = w' := by
 obtain ⟨ao, ca, rfl, hc⟩ := h
 have hc' := Lib.hid hc
 clear hc
 go_enter Tryz.func78, Tryz.ntmps78
 go_wp2_with fail
 go_loop [5] (fun i => ∃ j : Nat, j ≤ l.length ∧ i = .int .i64 j ∧ ∀ k (hk : k < l.length), k < j → l[k] ≠ x) (fun i => l.length - (intOf i).toNat)
 case atStart => exact ⟨0, Nat.zero_le _, rfl, fun k _ h0 => by omega⟩
 case round =>
  obtain ⟨j, hj, rfl, hn⟩ := hrel
  have hn' := Lib.hid hn
  clear hn
  by_cases hlt : j < l.length
  ·obtain ⟨b1, o1, rfl, _, c1⟩ := hc'.out j hlt
   have hb := beq_str l[j] x
   by_cases he : l[j] = x
   ·rw [decide_eq_true he] at hb
    have hin : Hid (hasS l x = true) := by
     unfold Hid
     rw [hasS_iff, ← he]
     exact List.getElem_mem hlt
    clear he
    generalize l[j] = y at *
    go_wp2_with fail
    go_ret
    exact ⟨by rw [hin.out]; rfl, rfl⟩
   ·rw [decide_eq_false he] at hb
    have hn2 : Hid (∀ k (hk : k < l.length), k < j + 1 → l[k] ≠ x) := fun k hk hkj => by
     by_cases e : k = j
     ·subst e; exact he
     ·exact hn'.out k hk (by omega)
    clear he
    generalize l[j] = y at *
    go_wp2_with fail
    go_round
    case rel => exact ⟨j + 1, by omega, by go_num, hn2.out⟩
    case measure => simp [intOf]; omega
  ·have hin : Hid (hasS l x = false) := by
    unfold Hid
    cases hh : hasS l x with
    | false => rfl
    | true =>
     obtain ⟨k, hk, e⟩ := List.mem_iff_getElem.1 (hasS_iff.1 hh)
     exact absurd e (hn'.out k hk (by omega))
   go_wp2_with fail
   go_ret
   exact ⟨by rw [hin.out]; rfl, rfl⟩
def kwB : List ByteArray := keys.map fun l => ⟨l.toArray⟩
theorem has_keys (x : ByteArray) : hasS kwB x = keys.contains x.data.toList := by
 rw [Bool.eq_iff_iff, hasS_iff, List.contains_iff_mem]
 unfold kwB
 rw [List.mem_map]
 constructor
 ·rintro ⟨l, hl, rfl⟩
  simpa using hl
 ·intro h
  exact ⟨_, h, by obtain ⟨⟨x⟩⟩ := x; rfl⟩
def syms : List ByteArray := [(ByteArray.mk #[61, 61]), (ByteArray.mk #[33, 61]), (ByteArray.mk #[60, 61]), (ByteArray.mk #[62, 61]), (ByteArray.mk #[46, 46]), (ByteArray.mk #[60]), (ByteArray.mk #[62]), (ByteArray.mk #[61]), (ByteArray.mk #[43]), (ByteArray.mk #[45]), (ByteArray.mk #[42]), (ByteArray.mk #[40]), (ByteArray.mk #[41]), (ByteArray.mk #[123]), (ByteArray.mk #[125]), (ByteArray.mk #[44]), (ByteArray.mk #[58]), (ByteArray.mk #[59])]
theorem rkeywords_walk (w : World) : Calls Tryz.prog 92 #[] w fun e w' => ∃ v, e = .returned v ∧ StrsIn w' v kwB ∧ Below w.heap.size w w' := by
 go_enter Tryz.func92, Tryz.ntmps92
 go_wp2_with fail
 go_ret
 refine ⟨_, rfl, ?_, (Below.refl _ _).alloc (Nat.le_refl _) _⟩
 exact strs_new w kwB 35 (by decide +kernel)
theorem rsymbols_walk (w : World) : Calls Tryz.prog 140 #[] w fun e w' => ∃ v, e = .returned v ∧ StrsIn w' v syms ∧ Below w.heap.size w w' := by
 go_enter Tryz.func140, Tryz.ntmps140
 go_wp2_with fail
 go_ret
 refine ⟨_, rfl, ?_, (Below.refl _ _).alloc (Nat.le_refl _) _⟩
 exact strs_new w syms 18 rfl
theorem bl_drewN {B : Nat} {a w : World} (h : Below B a w) (n : Nat) : Below B a (w.drewN n) := h.trans ⟨rfl, rfl, rfl, Nat.le_refl _, fun _ _ => rfl⟩
def symR : List ByteArray → List UInt8 → Nat
 | [], _ => 0
 | y :: ys, l => if l.take y.size = y.data.toList then y.size else symR ys l
theorem symR_syms (l : List UInt8) : symR syms l = symN l := by
 match l with
 | [] => rfl
 | [a] =>
  have h2 : ∀ (x y : UInt8) (t : List ByteArray), symR (⟨#[x, y]⟩ :: t) [a] = symR t [a] := fun x y t => by
   rw [symR, if_neg]; simp [ByteArray.size]
  have h1 : ∀ (x : UInt8) (t : List ByteArray), symR (⟨#[x]⟩ :: t) [a] = if a = x then 1 else symR t [a] := fun x t => by
   rw [symR]; simp [ByteArray.size]
  have h0 : symR [] [a] = 0 := rfl
  simp only [syms, h2, h1, h0, symN, ones, List.contains_cons, List.contains_nil, Bool.or_false, Bool.or_eq_true, beq_iff_eq]
  clear h0 h1 h2
  grind (splits := 60)
 | a :: b :: r =>
  have h2 : ∀ (x y : UInt8) (t : List ByteArray), symR (⟨#[x, y]⟩ :: t) (a :: b :: r) = if a = x ∧ b = y then 2 else symR t (a :: b :: r) := fun x y t => by
   rw [symR]; simp [ByteArray.size]
  have h1 : ∀ (x : UInt8) (t : List ByteArray), symR (⟨#[x]⟩ :: t) (a :: b :: r) = if a = x then 1 else symR t (a :: b :: r) := fun x t => by
   rw [symR]; simp [ByteArray.size]
  have h0 : symR [] (a :: b :: r) = 0 := rfl
  simp only [syms, h2, h1, h0, symN, two, ones, List.contains_cons, List.contains_nil, Bool.or_false, Bool.or_eq_true, Bool.and_eq_true, beq_iff_eq]
  clear h0 h1 h2
  grind (splits := 60)
theorem extract_at (s : ByteArray) (a n : Nat) : (s.extract a (a + n)).data.toList = (s.data.toList.drop a).take n := by
 rw [ByteArray.data_extract, Array.toList_extract]
 simp [List.extract, Nat.add_sub_cancel_left]
theorem syms_size : ∀ y ∈ syms, 1 ≤ y.size ∧ y.size ≤ 2 := by decide +kernel
set_option maxHeartbeats 2000000 in
theorem rsymbol_walk (w : World) (s : ByteArray) (hs : s.size ≤ 100000) (a : Nat) (ha : a ≤ s.size) :
 Calls Tryz.prog 93 #[.string s, .int .i64 a] w fun e w' => e = .returned (.int .i64 (symN (s.data.toList.drop a) : Nat)) ∧ Below w.heap.size w w' := by
 have hsy := Lib.hid (rsymbols_walk w)
 have hR : Hid (symR (syms.drop 0) (s.data.toList.drop a) = symN (s.data.toList.drop a)) := symR_syms _
 generalize symN (s.data.toList.drop a) = R at *
 have hlen : Hid (syms.length = 18) := rfl
 go_enter Tryz.func93, Tryz.ntmps93
 go_wp2_with (go_at_call 140; refine hsy.out.mono ?_; rintro e w1 ⟨v, rfl, k1, k2⟩; have k1' := Lib.hid k1; have k2' := Lib.hid k2; clear k1 k2)
 obtain ⟨ao, cp, rfl, hc⟩ := k1'.out
 rw [hlen.out]
 clear hc
 go_loopw [6] (fun i wr => ∃ j : Nat, j ≤ 18 ∧ i = .int .i64 j ∧ Hid (symR (syms.drop j) (s.data.toList.drop a) = R) ∧ Hid (Below w.heap.size w wr) ∧ Hid (StrsIn wr (.slice ao syms.length cp) syms)) (fun i _ => 18 - (intOf i).toNat)
 case atStart => exact ⟨0, by omega, rfl, hR, k2', k1'⟩
 case round =>
  clear hR
  obtain ⟨j, hj, rfl, hn, hb, hst⟩ := hrel
  by_cases hlt : j < 18
  ·obtain ⟨ao2, cp2, e0, hc⟩ := hst.out
   obtain ⟨rfl, rfl⟩ : ao = ao2 ∧ cp = cp2 := by simpa using e0
   obtain ⟨b1, o1, rfl, _, c1⟩ := hc j (by rw [hlen.out]; exact hlt)
   have hm := syms_size _ (List.getElem_mem (show j < syms.length by rw [hlen.out]; exact hlt))
   have hd : syms.drop j = syms[j]'(by rw [hlen.out]; exact hlt) :: syms.drop (j + 1) := List.drop_eq_getElem_cons _
   rw [hd, symR] at hn
   clear e0 hc hd
   generalize syms[j]'_ = y at *
   obtain ⟨hm1, hm2⟩ := hm
   have s1 : IntKind.i64.wrap ((a : Int) + y.size) = (a : Int) + y.size := IntWalk.i64_in _ (by omega)
   have s2 : (0 : Int) ≤ (a : Int) + y.size := by omega
   have s3 : ((a : Int) + y.size).toNat = a + y.size := by omega
   have s4 : (a : Int) ≤ (a : Int) + y.size := by omega
   by_cases hle : a + y.size ≤ s.size
   ·have hx := Lib.hid (extract_at s a y.size)
    have hq := beq_str (s.extract a (a + y.size)) y
    have hle1 : ((a : Int) + y.size ≤ s.size) := by omega
    by_cases he : s.extract a (a + y.size) = y
    ·rw [decide_eq_true he] at hq
     have hr : Hid (y.size = R) := by
      have h1 := hn.out
      rw [if_pos (by rw [← hx.out, he])] at h1
      exact h1
     clear he hn hx
     go_wp2_with fail
     go_quiet (fail)
     go_wp2_with fail
     go_ret
     exact ⟨by rw [← hr.out]; rfl, bl_drewN hb.out _⟩
    ·rw [decide_eq_false he] at hq
     have hn2 : Hid (symR (syms.drop (j + 1)) (s.data.toList.drop a) = R) := by
      have h1 := hn.out
      rw [if_neg (fun e => he (by
       rw [← hx.out] at e
       generalize s.extract a (a + y.size) = z at *
       obtain ⟨⟨z⟩⟩ := z
       obtain ⟨⟨y⟩⟩ := y
       simp only at e
       rw [e]))] at h1
      exact h1
     clear he hn hx
     go_wp2_with fail
     go_quiet (fail)
     go_wp2_with fail
     go_roundw
     case rel => exact ⟨j + 1, by omega, by go_num, hn2, bl_drewN hb.out _, hst.out.below (bl_drewN (Below.refl _ _) _)⟩
     case measure => simp [intOf]; omega
   ·have hle1 : ¬ ((a : Int) + y.size ≤ s.size) := by omega
    have hle2 : decide ((a : Int) + y.size ≤ s.size) = false := decide_eq_false hle1
    have hn2 : Hid (symR (syms.drop (j + 1)) (s.data.toList.drop a) = R) := by
     have h1 := hn.out
     rw [if_neg (fun e => by
      have h2 := congrArg List.length e
      rw [List.length_take, List.length_drop] at h2
      have h3 : s.data.toList.length = s.size := rfl
      have h4 : y.data.toList.length = y.size := rfl
      omega)] at h1
     exact h1
    clear hn
    go_wp2_with fail
    go_quiet (fail)
    go_wp2_with fail
    go_roundw
    case rel => exact ⟨j + 1, by omega, by go_num, hn2, bl_drewN hb.out _, hst.out.below (bl_drewN (Below.refl _ _) _)⟩
    case measure => simp [intOf]; omega
  ·obtain rfl : j = 18 := by omega
   have hr : Hid (0 = R) := by
    have h1 := hn.out
    exact h1
   clear hn
   go_wp2_with fail
   go_ret
   exact ⟨by rw [← hr.out]; rfl, hb.out⟩
end Go.Proofs.YthggagophcnkfaaGreatDoor.lx
