/- The walk of the reference lexer's token. -/
import Derived.Test.YthggagophcnkfaaGreatDoorM13
import Derived.Deep.RegionHeld3
namespace Go.Proofs.YthggagophcnkfaaGreatDoor.lx
open Go.RowKit Go.Proofs.YthggagophcnkfaaGreatDoor.agg Go.Proofs.YthggagophcnkfaaGreatDoor.sx Go.Proofs.YthggagophcnkfaaGreatDoor.px
set_option linter.unusedSimpArgs false
set_option linter.unusedVariables false

theorem cnt_step {p : UInt8 → Bool} {c : UInt8} {l : List UInt8} (h : p c = true) : cntN p (c :: l) = cntN p l + 1 := by rw [cntN, if_pos h]
theorem cnt_stop {p : UInt8 → Bool} {c : UInt8} {l : List UInt8} (h : p c = false) : cntN p (c :: l) = 0 := by rw [cntN, if_neg (by rw [h]; simp)]
def TokEnd (w : World) (a : Nat) (r : Nat × Nat) (e : Ending) (w' : World) : Prop := e = .returned (.tuple #[.int .i64 (r.1 : Nat), .int .i64 ((a + r.2 : Nat) : Int)]) ∧ Below w.heap.size w w'
theorem u8_b (c : UInt8) (k : Nat) (hk : k < 256) {b : Bool} (h : (c == UInt8.ofNat k) = b) : ((c.toNat : Int) == (k : Int)) = b := (u8_eq c k hk).trans h
theorem part_of_l {c : UInt8} (h : letterB c = true) : partB c = true := by unfold partB; rw [h]; rfl
theorem part_of_d {c : UInt8} (h : digitB c = true) : partB c = true := by unfold partB; rw [h]; cases letterB c <;> rfl
theorem part_of_u {c : UInt8} (h : (c == 95) = true) : partB c = true := by unfold partB; rw [h]; cases letterB c <;> cases digitB c <;> rfl
theorem part_no {c : UInt8} (h : letterB c = false) (h2 : digitB c = false) (h3 : (c == 95) = false) : partB c = false := by unfold partB; rw [h, h2, h3]; rfl
set_option maxRecDepth 100000 in
set_option maxHeartbeats 4000000 in
theorem rtoken_letter (w : World) (s : ByteArray) (hs : s.size ≤ 100000) (a : Nat) (ha : a < s.size) (hl : letterB s[a] = true) :
    Calls Tryz.prog 41 #[.string s, .int .i64 a] w (TokEnd w a (tokB (s.data.toList.drop a))) := by
  obtain ⟨R, hR⟩ : ∃ R, a + cntN partB (s.data.toList.drop a) = R := ⟨_, rfl⟩
  have hRs : R ≤ s.size := by
    have h1 := cntN_le partB (s.data.toList.drop a)
    rw [List.length_drop] at h1
    have h2 : s.data.toList.length = s.size := rfl
    omega
  have hm : Hid (tokB (s.data.toList.drop a) = (if hasS kwB (s.extract a R) then 2 else 1, R - a)) := by
    have h1 := extract_at s a (R - a)
    have e : a + (R - a) = R := by omega
    have e2 : R - a = cntN partB (s.data.toList.drop a) := by omega
    rw [e, e2] at h1
    rw [has_keys, h1, e2, drop_get s a ha]
    unfold Hid
    rw [tokB, if_pos hl]
  have haR : a ≤ R := by omega
  have hR' := Lib.hid hR
  generalize tokB (s.data.toList.drop a) = m at *
  have hL0 := Lib.hid (fun (W : World) => rletter_fn s[a] W)
  rw [hl] at hL0
  clear hR hl
  have hLf := Lib.hid rletter_fn
  have hDf := Lib.hid rdigit_fn
  have hHas := Lib.hid (fun (W : World) (v : Value) (h : StrsIn W v kwB) => rhas_walk W v kwB (s.extract a R) h (by decide +kernel))
  go_enter Tryz.func41, Tryz.ntmps41
  go_wp2_with (go_at_call 90; refine (hL0.out _).mono ?_; rintro e _ ⟨rfl, rfl⟩)
  go_loop [6] (fun i => ∃ k : Nat, a ≤ k ∧ k ≤ s.size ∧ i = .int .i64 k ∧ Hid (k + cntN partB (s.data.toList.drop k) = R)) (fun i => s.size - (intOf i).toNat)
  case atStart => exact ⟨a, Nat.le_refl _, Nat.le_of_lt ha, rfl, hR'⟩
  case round =>
    clear hR'
    obtain ⟨k, hak, hk, rfl, hn⟩ := hrel
    have hcase : (∃ hlt : k < s.size, letterB s[k] = true) ∨ (∃ hlt : k < s.size, letterB s[k] = false ∧ digitB s[k] = true) ∨ (∃ hlt : k < s.size, letterB s[k] = false ∧ digitB s[k] = false ∧ (s[k] == 95) = true) ∨ (∃ hlt : k < s.size, letterB s[k] = false ∧ digitB s[k] = false ∧ (s[k] == 95) = false) ∨ k = s.size := by
      by_cases hlt : k < s.size
      · cases h1 : letterB s[k] with
        | true => exact .inl ⟨hlt, h1⟩
        | false =>
          cases h2 : digitB s[k] with
          | true => exact .inr (.inl ⟨hlt, h1, h2⟩)
          | false =>
            cases h3 : s[k] == 95 with
            | true => exact .inr (.inr (.inl ⟨hlt, h1, h2, h3⟩))
            | false => exact .inr (.inr (.inr (.inl ⟨hlt, h1, h2, h3⟩)))
      · exact .inr (.inr (.inr (.inr (by omega))))
    have hnext := Lib.hid (fun (hlt : k < s.size) (hp : partB s[k] = true) => (show (k + 1) + cntN partB (s.data.toList.drop (k + 1)) = R by
      have h1 := hn.out
      rw [drop_get s k hlt, cnt_step hp] at h1
      omega))
    have hstop := Lib.hid (fun (h : k = s.size ∨ ∃ hlt : k < s.size, partB s[k] = false) => (show k = R by
      have h1 := hn.out
      rcases h with rfl | ⟨hlt, hp⟩
      · rw [drop_end] at h1
        exact h1
      · rw [drop_get s k hlt, cnt_stop hp] at h1
        exact h1))
    clear hn
    rcases hcase with ⟨hlt, h1⟩ | ⟨hlt, h1, h2⟩ | ⟨hlt, h1, h2, h3⟩ | ⟨hlt, h1, h2, h3⟩ | hE
    · have hL := Lib.hid (fun (W : World) => hLf.out s[k] W)
      rw [h1] at hL
      have hx := Lib.hid (hnext.out hlt (part_of_l h1))
      clear h1 hnext hstop hLf hDf
      go_wp2_with (go_at_call 90; refine (hL.out _).mono ?_; rintro e _ ⟨rfl, rfl⟩)
      go_round
      case rel => exact ⟨k + 1, by omega, by omega, by go_num, hx⟩
      case measure => simp [intOf]; omega
    · have hL := Lib.hid (fun (W : World) => hLf.out s[k] W)
      have hD := Lib.hid (fun (W : World) => hDf.out s[k] W)
      rw [h1] at hL
      rw [h2] at hD
      have hx := Lib.hid (hnext.out hlt (part_of_d h2))
      clear h1 h2 hnext hstop hLf hDf
      go_wp2_with (first | (go_at_call 90; refine (hL.out _).mono ?_; rintro e _ ⟨rfl, rfl⟩) | (go_at_call 91; refine (hD.out _).mono ?_; rintro e _ ⟨rfl, rfl⟩))
      go_round
      case rel => exact ⟨k + 1, by omega, by omega, by go_num, hx⟩
      case measure => simp [intOf]; omega
    · have hL := Lib.hid (fun (W : World) => hLf.out s[k] W)
      have hD := Lib.hid (fun (W : World) => hDf.out s[k] W)
      rw [h1] at hL
      rw [h2] at hD
      have hx := Lib.hid (hnext.out hlt (part_of_u h3))
      have hb : ((s[k].toNat : Int) == 95) = true := u8_b s[k] 95 (by decide) h3
      clear h1 h2 h3 hnext hstop hLf hDf
      go_wp2_with (first | (go_at_call 90; refine (hL.out _).mono ?_; rintro e _ ⟨rfl, rfl⟩) | (go_at_call 91; refine (hD.out _).mono ?_; rintro e _ ⟨rfl, rfl⟩))
      go_round
      case rel => exact ⟨k + 1, by omega, by omega, by go_num, hx⟩
      case measure => simp [intOf]; omega
    case' inr.inr.inr.inl =>
      have hL := Lib.hid (fun (W : World) => hLf.out s[k] W)
      have hD := Lib.hid (fun (W : World) => hDf.out s[k] W)
      rw [h1] at hL
      rw [h2] at hD
      have hb : ((s[k].toNat : Int) == 95) = false := u8_b s[k] 95 (by decide) h3
      obtain rfl : k = R := hstop.out (.inr ⟨hlt, part_no h1 h2 h3⟩)
      clear h1 h2 h3 hnext hstop hLf hDf
      go_upto_region 5 with (first | (go_at_call 90; refine (hL.out _).mono ?_; rintro e _ ⟨rfl, rfl⟩) | (go_at_call 91; refine (hD.out _).mono ?_; rintro e _ ⟨rfl, rfl⟩))
    case' inr.inr.inr.inr =>
      obtain rfl : k = R := hstop.out (.inl hE)
      have hnl : ¬ k < s.size := by omega
      clear hE hnext hstop hLf hDf
      go_upto_region 5 with (fail)
    all_goals
      have hm2 := Lib.hid (fun (b : Bool) (h : hasS kwB (s.extract a k) = b) => (show m = (if b then 2 else 1, k - a) by rw [hm.out, h]))
      have hka : ((a + (k - a) : Nat) : Int) = k := by omega
      have hka' := Lib.hid hka
      clear hm hka
      generalize hasS kwB (s.extract a k) = b at *
      have hm3 := Lib.hid (hm2.out b rfl)
      clear hm2
      have hKw := Lib.hid (fun (W : World) => rkeywords_walk W)
      refine wp_region_held_drew (S := fun u => True) (by kernel_rfl) trivial (fun hHeld => ?_)
      refine wpAnyH_take (i := 1) (v := .string s) rfl (by kernel_rfl) (by kernel_rfl) (by kernel_rfl) (fun _ _ _ h => h) (Or.inl ⟨by rfl, by intro u hu; (try dsimp only at hu); go_simp⟩) hHeld ?_
      try simp only [Act.put, List.getElem_toArray, List.getElem_cons_zero, List.getElem_cons_succ, List.setIfInBounds_toArray, List.set_cons_zero, List.set_cons_succ]
      refine wpAnyH_take (i := 2) (v := .int .i64 a) rfl (by kernel_rfl) (by kernel_rfl) (by kernel_rfl) (fun _ _ _ h => h) (Or.inl ⟨by rfl, by intro u hu; (try dsimp only at hu); go_simp⟩) hHeld ?_
      try simp only [Act.put, List.getElem_toArray, List.getElem_cons_zero, List.getElem_cons_succ, List.setIfInBounds_toArray, List.set_cons_zero, List.set_cons_succ]
      refine wpAnyH_take (i := 3) (v := .int .i64 k) rfl (by kernel_rfl) (by kernel_rfl) (by kernel_rfl) (fun _ _ _ h => h) (Or.inl ⟨by rfl, by intro u hu; (try dsimp only at hu); go_simp⟩) hHeld ?_
      try simp only [Act.put, List.getElem_toArray, List.getElem_cons_zero, List.getElem_cons_succ, List.setIfInBounds_toArray, List.set_cons_zero, List.set_cons_succ]
      refine wpAnyH_take (i := 4) (v := .string (s.extract a k)) rfl (by kernel_rfl) (by kernel_rfl) (by kernel_rfl) (fun _ _ _ h => h) (Or.inl ⟨by rfl, by intro u hu; (try dsimp only at hu); go_simp⟩) hHeld ?_
      try simp only [Act.put, List.getElem_toArray, List.getElem_cons_zero, List.getElem_cons_succ, List.setIfInBounds_toArray, List.set_cons_zero, List.set_cons_succ]
      refine wpAnyH_ready (rs := [0]) (by kernel_rfl) (by simp) ?_
      refine AllReadyH.cons rfl (fun K hK => ?_) AllReadyH.nil
      rw [if_pos (by rfl)]
      go_simp
      go_at_call 92
      refine (hKw.out _).mono ?_
      rintro e w1 ⟨v, rfl, k1, k2⟩
      have k1' := Lib.hid k1
      have k2' := Lib.hid k2
      clear k1 k2
      refine hK.out _ _ trivial (fun hHeld => ?_)
      clear hK K
      try simp only [Act.put, List.getElem_toArray, List.getElem_cons_zero, List.getElem_cons_succ, List.setIfInBounds_toArray, List.set_cons_zero, List.set_cons_succ]
      refine wpAnyH_ready (rs := [5]) (by kernel_rfl) (by simp) ?_
      refine AllReadyH.cons rfl (fun K hK => ?_) AllReadyH.nil
      rw [if_pos (by rfl)]
      go_simp
      go_at_call 78
      refine (hHas.out _ _ k1'.out).mono ?_
      rintro e _ ⟨rfl, rfl⟩
      refine hK.out _ _ trivial (fun hHeld => ?_)
      clear hK K
      try simp only [Act.put, List.getElem_toArray, List.getElem_cons_zero, List.getElem_cons_succ, List.setIfInBounds_toArray, List.set_cons_zero, List.set_cons_succ]
      refine wpAnyH_done (by kernel_rfl) ?_ _
      clear hHeld hHas
      cases b
      all_goals
        go_wp2_with fail
        go_ret2
        rw [hm3.out]
        exact ⟨by simp only [hka'.out]; rfl, (Below.refl _ _).drew.trans k2'.out⟩
end Go.Proofs.YthggagophcnkfaaGreatDoor.lx
