/- The walk of strings.TrimLeft where the cutset is the digit 0. The walks of the parser's digits, named, number, integer, chosen and maybe. The walks of the parser's integer, chosen and maybe. -/
import Derived.Test.YthggagophcnkfaaGreatDoorM1
import Derived.Test.YthggagophcnkfaaGreatDoorPNode
namespace Go.Proofs.YthggagophcnkfaaGreatDoor.px
open Go.RowKit Go.Proofs.YthggagophcnkfaaGreatDoor.agg Go.Proofs.YthggagophcnkfaaGreatDoor.sx
set_option linter.unusedSimpArgs false
set_option linter.unusedVariables false
theorem dropZ_cons {x : ByteArray} (h : 0 < x.size) (h0 : x[0] = 48) : dropZ (x.extract 1 x.size) = dropZ x := by
 obtain ⟨⟨l⟩⟩ := x
 cases l with
 | nil => exact absurd h (by decide)
 | cons a l =>
  have ha : a = 48 := h0
  subst ha
  unfold dropZ
  have e : (ByteArray.extract ⟨⟨48 :: l⟩⟩ 1 (ByteArray.size ⟨⟨48 :: l⟩⟩)).data.toList = l := by
   rw [ByteArray.data_extract]
   simp [ByteArray.size]
  rw [e]
  simp [List.dropWhile_cons]
theorem dropZ_stop {x : ByteArray} (h : x.size = 0 ∨ ∃ h : 0 < x.size, x[0] ≠ 48) : dropZ x = x := by
 obtain ⟨⟨l⟩⟩ := x
 cases l with
 | nil => rfl
 | cons a l =>
  rcases h with h | ⟨_, h⟩
  ·simp [ByteArray.size] at h
  ·have ha : (a == 48) = false := by rw [beq_eq_false_iff_ne]; exact h
   unfold dropZ
   simp [List.dropWhile_cons, ha]
set_option maxHeartbeats 1000000 in
theorem trimByte_walk (w : World) (s : ByteArray) (hs : s.size ≤ 100000) :
 Calls Tryz.prog 48 #[.string s, .int .u8 48] w fun e w' => e = .returned (.string (dropZ s)) ∧ w = w' := by
 go_enter Tryz.func48, Tryz.ntmps48
 go_wp2_with fail
 go_loop [0] (fun v => ∃ x : ByteArray, v = .string x ∧ x.size ≤ 100000 ∧ Hid (dropZ x = dropZ s)) (fun v => match v with | .string x => x.size | _ => 0)
 case atStart => exact ⟨s, rfl, hs, Lib.hid rfl⟩
 case round =>
  obtain ⟨x, rfl, hx, hd⟩ := hrel
  by_cases h0 : 0 < x.size
  ·by_cases h48 : x[0] = 48
   ·have hc := Lib.hid (dropZ_cons h0 h48)
    have hb : ((x[0].toNat : Int) == 48) = true := by rw [h48]; rfl
    clear h48
    go_wp2_with fail
    go_round
    case rel => exact ⟨x.extract 1 x.size, rfl, by rw [ByteArray.size_extract]; omega, Lib.hid (hc.out.trans hd.out)⟩
    case measure => simp only [ByteArray.size_extract]; omega
   ·have hc := Lib.hid (dropZ_stop (.inr ⟨h0, h48⟩))
    have hb : ((x[0].toNat : Int) == 48) = false := by
     simp only [beq_eq_false_iff_ne, ne_eq]
     intro e
     exact h48 (UInt8.toNat_inj.1 (by have : (48 : UInt8).toNat = 48 := rfl; omega))
    clear h48
    go_wp2_with fail
    go_ret
    exact ⟨by rw [← hd.out, hc.out]; rfl, rfl⟩
  ·have hc := Lib.hid (dropZ_stop (x := x) (.inl (by omega)))
   go_wp2_with fail
   go_ret
   exact ⟨by rw [← hd.out, hc.out]; rfl, rfl⟩
set_option maxRecDepth 100000 in
set_option maxHeartbeats 1000000 in
theorem trim_walk (w : World) (s : ByteArray) (hs : s.size ≤ 100000) :
 Calls Tryz.prog 24 #[.string s, .string ⟨#[48]⟩] w fun e w' => e = .returned (.string (dropZ s)) ∧ w = w' := by
 have hB := Lib.hid (trimByte_walk w s hs)
 by_cases h0 : s = ⟨#[]⟩
 ·subst h0
  have hz : dropZ ⟨#[]⟩ = ⟨#[]⟩ := rfl
  rw [hz]
  clear hB hs hz
  go_enter Tryz.func24, Tryz.ntmps24
  go_wp2_with fail
  go_ret
  exact ⟨rfl, rfl⟩
 ·have he : s.toList.isEmpty = false := by
   rw [ByteArray.toList_eq]
   cases h : s.data.toList with
   | nil =>
    exfalso
    apply h0
    obtain ⟨⟨l⟩⟩ := s
    have h' : l = [] := h
    rw [h']
   | cons a l => rfl
  have he2 : (s.toList == ([] : List UInt8)) = false := by cases hx : s.toList with
   | nil => rw [hx] at he; simp at he
   | cons a l => rfl
  clear h0
  go_enter Tryz.func24, Tryz.ntmps24
  go_wp2_with (go_at_call 48; refine hB.out.mono ?_; rintro e _ ⟨rfl, rfl⟩)
  go_ret
  exact ⟨rfl, rfl⟩
end Go.Proofs.YthggagophcnkfaaGreatDoor.px
namespace Go.Proofs.YthggagophcnkfaaGreatDoor.px
open Go.RowKit Go.Proofs.YthggagophcnkfaaGreatDoor.agg Go.Proofs.YthggagophcnkfaaGreatDoor.sx
set_option linter.unusedSimpArgs false
set_option linter.unusedVariables false
theorem PIn.wordSize {w : World} {P : Nat} {tv lv : Value} {S : Src} {s : Ps} (h : PIn w P tv lv S s) : (word S.A s).size ≤ 4096 := by
 obtain ⟨_, r2, r3, r4⟩ := h.rng
 rw [tok_word h.sok.lt, ByteArray.size_extract]
 omega
theorem str_eq {a b : ByteArray} (h : a ≠ b) : (a.toList == b.toList) = false := by rw [beq_str, decide_eq_false h]
theorem str_ne {a b : ByteArray} (h : a ≠ b) : (a.toList != b.toList) = true := by rw [bne, str_eq h]; rfl
theorem str_empty {a : ByteArray} (h : a ≠ ⟨#[]⟩) : a.toList.isEmpty = false := by
 cases hx : a.toList with
 | nil =>
  exfalso
  have := str_eq h
  rw [hx] at this
  simp at this
 | cons x l => rfl
set_option maxRecDepth 100000 in
set_option maxHeartbeats 1000000 in
theorem digits_walk {w : World} {P : Nat} {tv lv : Value} {S : Src} {s : Ps} (h : PIn w P tv lv S s) :
 Calls Tryz.prog 119 #[.pointer (some ⟨P, 0, none⟩)] w (SEnd w P tv lv S s (.string (digits S.A s).1) (digits S.A s).2) := by
 have hT := Lib.hid (token_lit h)
 have hN := Lib.hid (fun (W : World) (hb : Below w.heap.size w W) (hk : (tok S.A s).kind ≠ 0) => next_walk (h.below hb) hk)
 have hR := Lib.hid (fun (W : World) (hb : Below w.heap.size w W) => report_walk (h.below hb) 4 (ByteArray.mk #[110, 117, 109, 98, 101, 114]) (rp4 (by decide)))
 have hTr := Lib.hid (fun (W : World) => trim_walk W (word S.A s) (by have := h.wordSize; omega))
 have e1 : (next S.A s).1 = word S.A s := rfl
 rw [e1] at hN
 unfold digits
 clear e1
 by_cases hk : (tok S.A s).kind = 3
 ·rw [if_pos hk]
  have hkn : Hid ((tok S.A s).kind ≠ 0) := by rw [hk]; exact Lib.hid (by decide)
  rw [hk] at hT
  clear hk h
  simp only
  generalize (next S.A s).2 = s2 at *
  generalize word S.A s = x at *
  by_cases hz : dropZ x = ⟨#[]⟩
  ·rw [if_pos hz]
   rw [hz] at hTr
   clear hz
   go_enter Tryz.func119, Tryz.ntmps119
   go_wp2_with (first
    | (go_at_call 60; refine hT.out.mono ?_; rintro e w1 ⟨rfl, hb1⟩)
    | (go_at_call 62; refine (hN.out _ hb1 hkn.out).mono ?_; rintro e w2 ⟨lv2, rfl, q1, q2, q3, q4⟩)
    | (go_at_call 24; refine (hTr.out _).mono ?_; rintro e _ ⟨rfl, rfl⟩))
   go_ret
   exact SEnd.behind hb1 ⟨lv2, rfl, q1, q2, q3, q4⟩
  ·rw [if_neg hz]
   have he := str_empty hz
   have he2 := str_eq hz
   clear hz
   generalize dropZ x = y at *
   go_enter Tryz.func119, Tryz.ntmps119
   go_wp2_with (first
    | (go_at_call 60; refine hT.out.mono ?_; rintro e w1 ⟨rfl, hb1⟩)
    | (go_at_call 62; refine (hN.out _ hb1 hkn.out).mono ?_; rintro e w2 ⟨lv2, rfl, q1, q2, q3, q4⟩)
    | (go_at_call 24; refine (hTr.out _).mono ?_; rintro e _ ⟨rfl, rfl⟩))
   go_ret
   exact SEnd.behind hb1 ⟨lv2, rfl, q1, q2, q3, q4⟩
 ·rw [if_neg hk]
  have hkk : (((tok S.A s).kind : Int) == 3) = false := by simp; omega
  have hkk2 : (((tok S.A s).kind : Int) != 3) = true := by simp; omega
  clear hk h
  go_enter Tryz.func119, Tryz.ntmps119
  go_wp2_with (first
   | (go_at_call 60; refine hT.out.mono ?_; rintro e w1 ⟨rfl, hb1⟩)
   | (go_at_call 44; refine (hR.out _ hb1).mono ?_; rintro e w2 ⟨lv2, rfl, q1, q2, q3, q4⟩))
  go_ret
  exact SEnd.behind hb1 ⟨lv2, rfl, q1, q2, q3, q4⟩
theorem node_eq (S : Src) (kind : Int) (first : Nat) (text : ByteArray) (s : Ps) (kv : Value) : (Nd.mk kind text (S.at_ first s.at_) (S.last s.at_) kv []).tr = S.tree (node kind first text [] s) := rfl
set_option maxRecDepth 100000 in
set_option maxHeartbeats 1000000 in
theorem named_walk {w : World} {P : Nat} {tv lv : Value} {S : Src} {s : Ps} (h : PIn w P tv lv S s) :
 Calls Tryz.prog 126 #[.pointer (some ⟨P, 0, none⟩)] w (NEnd w P tv lv S s (named S.A s)) := by
 have f0 := Lib.hid (FIn.start h)
 have hN := Lib.hid (name_walk f0.out.pin)
 have hM := Lib.hid (fun (W : World) (lv2 : Value) (q : PIn W P tv lv2 S (name S.A s).2) (hm : s.at_ ≤ (name S.A s).2.at_) => node_walk q 35 s.at_ (name S.A s).1 none 0 0 hm)
 have c2 := h.cell.2.2.1
 have hP := lt_of_block h.box
 have hm : Hid (named S.A s = (node 35 s.at_ (name S.A s).1 [] (name S.A s).2, (name S.A s).2)) := rfl
 generalize named S.A s = m at *
 clear h
 generalize (name S.A s).1 = x at *
 generalize (name S.A s).2 = s2 at *
 go_enter Tryz.func126, Tryz.ntmps126
 go_wp2_with (first
  | (go_at_call 64; refine hN.out.mono ?_; rintro e w1 ⟨lv1, rfl, q1, q2, q3, q4⟩; have f1 := Lib.hid (f0.out.send q1 q2 q3 q4))
  | (go_at_call 63; refine (hM.out _ _ q1 q4).mono ?_; rintro e w2 ⟨rfl, hb2⟩; have f2 := Lib.hid (f1.out.below hb2); obtain ⟨x0, x1, x2, x3, x4, x5⟩ := f2.out.cells))
 refine bodyPost_ret (v := .agg #[.int .i64 35, .string x, .int .i64 (S.at_ s.at_ s2.at_), .int .i64 (S.last s2.at_), .slice none 0 0]) (by simp [results, Tryz.results126, go_sem, x0, x1, x2, x3, x4]) rfl ?_
 rw [hm.out]
 exact f2.out.done (kept5 _ _ _ _ _ _ _) (.mk 35 x (S.at_ s.at_ s2.at_) (S.last s2.at_) (.slice none 0 0) []) _ (node_eq _ _ _ _ _ _) (leaf_in _ _ _ _) _ rfl
set_option maxRecDepth 100000 in
set_option maxHeartbeats 1000000 in
theorem number_walk {w : World} {P : Nat} {tv lv : Value} {S : Src} {s : Ps} (h : PIn w P tv lv S s) :
 Calls Tryz.prog 65 #[.pointer (some ⟨P, 0, none⟩)] w (NEnd w P tv lv S s (number S.A s)) := by
 have f0 := Lib.hid (FIn.start h)
 have hN := Lib.hid (digits_walk f0.out.pin)
 have hM := Lib.hid (fun (W : World) (lv2 : Value) (q : PIn W P tv lv2 S (digits S.A s).2) (hm : s.at_ ≤ (digits S.A s).2.at_) => node_walk q 36 s.at_ (digits S.A s).1 none 0 0 hm)
 have c2 := h.cell.2.2.1
 have hP := lt_of_block h.box
 have hm : Hid (number S.A s = (node 36 s.at_ (digits S.A s).1 [] (digits S.A s).2, (digits S.A s).2)) := rfl
 generalize number S.A s = m at *
 clear h
 generalize (digits S.A s).1 = x at *
 generalize (digits S.A s).2 = s2 at *
 go_enter Tryz.func65, Tryz.ntmps65
 go_wp2_with (first
  | (go_at_call 119; refine hN.out.mono ?_; rintro e w1 ⟨lv1, rfl, q1, q2, q3, q4⟩; have f1 := Lib.hid (f0.out.send q1 q2 q3 q4))
  | (go_at_call 63; refine (hM.out _ _ q1 q4).mono ?_; rintro e w2 ⟨rfl, hb2⟩; have f2 := Lib.hid (f1.out.below hb2); obtain ⟨x0, x1, x2, x3, x4, x5⟩ := f2.out.cells))
 refine bodyPost_ret (v := .agg #[.int .i64 36, .string x, .int .i64 (S.at_ s.at_ s2.at_), .int .i64 (S.last s2.at_), .slice none 0 0]) (by simp [results, Tryz.results65, go_sem, x0, x1, x2, x3, x4]) rfl ?_
 rw [hm.out]
 exact f2.out.done (kept5 _ _ _ _ _ _ _) (.mk 36 x (S.at_ s.at_ s2.at_) (S.last s2.at_) (.slice none 0 0) []) _ (node_eq _ _ _ _ _ _) (leaf_in _ _ _ _) _ rfl
end Go.Proofs.YthggagophcnkfaaGreatDoor.px
namespace Go.Proofs.YthggagophcnkfaaGreatDoor.px
open Go.RowKit Go.Proofs.YthggagophcnkfaaGreatDoor.agg Go.Proofs.YthggagophcnkfaaGreatDoor.sx
set_option linter.unusedSimpArgs false
set_option linter.unusedVariables false
theorem list48 : (ByteArray.mk #[48]).toList = [48] := by decide +kernel
theorem word_size (S : Src) (s : Ps) : (word S.A s).size ≤ S.T.size := by
 unfold word tok Src.A
 rw [List.getD_eq_getElem?_getD, List.getElem?_map]
 cases S.L[s.at_]? with
 | none => exact Nat.zero_le _
 | some t =>
  show (S.T.extract t.at_ t.to).size ≤ _
  rw [ByteArray.size_extract]
  omega
theorem dropZ_size (b : ByteArray) : (dropZ b).size ≤ b.size := by
 unfold dropZ
 have := (List.dropWhile_sublist (fun x : UInt8 => x == 48) (l := b.data.toList)).length_le
 show (List.dropWhile _ _).toArray.size ≤ b.data.size
 rw [List.size_toArray, ← Array.length_toList]
 exact this
theorem digits_size (S : Src) (s : Ps) : (digits S.A s).1.size ≤ S.T.size + 1 := by
 unfold digits
 split
 ·simp only
  split
  ·show 1 ≤ _
   omega
  ·have h1 := dropZ_size (word S.A s)
   have h2 := word_size S s
   omega
 ·exact Nat.zero_le _
set_option maxRecDepth 100000 in
set_option maxHeartbeats 2000000 in
theorem integer_walk {w : World} {P : Nat} {tv lv : Value} {S : Src} {s : Ps} (h : PIn w P tv lv S s) :
 Calls Tryz.prog 121 #[.pointer (some ⟨P, 0, none⟩)] w (NEnd w P tv lv S s (integer S.A s)) := by
 have f0 := Lib.hid (FIn.start h)
 have hO := Lib.hid (optional_walk f0.out.pin (ByteArray.mk #[45]))
 have hD := Lib.hid (fun (W : World) (lv2 : Value) (q : PIn W P tv lv2 S (optional S.A (ByteArray.mk #[45]) s).2) => digits_walk q)
 have hM := Lib.hid (fun (W : World) (lv2 : Value) (q : PIn W P tv lv2 S (digits S.A (optional S.A (ByteArray.mk #[45]) s).2).2) (hm : s.at_ ≤ (digits S.A (optional S.A (ByteArray.mk #[45]) s).2).2.at_) (x : ByteArray) => node_walk q 37 s.at_ x none 0 0 hm)
 have c2 := h.cell.2.2.1
 have hP := lt_of_block h.box
 have hm : Hid (integer S.A s = (node 37 s.at_ (if (optional S.A (ByteArray.mk #[45]) s).1 = true ∧ (digits S.A (optional S.A (ByteArray.mk #[45]) s).2).1 ≠ ⟨#[]⟩ ∧ (digits S.A (optional S.A (ByteArray.mk #[45]) s).2).1 ≠ (ByteArray.mk #[48]) then (ByteArray.mk #[45]) ++ (digits S.A (optional S.A (ByteArray.mk #[45]) s).2).1 else (digits S.A (optional S.A (ByteArray.mk #[45]) s).2).1) [] (digits S.A (optional S.A (ByteArray.mk #[45]) s).2).2, (digits S.A (optional S.A (ByteArray.mk #[45]) s).2).2)) := rfl
 have hxs : (digits S.A (optional S.A (ByteArray.mk #[45]) s).2).1.size ≤ 4097 := by have h1 := digits_size S (optional S.A (ByteArray.mk #[45]) s).2; have h2 := h.rng.2.2.2; omega
 generalize integer S.A s = m at *
 clear h
 generalize (digits S.A (optional S.A (ByteArray.mk #[45]) s).2).1 = x at *
 generalize (digits S.A (optional S.A (ByteArray.mk #[45]) s).2).2 = s3 at *
 generalize (optional S.A (ByteArray.mk #[45]) s).1 = b at *
 generalize (optional S.A (ByteArray.mk #[45]) s).2 = s2 at *
 by_cases hc : b = true ∧ x ≠ ⟨#[]⟩ ∧ x ≠ (ByteArray.mk #[48])
 ·rw [if_pos hc] at hm
  obtain ⟨rfl, h1, h2⟩ := hc
  have e1 := str_empty h1
  have e2 := str_ne h1
  have e3 := str_ne h2
  have e4 := str_eq h2
  rw [list48] at e3 e4
  clear h1 h2
  go_enter Tryz.func121, Tryz.ntmps121
  go_wp2_with (first
   | (go_at_call 123; refine hO.out.mono ?_; rintro e w1 ⟨lv1, rfl, q1, q2, q3, q4⟩; have f1 := Lib.hid (f0.out.send q1 q2 q3 q4))
   | (go_at_call 119; refine (hD.out _ _ f1.out.pin).mono ?_; rintro e w2 ⟨lv2, rfl, r1, r2, r3, r4⟩; have f2 := Lib.hid (f1.out.send r1 r2 r3 r4))
   | (go_at_call 63; refine (hM.out _ _ f2.out.pin f2.out.mono _).mono ?_; rintro e w3 ⟨rfl, hb3⟩; have f3 := Lib.hid (f2.out.below hb3); obtain ⟨x0, x1, x2, x3, x4, x5⟩ := f3.out.cells))
  refine bodyPost_ret (v := .agg #[.int .i64 37, .string ((ByteArray.mk #[45]) ++ x), .int .i64 (S.at_ s.at_ s3.at_), .int .i64 (S.last s3.at_), .slice none 0 0]) (by simp [results, Tryz.results121, go_sem, x0, x1, x2, x3, x4]) rfl ?_
  rw [hm.out]
  exact f3.out.done (kept5 _ _ _ _ _ _ _) (.mk 37 ((ByteArray.mk #[45]) ++ x) (S.at_ s.at_ s3.at_) (S.last s3.at_) (.slice none 0 0) []) _ (node_eq _ _ _ _ _ _) (leaf_in _ _ _ _) _ rfl
 ·rw [if_neg hc] at hm
  have hcase : (b = false) ∨ (b = true ∧ x = ⟨#[]⟩) ∨ (b = true ∧ x ≠ ⟨#[]⟩ ∧ x = (ByteArray.mk #[48])) := by
   cases b with
   | false => exact .inl rfl
   | true =>
    right
    by_cases h1 : x = ⟨#[]⟩
    ·exact .inl ⟨rfl, h1⟩
    ·right
     refine ⟨rfl, h1, ?_⟩
     by_cases h2 : x = (ByteArray.mk #[48])
     ·exact h2
     ·exact absurd ⟨rfl, h1, h2⟩ hc
  clear hc
  rcases hcase with rfl | ⟨rfl, rfl⟩ | ⟨rfl, _, rfl⟩
  all_goals
   go_enter Tryz.func121, Tryz.ntmps121
   go_wp2_with (first
    | (go_at_call 123; refine hO.out.mono ?_; rintro e w1 ⟨lv1, rfl, q1, q2, q3, q4⟩; have f1 := Lib.hid (f0.out.send q1 q2 q3 q4))
    | (go_at_call 119; refine (hD.out _ _ f1.out.pin).mono ?_; rintro e w2 ⟨lv2, rfl, r1, r2, r3, r4⟩; have f2 := Lib.hid (f1.out.send r1 r2 r3 r4))
    | (go_at_call 63; refine (hM.out _ _ f2.out.pin f2.out.mono _).mono ?_; rintro e w3 ⟨rfl, hb3⟩; have f3 := Lib.hid (f2.out.below hb3); obtain ⟨x0, x1, x2, x3, x4, x5⟩ := f3.out.cells))
   refine bodyPost_ret (v := .agg #[.int .i64 37, .string _, .int .i64 (S.at_ s.at_ s3.at_), .int .i64 (S.last s3.at_), .slice none 0 0]) (by simp [results, Tryz.results121, go_sem, x0, x1, x2, x3, x4]; rfl) rfl ?_
   rw [hm.out]
   exact f3.out.done (kept5 _ _ _ _ _ _ _) (.mk 37 _ (S.at_ s.at_ s3.at_) (S.last s3.at_) (.slice none 0 0) []) _ (node_eq _ _ _ _ _ _) (leaf_in _ _ _ _) _ rfl
set_option maxRecDepth 100000 in
set_option maxHeartbeats 2000000 in
theorem chosen_walk {w : World} {P : Nat} {tv lv : Value} {S : Src} {s : Ps} (h : PIn w P tv lv S s) (v : Value) (ws : List ByteArray) (hv : StrsIn w v ws) (hl : ws.length < 1000) (h0 : 0 < ws.length) (hne : ws[0] ≠ ⟨#[]⟩) :
 Calls Tryz.prog 69 #[.pointer (some ⟨P, 0, none⟩), v] w (NEnd w P tv lv S s (chosen S.A ws s)) := by
 have f0 := Lib.hid (FIn.start h)
 have hI := Lib.hid (is_walk f0.out.pin v ws (hv.below ((Below.refl _ w).alloc (Nat.le_refl _) _)) hl)
 have hNx := Lib.hid (fun (W : World) (lv2 : Value) (q : PIn W P tv lv2 S s) (hk : (tok S.A s).kind ≠ 0) => next_walk q hk)
 have hM := Lib.hid (fun (W : World) (lv2 : Value) (q : PIn W P tv lv2 S (next S.A s).2) (hm : s.at_ ≤ (next S.A s).2.at_) => node_walk q 38 s.at_ (next S.A s).1 none 0 0 hm)
 have hR := Lib.hid (fun (W : World) (lv2 : Value) (q : PIn W P tv lv2 S s) => report_walk q 4 ws[0] (rp4 hne))
 have hMi := Lib.hid (fun (W : World) (lv2 : Value) (q : PIn W P tv lv2 S (report 4 ws[0] s)) => missing_walk q 0)
 have c2 := h.cell.2.2.1
 have hP := lt_of_block h.box
 have hm : Hid (chosen S.A ws s = if isB S.A ws s then (node 38 s.at_ (next S.A s).1 [] (next S.A s).2, (next S.A s).2) else (missing 0 (report 4 ws[0] s), report 4 ws[0] s)) := by
  unfold chosen
  have e : ws.headD ⟨#[]⟩ = ws[0] := by
   cases ws with
   | nil => simp at h0
   | cons a l => rfl
  rw [e]
  exact rfl
 generalize chosen S.A ws s = m at *
 obtain ⟨ao, cap, rfl, hc⟩ := hv
 obtain ⟨b, o, rfl, hb, hc0⟩ := hc 0 h0
 rw [Nat.add_zero] at hc0
 clear h hc
 generalize ws[0] = w00 at *
 cases hi : isB S.A ws s with
 | true =>
  rw [hi, if_pos rfl] at hm
  have hkn := Lib.hid (isB_kind hi)
  rw [hi] at hI
  clear hi hR hMi hc0
  generalize (next S.A s).1 = x at *
  generalize (next S.A s).2 = s2 at *
  go_enter Tryz.func69, Tryz.ntmps69
  go_wp2_with (first
   | (go_at_call 117; refine hI.out.mono ?_; rintro e w1 ⟨rfl, hb1⟩; have f1 := Lib.hid (f0.out.below hb1); have c21 := f1.out.pin.cell.2.2.1; have hP1 := lt_of_block f1.out.pin.box)
   | (go_at_call 62; refine (hNx.out _ _ f1.out.pin hkn.out).mono ?_; rintro e w2 ⟨lv2, rfl, r1, r2, r3, r4⟩; have f2 := Lib.hid (f1.out.send r1 r2 r3 r4))
   | (go_at_call 63; refine (hM.out _ _ f2.out.pin f2.out.mono).mono ?_; rintro e w3 ⟨rfl, hb3⟩; have f3 := Lib.hid (f2.out.below hb3); obtain ⟨x0, x1, x2, x3, x4, x5⟩ := f3.out.cells))
  refine bodyPost_ret (v := .agg #[.int .i64 38, .string x, .int .i64 (S.at_ s.at_ s2.at_), .int .i64 (S.last s2.at_), .slice none 0 0]) (by simp [results, Tryz.results69, go_sem, x0, x1, x2, x3, x4]) rfl ?_
  rw [hm.out]
  exact f3.out.done (kept5 _ _ _ _ _ _ _) (.mk 38 x (S.at_ s.at_ s2.at_) (S.last s2.at_) (.slice none 0 0) []) _ (node_eq _ _ _ _ _ _) (leaf_in _ _ _ _) _ rfl
 | false =>
  rw [hi, if_neg (by simp)] at hm
  rw [hi] at hI
  clear hi hNx hM
  generalize report 4 w00 s = s2 at *
  go_enter Tryz.func69, Tryz.ntmps69
  go_wp2_with (first
   | (go_at_call 117; refine hI.out.mono ?_; rintro e w1 ⟨rfl, hb1⟩; have f1 := Lib.hid (f0.out.below hb1); have d0 := ((Below.alloc (Below.refl w.heap.size w) (Nat.le_refl _) _).trans (hb1.mono (by simp))).cell (p := ⟨b, o, none⟩) hb |>.trans hc0)
   | (go_at_call 44; refine (hR.out _ _ f1.out.pin).mono ?_; rintro e w2 ⟨lv2, rfl, r1, r2, r3, r4⟩; have f2 := Lib.hid (f1.out.send r1 r2 r3 r4))
   | (go_at_call 122; refine (hMi.out _ _ f2.out.pin).mono ?_; rintro e w3 ⟨lv3, nk, nt, na, ne, nao, ncap, nks, rfl, t1, t2, t3, t4, t5, t6⟩; have f3 := Lib.hid (f2.out.send t3 t4 t5 t6); obtain ⟨x0, x1, x2, x3, x4, x5⟩ := f3.out.cells))
  refine bodyPost_ret (v := .agg #[.int .i64 nk, .string nt, .int .i64 na, .int .i64 ne, .slice nao nks.length ncap]) (by simp [results, Tryz.results69, go_sem, x0, x1, x2, x3, x4]) rfl ?_
  rw [hm.out]
  exact f3.out.done (kept5 _ _ _ _ _ _ _) (.mk nk nt na ne (.slice nao nks.length ncap) nks) _ t1 (node_new t2 f2.out.zlt) _ rfl
theorem strs_new1 (W : World) (a : ByteArray) : StrsIn (W.alloc (.cells #[.string a] 9)) (.slice (some ⟨W.heap.size, 0, none⟩) 1 1) [a] := strs_new W [a] 1 rfl
set_option maxRecDepth 100000 in
set_option maxHeartbeats 2000000 in
theorem maybe_walk {w : World} {P : Nat} {tv lv : Value} {S : Src} {s : Ps} (h : PIn w P tv lv S s) (a : ByteArray) (ha : a ≠ ⟨#[]⟩) :
 Calls Tryz.prog 73 #[.pointer (some ⟨P, 0, none⟩), .string a] w (NEnd w P tv lv S s (maybe S.A a s)) := by
 have f0 := Lib.hid (FIn.start h)
 have hI0 := is_new1 f0.out.pin (Below.refl _ _) a
 have hz : (w.alloc (.cells #[.int .i64 0, .string ⟨#[]⟩, .int .i64 0, .int .i64 0, .slice none 0 0] 25)).heap.size = w.heap.size + 1 := by simp
 rw [hz] at hI0
 have hI := Lib.hid hI0
 clear hI0
 have hC := Lib.hid (fun (W : World) (lv2 : Value) (q : PIn (W.alloc (.cells #[.string a] 9)) P tv lv2 S s) => chosen_walk q _ [a] (strs_new1 W a) (by simp) (by simp) ha)
 have hMi := Lib.hid (fun (W : World) (lv2 : Value) (q : PIn W P tv lv2 S s) => missing_walk q 1)
 have hm : Hid (maybe S.A a s = if isB S.A [a] s then chosen S.A [a] s else (missing 1 s, s)) := rfl
 generalize maybe S.A a s = m at *
 clear h
 cases hi : isB S.A [a] s with
 | true =>
  rw [hi, if_pos rfl] at hm
  rw [hi] at hI
  clear hi hMi
  go_enter Tryz.func73, Tryz.ntmps73
  go_wp2_with (first
   | (go_at_call 117; refine hI.out.mono ?_; rintro e w1 ⟨rfl, hb1⟩; have f1 := Lib.hid ((f0.out.below (hb1.mono (by omega))).below ((Below.refl _ w1).alloc (Nat.le_refl _) (.cells #[.string a] 9))))
   | (go_at_call 69; refine (hC.out w1 lv f1.out.pin).mono ?_; rintro e w3 ⟨lv3, nk, nt, na, ne, nao, ncap, nks, rfl, t1, t2, t3, t4, t5, t6⟩; have f3 := Lib.hid (f1.out.send t3 t4 t5 t6); obtain ⟨x0, x1, x2, x3, x4, x5⟩ := f3.out.cells))
  refine bodyPost_ret (v := .agg #[.int .i64 nk, .string nt, .int .i64 na, .int .i64 ne, .slice nao nks.length ncap]) (by simp [results, Tryz.results73, go_sem, x0, x1, x2, x3, x4]) rfl ?_
  rw [hm.out]
  exact f3.out.done (kept5 _ _ _ _ _ _ _) (.mk nk nt na ne (.slice nao nks.length ncap) nks) _ t1 (node_new t2 f1.out.zlt) _ rfl
 | false =>
  rw [hi, if_neg (by simp)] at hm
  rw [hi] at hI
  clear hi hC
  go_enter Tryz.func73, Tryz.ntmps73
  go_wp2_with (first
   | (go_at_call 117; refine hI.out.mono ?_; rintro e w1 ⟨rfl, hb1⟩; have f1 := Lib.hid (f0.out.below (hb1.mono (by omega))))
   | (go_at_call 122; refine (hMi.out w1 lv f1.out.pin).mono ?_; rintro e w3 ⟨lv3, nk, nt, na, ne, nao, ncap, nks, rfl, t1, t2, t3, t4, t5, t6⟩; have f3 := Lib.hid (f1.out.send t3 t4 t5 t6); obtain ⟨x0, x1, x2, x3, x4, x5⟩ := f3.out.cells))
  refine bodyPost_ret (v := .agg #[.int .i64 nk, .string nt, .int .i64 na, .int .i64 ne, .slice nao nks.length ncap]) (by simp [results, Tryz.results73, go_sem, x0, x1, x2, x3, x4]) rfl ?_
  rw [hm.out]
  exact f3.out.done (kept5 _ _ _ _ _ _ _) (.mk nk nt na ne (.slice nao nks.length ncap) nks) _ t1 (node_new t2 f1.out.zlt) _ rfl
end Go.Proofs.YthggagophcnkfaaGreatDoor.px
