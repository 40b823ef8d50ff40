/- The walks of the parser's token, word, is and next. Slices of strings, and the walk of slices.Contains on them. The walks of the parser's is and next. The walks of the lexer's letter, digit, part, white, run and skip. -/
import Derived.Test.YthggagophcnkfaaGreatDoorM1
import Derived.Deep.QuietTactic
import Derived.BigQuiet
import Derived.BigRegion
import Derived.Deep.RegionLaw
import Derived.Deep.DeepCutAuto
import Derived.Outline
import Derived.Shelf.Abstract
namespace Go.Proofs.YthggagophcnkfaaGreatDoor.px
open Go.RowKit Go.Proofs.YthggagophcnkfaaGreatDoor.agg Go.Proofs.YthggagophcnkfaaGreatDoor.sx
set_option linter.unusedSimpArgs false
set_option linter.unusedVariables false
set_option maxHeartbeats 1000000 in
theorem token_lit {w : World} {P : Nat} {tv lv : Value} {S : Src} {s : Ps} {la fo : Int} (h : PAt w P tv lv S s la fo) :
 Calls Tryz.prog 60 #[.pointer (some ⟨P, 0, none⟩)] w fun e w' => e = .returned (.agg #[.int .i64 (tok S.A s).kind, .int .i64 (S.tk s).fr, .int .i64 (S.tk s).at_, .int .i64 (S.tk s).to]) ∧ Below w.heap.size w w' := by
 obtain ⟨c0, c1, c2, c3, c4, c5, c6⟩ := h.cell
 obtain ⟨b, o, cap, rfl, hb, hc⟩ := h.toks
 have hlt := h.sok.lt
 have ht := tok_mem hlt
 rw [tok_kind]
 have hcc := hc s.at_ hlt
 rw [← ht] at hcc
 clear hc ht
 generalize S.tk s = t at *
 have k0 : w.cell? ⟨b, o + s.at_ * 4, none⟩ = some (.int .i64 t.kind) := hcc 0 _ rfl
 have k1 : w.cell? ⟨b, o + s.at_ * 4 + 1, none⟩ = some (.int .i64 t.fr) := hcc 1 _ rfl
 have k2 : w.cell? ⟨b, o + s.at_ * 4 + 2, none⟩ = some (.int .i64 t.at_) := hcc 2 _ rfl
 have k3 : w.cell? ⟨b, o + s.at_ * 4 + 3, none⟩ = some (.int .i64 t.to) := hcc 3 _ rfl
 have hP := lt_of_block h.box
 clear h hcc c0 c3 c4 c5 c6
 generalize s.at_ = i at *
 go_enter Tryz.func60, Tryz.ntmps60
 go_upto_region 1 with fail
 go_region
 all_goals
  go_wp2
  refine bodyPost_ret (v := .agg #[.int .i64 t.kind, .int .i64 t.fr, .int .i64 t.at_, .int .i64 t.to]) (by simp [results, Tryz.results60, go_sem]) rfl ⟨rfl, ?_⟩
  repeat (first | exact Below.refl _ _ | apply Below.drew | refine Below.setCell ?_ (by simp) _ | refine Below.alloc ?_ (by simp) _)
section
variable (a b c d : Value) (w : World)
@[go_sem] theorem run_tok0 : (Instr.field 39 (.agg #[a, b, c, d]) 0).run Tryz.prog w = .ok a w := by kernel_rfl
@[go_sem] theorem run_tok1 : (Instr.field 39 (.agg #[a, b, c, d]) 1).run Tryz.prog w = .ok b w := by kernel_rfl
@[go_sem] theorem run_tok2 : (Instr.field 39 (.agg #[a, b, c, d]) 2).run Tryz.prog w = .ok c w := by kernel_rfl
@[go_sem] theorem run_tok3 : (Instr.field 39 (.agg #[a, b, c, d]) 3).run Tryz.prog w = .ok d w := by kernel_rfl
end
set_option maxHeartbeats 1000000 in
theorem word_walk {w : World} {P : Nat} {tv lv : Value} {S : Src} {s : Ps} {la fo : Int} (h : PAt w P tv lv S s la fo) :
 Calls Tryz.prog 118 #[.pointer (some ⟨P, 0, none⟩)] w fun e w' => e = .returned (.string (word S.A s)) ∧ Below w.heap.size w w' := by
 obtain ⟨r1, r2, r3, r4⟩ := h.rng
 have hh := Lib.hid h
 have hT := Lib.hid (token_lit h)
 have hP := lt_of_block h.box
 rw [tok_word h.sok.lt]
 clear h
 generalize (tok S.A s).kind = tk at *
 generalize S.tk s = t at *
 go_enter Tryz.func118, Tryz.ntmps118
 go_upto_region 2 with (go_at_call 60; refine hT.out.mono ?_; rintro e w1 ⟨rfl, hb1⟩; have c0 := (hb1.cell (p := ⟨P, 0, none⟩) hP).trans hh.out.cell.1; have hP1 := Nat.lt_of_lt_of_le hP hb1.size)
 have q1 : ¬ (t.to : Int) < t.at_ := by omega
 have q2 : ¬ (S.T.size : Int) < t.to := by omega
 go_region
 all_goals
  go_wp2
  go_ret
  exact ⟨rfl, (hb1.alloc hb1.size _).drew⟩
theorem isB_kind {A : List Tk} {ws : List ByteArray} {s : Ps} (h : isB A ws s = true) : (tok A s).kind ≠ 0 := by
 intro e
 unfold isB at h
 rw [e] at h
 simp at h
end Go.Proofs.YthggagophcnkfaaGreatDoor.px
namespace Go.Proofs.YthggagophcnkfaaGreatDoor.sx
open Go.RowKit Go.Proofs.YthggagophcnkfaaGreatDoor.agg
set_option linter.unusedSimpArgs false
set_option linter.unusedVariables false
def StrsIn (w : World) (v : Value) (l : List ByteArray) : Prop :=
 ∃ ao cap, v = .slice ao l.length cap ∧ ∀ j, (hj : j < l.length) → ∃ b o, ao = some ⟨b, o, none⟩ ∧ b < w.heap.size ∧ w.cell? ⟨b, o + j, none⟩ = some (.string l[j])
theorem StrsIn.below {w w' : World} {v : Value} {l : List ByteArray} (h : StrsIn w v l) (hb : Below w.heap.size w w') : StrsIn w' v l := by
 obtain ⟨ao, cap, rfl, hc⟩ := h
 refine ⟨ao, cap, rfl, fun j hj => ?_⟩
 obtain ⟨b, o, e, hlt, hcj⟩ := hc j hj
 exact ⟨b, o, e, Nat.lt_of_lt_of_le hlt hb.size, (hb.cell (p := ⟨b, _, none⟩) hlt).trans hcj⟩
theorem beq_str (a b : ByteArray) : (a.toList == b.toList) = decide (a = b) := by
 rw [ByteArray.toList_eq, ByteArray.toList_eq]
 by_cases h : a = b
 ·subst h; simp
 ·rw [decide_eq_false h, beq_eq_false_iff_ne]
  intro e
  refine h ?_
  obtain ⟨⟨x⟩⟩ := a
  obtain ⟨⟨y⟩⟩ := b
  simp only at e
  rw [e]
def IdxEnd (w : World) (l : List ByteArray) (x : ByteArray) (e : Ending) (w' : World) : Prop := ∃ r : Int, e = .returned (.int .i64 r) ∧ decide (0 ≤ r) = hasS l x ∧ w = w'
set_option maxHeartbeats 1000000 in
theorem indexStr_walk (w : World) (v : Value) (l : List ByteArray) (x : ByteArray) (h : StrsIn w v l) (hl : l.length < 1000000) :
 Calls Tryz.prog 179 #[v, .string x] w (IdxEnd w l x) := by
 obtain ⟨ao, ca, rfl, hc⟩ := h
 have hc' := Lib.hid hc
 clear hc
 go_enter Tryz.func179, Tryz.ntmps179
 go_wp2_with fail
 go_loop [5, 8] (fun _ i => ∃ j : Nat, j ≤ l.length ∧ i = .int .i64 j ∧ ∀ k (hk : k < l.length), k < j → l[k] ≠ x) (fun _ i => l.length - (intOf i).toNat)
 case atStart => exact ⟨0, Nat.zero_le _, rfl, fun k _ h0 => by omega⟩
 case round =>
  obtain ⟨j, hj, rfl, hn⟩ := hrel
  have hn' := Lib.hid hn
  clear hn
  by_cases hlt : j < l.length
  ·obtain ⟨b1, o1, rfl, _, c1⟩ := hc'.out j hlt
   have hb := beq_str x l[j]
   by_cases he : x = l[j]
   ·rw [decide_eq_true he] at hb
    have hin : Hid (hasS l x = true) := by
     rw [hasS_iff, he]
     exact List.getElem_mem hlt
    clear he
    generalize l[j] = y at *
    go_wp2_with fail
    go_ret
    exact ⟨j, rfl, by rw [hin.out]; simp, rfl⟩
   ·rw [decide_eq_false he] at hb
    have hn2 : Hid (∀ k (hk : k < l.length), k < j + 1 → l[k] ≠ x) := fun k hk hkj => by
     by_cases e : k = j
     ·subst e; exact fun e2 => he e2.symm
     ·exact hn'.out k hk (by omega)
    clear he
    generalize l[j] = y at *
    go_wp2_with fail
    go_round
    case rel => exact ⟨j + 1, by omega, by go_num, hn2.out⟩
    case measure => simp [intOf]; omega
  ·obtain rfl : j = l.length := by omega
   have hno : Hid (hasS l x = false) := by
    rw [Bool.eq_false_iff]
    intro e
    rw [hasS_iff] at e
    obtain ⟨k, hk, e2⟩ := List.mem_iff_getElem.1 e
    exact hn'.out k hk hk e2
   go_wp2_with fail
   go_ret
   exact ⟨-1, rfl, by rw [hno.out]; simp, rfl⟩
theorem containsStr_walk (w : World) (v : Value) (l : List ByteArray) (x : ByteArray) (h : StrsIn w v l) (hl : l.length < 1000000) :
 Calls Tryz.prog 152 #[v, .string x] w fun e w' => e = .returned (.bool (hasS l x)) ∧ w = w' := by
 have hi := Lib.hid (indexStr_walk w v l x h hl)
 obtain ⟨ao, ca, rfl, hc⟩ := h
 clear hc
 go_enter Tryz.func152, Tryz.ntmps152
 go_wp2_with (go_at_call 179; refine hi.out.mono ?_; rintro e w1 ⟨r, rfl, hr, rfl⟩; have hr' := Lib.hid hr; clear hr)
 go_ret
 exact ⟨by rw [← hr'.out]; rfl, rfl⟩
end Go.Proofs.YthggagophcnkfaaGreatDoor.sx
namespace Go.Proofs.YthggagophcnkfaaGreatDoor.px
open Go.RowKit Go.Proofs.YthggagophcnkfaaGreatDoor.agg Go.Proofs.YthggagophcnkfaaGreatDoor.sx
set_option linter.unusedSimpArgs false
set_option linter.unusedVariables false
set_option maxHeartbeats 1000000 in
theorem is_walk {w : World} {P : Nat} {tv lv : Value} {S : Src} {s : Ps} {la fo : Int} (h : PAt w P tv lv S s la fo) (v : Value) (ws : List ByteArray) (hv : StrsIn w v ws) (hl : ws.length < 1000) :
 Calls Tryz.prog 117 #[.pointer (some ⟨P, 0, none⟩), v] w fun e w' => e = .returned (.bool (isB S.A ws s)) ∧ Below w.heap.size w w' := by
 have hh := Lib.hid h
 have hv' := Lib.hid hv
 obtain ⟨ao, cap, rfl, _⟩ := hv
 have hT := Lib.hid (token_lit h)
 unfold isB
 clear h
 by_cases hk : (tok S.A s).kind = 2 ∨ (tok S.A s).kind = 4
 ·have hb : Hid ((((tok S.A s).kind == 2 || (tok S.A s).kind == 4) && hasS ws (word S.A s)) = hasS ws (word S.A s)) := by
   rcases hk with e | e <;> rw [e] <;> rfl
  have hW := Lib.hid (fun (W : World) (hb : Below w.heap.size w W) => word_walk (hh.out.below hb))
  have hC := Lib.hid (fun (W : World) (hb : Below w.heap.size w W) => containsStr_walk W _ ws (word S.A s) (hv'.out.below hb) (by omega))
  rw [hb.out]
  generalize hasS ws (word S.A s) = r at *
  generalize word S.A s = x at *
  clear hb
  generalize (tok S.A s).kind = kk at *
  generalize S.tk s = t at *
  rcases hk with e | e
  ·rw [e] at hT
   go_enter Tryz.func117, Tryz.ntmps117
   go_wp2_with (first
    | (go_at_call 60; refine hT.out.mono ?_; rintro e w1 ⟨rfl, hb1⟩)
    | (go_at_call 118; refine (hW.out _ (hb1.alloc hb1.size _)).mono ?_; rintro e w2 ⟨rfl, hb2⟩; have hb3 := (hb1.alloc hb1.size (.cells #[.int .i64 ((2 : Nat) : Int), .int .i64 t.fr, .int .i64 t.at_, .int .i64 t.to] 39)).trans (hb2.mono (hb1.alloc hb1.size _).size))
    | (go_at_call 152; refine (hC.out _ hb3).mono ?_; rintro e _ ⟨rfl, rfl⟩))
   go_ret
   exact ⟨rfl, hb3⟩
  ·rw [e] at hT
   go_enter Tryz.func117, Tryz.ntmps117
   go_wp2_with (first
    | (go_at_call 60; refine hT.out.mono ?_; rintro e w1 ⟨rfl, hb1⟩)
    | (go_at_call 118; refine (hW.out _ (hb1.alloc hb1.size _)).mono ?_; rintro e w2 ⟨rfl, hb2⟩; have hb3 := (hb1.alloc hb1.size (.cells #[.int .i64 ((4 : Nat) : Int), .int .i64 t.fr, .int .i64 t.at_, .int .i64 t.to] 39)).trans (hb2.mono (hb1.alloc hb1.size _).size))
    | (go_at_call 152; refine (hC.out _ hb3).mono ?_; rintro e _ ⟨rfl, rfl⟩))
   go_ret
   exact ⟨rfl, hb3⟩
 ·have hb : Hid ((((tok S.A s).kind == 2 || (tok S.A s).kind == 4) && hasS ws (word S.A s)) = false) := by
   have h2 : ((tok S.A s).kind == 2) = false := by simp; omega
   have h4 : ((tok S.A s).kind == 4) = false := by simp; omega
   rw [h2, h4]
   rfl
  rw [hb.out]
  clear hb
  generalize (tok S.A s).kind = kk at *
  generalize S.tk s = t at *
  have k2 : (((kk : Nat) : Int) == 2) = false := by simp; omega
  have k4 : (((kk : Nat) : Int) == 4) = false := by simp; omega
  clear hk
  go_enter Tryz.func117, Tryz.ntmps117
  go_wp2_with (first
   | (go_at_call 60; refine hT.out.mono ?_; rintro e w1 ⟨rfl, hb1⟩))
  go_ret
  exact ⟨rfl, hb1.alloc hb1.size _⟩
set_option maxRecDepth 100000 in
set_option maxHeartbeats 1000000 in
theorem next_walk {w : World} {P : Nat} {tv lv : Value} {S : Src} {s : Ps} (h : PIn w P tv lv S s) (hk : (tok S.A s).kind ≠ 0) :
 Calls Tryz.prog 62 #[.pointer (some ⟨P, 0, none⟩)] w (SEnd w P tv lv S s (.string (next S.A s).1) (next S.A s).2) := by
 obtain ⟨r1, r2, r3, r4⟩ := h.rng
 have hh := Lib.hid h
 have hW := Lib.hid (word_walk h)
 have hP := lt_of_block h.box
 have hT := Lib.hid (fun (W : World) (hb : Below w.heap.size w W) => token_lit (h.below hb))
 have e2 : (next S.A s).1 = word S.A s := rfl
 rw [e2]
 have hk0' := Lib.hid hk
 have hat : (s.at_ : Int) ≤ 5000 := by have h1 := h.sok.lt; have h2 := h.ok.len; omega
 clear e2 h
 obtain ⟨t, ht⟩ : ∃ t, t = S.tk s := ⟨_, rfl⟩
 have ht' := Lib.hid ht
 rw [← ht] at r1 r2 r3 hT
 clear ht
 generalize hx : word S.A s = x at *
 clear hx
 go_enter Tryz.func62, Tryz.ntmps62
 go_upto_region 3 with (first
  | (go_at_call 118; refine hW.out.mono ?_; rintro e w1 ⟨rfl, hb1⟩)
  | (go_at_call 60; refine (hT.out _ hb1).mono ?_; rintro e w2 ⟨rfl, hb2⟩; have hb12 := hb1.trans (hb2.mono hb1.size); have hp2 := Lib.hid (hh.out.below hb12); obtain ⟨_, _, _, c3, _, _, c6⟩ := hp2.out.cell))
 have hp3 := Lib.hid (hp2.out.setLast t.to (by omega))
 have hk3 := Lib.hid ((Kept.of_below (F := pfoot P lv) hb12).trans (kept_set (lv := lv) 3 (.int .i64 t.to)))
 clear hb1 hb2 hb12 hT hW c3 c6 hp2
 generalize w2.setCell ⟨P, 3, none⟩ _ = w3 at *
 have hT3 := token_lit hp3.out
 have hT3' := Lib.hid hT3
 have hkk : (((tok S.A s).kind : Int) == 0) = false := by simpa using hk
 have hkk2 : (((tok S.A s).kind : Int) != 0) = true := by simpa using hk
 clear hT3 hk
 go_upto_region 4 with (go_at_call 60; refine hT3'.out.mono ?_; rintro e w4 ⟨rfl, hb4⟩)
 have hp4 := Lib.hid (hp3.out.below hb4)
 obtain ⟨_, _, c2, _, _, _, c6⟩ := hp4.out.cell
 have hp5 : Hid (PIn (w4.setCell ⟨P, 2, none⟩ (.int .i64 ((s.at_ : Int) + 1))) P tv lv S (next S.A s).2) := by
  have h4 := hp4.out
  rw [ht'.out] at h4
  exact h4.setAt hk0'.out
 have hb4' := Lib.hid hb4
 clear hb4 hT3'
 go_wp2
 go_ret
 exact ⟨lv, rfl, hp5.out, (hk3.out.trans (.of_below hb4'.out)).trans (kept_set 2 _), fresh_same _ _, Nat.le_succ _⟩
end Go.Proofs.YthggagophcnkfaaGreatDoor.px
namespace Go.Proofs.YthggagophcnkfaaGreatDoor.lx
open Go.RowKit Go.Proofs.YthggagophcnkfaaGreatDoor.agg Go.Proofs.YthggagophcnkfaaGreatDoor.sx
set_option linter.unusedSimpArgs false
set_option linter.unusedVariables false
def ByteFn (K : Nat) (p : UInt8 → Bool) : Prop := ∀ (c : UInt8) (W : World), Calls Tryz.prog K #[.int .u8 c.toNat] W fun e w' => e = .returned (.bool (p c)) ∧ W = w'
theorem letter_fn : ByteFn 105 letterB := by
 intro c W
 unfold letterB
 have hc := c.toNat_lt
 generalize c.toNat = n at *
 by_cases h1 : 97 ≤ n
 ·rw [decide_eq_true h1]
  have e1 : decide (n ≤ 122) = decide ((n : Int) ≤ 122) := by
   by_cases h2 : n ≤ 122
   ·rw [decide_eq_true h2, decide_eq_true (by omega)]
   ·rw [decide_eq_false h2, decide_eq_false (by omega)]
  rw [e1]
  go_enter Tryz.func105, Tryz.ntmps105
  go_wp2_with fail
  go_ret
  exact ⟨rfl, rfl⟩
 ·rw [decide_eq_false h1]
  go_enter Tryz.func105, Tryz.ntmps105
  go_wp2_with fail
  go_ret
  exact ⟨rfl, rfl⟩
theorem digit_fn : ByteFn 108 digitB := by
 intro c W
 unfold digitB
 have hc := c.toNat_lt
 generalize c.toNat = n at *
 by_cases h1 : 48 ≤ n
 ·rw [decide_eq_true h1]
  have e1 : decide (n ≤ 57) = decide ((n : Int) ≤ 57) := by
   by_cases h2 : n ≤ 57
   ·rw [decide_eq_true h2, decide_eq_true (by omega)]
   ·rw [decide_eq_false h2, decide_eq_false (by omega)]
  rw [e1]
  go_enter Tryz.func108, Tryz.ntmps108
  go_wp2_with fail
  go_ret
  exact ⟨rfl, rfl⟩
 ·rw [decide_eq_false h1]
  go_enter Tryz.func108, Tryz.ntmps108
  go_wp2_with fail
  go_ret
  exact ⟨rfl, rfl⟩
theorem u8_eq (c : UInt8) (k : Nat) (hk : k < 256) : ((c.toNat : Int) == (k : Int)) = (c == UInt8.ofNat k) := by
 by_cases h : c = UInt8.ofNat k
 ·subst h
  have : (UInt8.ofNat k).toNat = k := by simp [UInt8.toNat_ofNat']; omega
  rw [this]
  simp
 ·have h1 : (c == UInt8.ofNat k) = false := by simpa using h
  rw [h1, beq_eq_false_iff_ne]
  intro e
  refine h (UInt8.toNat_inj.1 ?_)
  have : (UInt8.ofNat k).toNat = k := by simp [UInt8.toNat_ofNat']; omega
  omega
theorem part_fn : ByteFn 107 partB := by
 intro c W
 unfold partB
 have hL := Lib.hid (fun (W : World) => letter_fn c W)
 have hD := Lib.hid (fun (W : World) => digit_fn c W)
 have e95 : (c == 95) = ((c.toNat : Int) == 95) := (u8_eq c 95 (by decide)).symm
 rw [e95]
 have hc := c.toNat_lt
 clear e95
 generalize letterB c = a at *
 generalize digitB c = b at *
 generalize c.toNat = n at *
 cases a with
 | true =>
  go_enter Tryz.func107, Tryz.ntmps107
  go_wp2_with (first
   | (go_at_call 105; refine (hL.out _).mono ?_; rintro e _ ⟨rfl, rfl⟩))
  go_ret
  exact ⟨rfl, rfl⟩
 | false =>
  cases b with
  | true =>
   go_enter Tryz.func107, Tryz.ntmps107
   go_wp2_with (first
    | (go_at_call 105; refine (hL.out _).mono ?_; rintro e _ ⟨rfl, rfl⟩)
    | (go_at_call 108; refine (hD.out _).mono ?_; rintro e _ ⟨rfl, rfl⟩))
   go_ret
   exact ⟨rfl, rfl⟩
  | false =>
   go_enter Tryz.func107, Tryz.ntmps107
   go_wp2_with (first
    | (go_at_call 105; refine (hL.out _).mono ?_; rintro e _ ⟨rfl, rfl⟩)
    | (go_at_call 108; refine (hD.out _).mono ?_; rintro e _ ⟨rfl, rfl⟩))
   go_ret
   exact ⟨rfl, rfl⟩
theorem skip1_fn : ByteFn 145 (fun c => c != 10) := by
 intro c W
 have e : (c != 10) = ((c.toNat : Int) != 10) := by
  have h := u8_eq c 10 (by decide)
  have h2 : ((c.toNat : Int) == 10) = (c == 10) := h
  rw [bne, bne, h2]
 simp only
 rw [e]
 have hc := c.toNat_lt
 clear e
 generalize c.toNat = n at *
 go_enter Tryz.func145, Tryz.ntmps145
 go_wp2_with fail
 go_ret
 exact ⟨rfl, rfl⟩
theorem white_fn : ByteFn 110 whiteB := by
 intro c W
 unfold whiteB
 have e1 : (c == 32) = ((c.toNat : Int) == 32) := (u8_eq c 32 (by decide)).symm
 have e2 : (c == 9) = ((c.toNat : Int) == 9) := (u8_eq c 9 (by decide)).symm
 have e3 : (c == 10) = ((c.toNat : Int) == 10) := (u8_eq c 10 (by decide)).symm
 have e4 : (c == 13) = ((c.toNat : Int) == 13) := (u8_eq c 13 (by decide)).symm
 rw [e1, e2, e3, e4]
 have hc := c.toNat_lt
 clear e1 e2 e3 e4
 generalize c.toNat = n at *
 cases h1 : ((n : Int) == 32) with
 | true =>
  go_enter Tryz.func110, Tryz.ntmps110
  go_wp2_with fail
  go_ret
  exact ⟨rfl, rfl⟩
 | false =>
  cases h2 : ((n : Int) == 9) with
  | true =>
   go_enter Tryz.func110, Tryz.ntmps110
   go_wp2_with fail
   go_ret
   exact ⟨rfl, rfl⟩
  | false =>
   cases h3 : ((n : Int) == 10) with
   | true =>
    go_enter Tryz.func110, Tryz.ntmps110
    go_wp2_with fail
    go_ret
    exact ⟨rfl, rfl⟩
   | false =>
    go_enter Tryz.func110, Tryz.ntmps110
    go_wp2_with fail
    go_ret
    exact ⟨rfl, rfl⟩
theorem cntN_prefix {p : UInt8 → Bool} {l : List UInt8} {j : Nat} (h : ∀ i (hi : i < l.length), i < j → p l[i] = true) (hj : j ≤ l.length) : cntN p l = j + cntN p (l.drop j) := by
 induction j generalizing l with
 | zero => simp
 | succ j ih =>
  cases l with
  | nil => simp at hj
  | cons c l =>
   have h0 : p c = true := h 0 (by simp) (by omega)
   rw [cntN, if_pos h0, List.drop_succ_cons]
   have := ih (l := l) (fun i hi hij => h (i + 1) (by simpa using hi) (by omega)) (by simpa using hj)
   omega
theorem cntN_stop {p : UInt8 → Bool} {l : List UInt8} {j : Nat} (h : ∀ i (hi : i < l.length), i < j → p l[i] = true) (hj : j < l.length) (hn : p l[j] = false) : cntN p l = j := by
 rw [cntN_prefix h (Nat.le_of_lt hj), List.drop_eq_getElem_cons hj, cntN, hn]
 rfl
theorem cntN_all {p : UInt8 → Bool} {l : List UInt8} (h : ∀ i (hi : i < l.length), p l[i] = true) : cntN p l = l.length := by
 rw [cntN_prefix (j := l.length) (fun i hi _ => h i hi) (Nat.le_refl _), List.drop_length, cntN, Nat.add_zero]
def TestFn (K : Nat) (p : UInt8 → Bool) : Prop := (∀ args w, (callFunc K args).run Tryz.prog w = .ok (.enter K args) w) ∧ ByteFn K p
set_option maxHeartbeats 1000000 in
theorem run_walk (w : World) (s : ByteArray) (K : Nat) (p : UInt8 → Bool) (hp : TestFn K p) (hs : s.size ≤ 100000) :
 Calls Tryz.prog 106 #[.string s, .func (.func K) #[] #[]] w fun e w' => e = .returned (.int .i64 ((cntN p s.data.toList : Nat) : Int)) ∧ w = w' := by
 have eg := hp.1
 have hF := Lib.hid hp.2
 clear hp
 have hsl : s.data.toList.length = s.size := rfl
 go_enter Tryz.func106, Tryz.ntmps106
 go_wp2_with fail
 go_loop [5] (fun i => ∃ j : Nat, j ≤ s.size ∧ i = .int .i64 j ∧ Hid (∀ i (hi : i < s.data.toList.length), i < j → p s.data.toList[i] = true)) (fun i => s.size - (intOf i).toNat)
 case atStart => exact ⟨0, Nat.zero_le _, rfl, fun i _ h0 => by omega⟩
 case round =>
  obtain ⟨j, hj, rfl, hn⟩ := hrel
  by_cases hlt : j < s.size
  ·have hd : Hid (s[j] = s.data.toList[j]) := rfl
   have hC := Lib.hid (fun (W : World) => hF.out s[j] W)
   cases hpj : p s[j] with
   | true =>
    rw [hpj] at hC
    have hn2 : Hid (∀ i (hi : i < s.data.toList.length), i < j + 1 → p s.data.toList[i] = true) := fun i hi hij => by
     by_cases e : i = j
     ·subst e; exact hpj
     ·exact hn.out i hi (by omega)
    clear hpj
    go_wp2_with (first | (go_at_fn K; refine (hC.out _).mono ?_; rintro e _ ⟨rfl, rfl⟩))
    go_round
    case rel => exact ⟨j + 1, by omega, by go_num, hn2⟩
    case measure => simp [intOf]; omega
   | false =>
    rw [hpj] at hC
    have hr : Hid (cntN p s.data.toList = j) := cntN_stop hn.out hlt hpj
    clear hpj
    go_wp2_with (first | (go_at_fn K; refine (hC.out _).mono ?_; rintro e _ ⟨rfl, rfl⟩))
    go_ret
    exact ⟨by rw [hr.out]; rfl, rfl⟩
  ·obtain rfl : j = s.size := by omega
   have hr : Hid (cntN p s.data.toList = s.size) := cntN_all (fun i hi => hn.out i hi hi)
   go_wp2_with fail
   go_ret
   exact ⟨by rw [hr.out]; rfl, rfl⟩
end Go.Proofs.YthggagophcnkfaaGreatDoor.lx
