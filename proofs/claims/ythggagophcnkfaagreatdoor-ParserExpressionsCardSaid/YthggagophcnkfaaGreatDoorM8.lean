/- The walks of the parser's comparison and expression. The walks of the parser's declares, states, end, skipped and block. The walk of the parser's skipped. What the parser's statement and declaration need: rows that are carried on, tests by their answers. -/
import Derived.Test.YthggagophcnkfaaGreatDoorM44
import Derived.Deep.RegionHeld3
namespace Go.Proofs.YthggagophcnkfaaGreatDoor.px
open Go.RowKit Go.Proofs.YthggagophcnkfaaGreatDoor.agg Go.Proofs.YthggagophcnkfaaGreatDoor.sx
set_option linter.unusedSimpArgs false
set_option linter.unusedVariables false
set_option maxRecDepth 100000 in
set_option maxHeartbeats 2000000 in
theorem comparison_walk_1 {w : World} {P : Nat} {tv lv : Value} {S : Src} {s : Ps} (h : PIn w P tv lv S s) (ex : M PT) (n : Nat) (hd : FnM P tv S 183 (difference S.A ex) n) (hn : S.L.length < s.at_ + n) (c1 : Hid (isB S.A [(ByteArray.mk #[61, 61]), (ByteArray.mk #[33, 61]), (ByteArray.mk #[60]), (ByteArray.mk #[60, 61]), (ByteArray.mk #[62]), (ByteArray.mk #[62, 61])] (difference S.A ex s).2 = true)) :
 Calls Tryz.prog 166 #[.pointer (some ⟨P, 0, none⟩)] w (NEnd w P tv lv S s (comparison S.A ex s)) := by
 have f0 := Lib.hid (FIn.start h)
 have cat := h.cell.2.2.1
 have hP := lt_of_block h.box
 have hd2 := Lib.hid hd.2
 clear hd
 have hm0 : comparison S.A ex s = (node 40 s.at_ ((next S.A (difference S.A ex s).2).1) [(difference S.A ex s).1, (difference S.A ex (next S.A (difference S.A ex s).2).2).1] (difference S.A ex (next S.A (difference S.A ex s).2).2).2, (difference S.A ex (next S.A (difference S.A ex s).2).2).2) := by
  unfold comparison
  simp only [cmpWords, c1.out, if_true, if_false, Bool.false_eq_true, Bool.true_eq_false, reduceIte, Nat.reduceEqDiff]
 have hm := Lib.hid hm0
 clear hm0
 generalize comparison S.A ex s = m at *
 have h1 := Lib.hid (fun (W : World) (lvq : Value) (q : PIn W P tv lvq S s) => hd2.out _ _ _ q hn)
 generalize difference S.A ex s = k1 at *
 obtain ⟨kk1, s1⟩ := k1
 have h3 := Lib.hid (fun (W : World) (lvq : Value) (q : PIn W P tv lvq S s1) => next_walk q (isB_kind c1.out))
 generalize (next S.A s1).1 = x3 at *
 generalize (next S.A s1).2 = s3 at *
 have h4 := Lib.hid (fun (W : World) (lvq : Value) (q : PIn W P tv lvq S s3) (hmo : s.at_ ≤ s3.at_) => hd2.out _ _ _ q (by omega))
 generalize difference S.A ex s3 = k4 at *
 obtain ⟨kk4, s4⟩ := k4
 clear h
 go_enter Tryz.func166, Tryz.ntmps166
 go_wp2_with (first
  | (go_at_call 63; refine ((f4.out.box1 nks4 rfl).callNode (by repeat (first | exact Below.refl _ _ | apply bl_drew | apply bl_alloc)) 40 s.at_ (Nat.le_refl _) x3 rfl (by simp) rfl (by simp)).mono ?_; rintro e w5 ⟨rfl, g⟩; obtain ⟨q00, q01, q02, q03, q04, q05, q06⟩ := g.fin.bx 0 rfl; obtain ⟨z0, z1, z2, z3, z4, z5⟩ := g.fin.cells; obtain ⟨zb0, zb1⟩ := g.fin.bxZ 0 rfl; have f5 := Lib.hid ((g.kid 40 s.at_ x3).forget); clear g)
  | (go_at_call 183; refine (f3.out.callN (by repeat (first | exact Below.refl _ _ | apply bl_drew | apply bl_alloc)) (fun q => h4.out _ _ q f3.out.mono)).mono ?_; rintro e w4 ⟨lv4, nk4, nt4, na4, ne4, nao4, ncap4, nks4, rfl, g⟩; have f4 := Lib.hid g; clear g; obtain ⟨y00, y01, y02, y03, y04, y05, y06⟩ := f4.out.bx 0 rfl)
  | (go_at_call 62; refine (f2.out.callS (by repeat (first | exact Below.refl _ _ | apply bl_drew | apply bl_alloc)) (h3.out _ _)).mono ?_; rintro e w3 ⟨lv3, rfl, g⟩; have f3 := Lib.hid g; clear g)
  | (go_at_call 117; refine ((f1.out.box1 nks1 rfl).callIs (by repeat (first | exact Below.refl _ _ | apply bl_drew | apply bl_alloc)) [(ByteArray.mk #[61, 61]), (ByteArray.mk #[33, 61]), (ByteArray.mk #[60]), (ByteArray.mk #[60, 61]), (ByteArray.mk #[62]), (ByteArray.mk #[62, 61])] true c1.out rfl (by decide) (by simp) rfl).mono ?_; rintro e w2 ⟨rfl, g⟩; have f2 := Lib.hid g; clear g)
  | (go_at_call 183; refine (f0.out.callN (by repeat (first | exact Below.refl _ _ | apply bl_drew | apply bl_alloc)) (h1.out _ _)).mono ?_; rintro e w1 ⟨lv1, nk1, nt1, na1, ne1, nao1, ncap1, nks1, rfl, g⟩; have f1 := Lib.hid g; clear g))
 refine bodyPost_ret (v := .agg #[.int .i64 40, .string x3, .int .i64 (S.at_ s.at_ s4.at_), .int .i64 (S.last s4.at_), .slice _ 2 2]) (by simp [results, Tryz.results166, go_sem, z0, z1, z2, z3, z4] <;> rfl) rfl ?_
 rw [hm.out]
 have f6 := FIn.over (k' := 40) (t' := x3) (a' := S.at_ s.at_ s4.at_) (e' := S.last s4.at_) (v' := .slice (some ⟨w4.heap.size + 1, 0, none⟩) 2 2) (nks' := []) (bs := []) f5.out 1
 exact f6.done (kept5 _ _ _ _ _ _ _) _ _ (f6.kids _ (List.mem_singleton.2 rfl)).2 ((f6.kids _ (List.mem_singleton.2 rfl)).1.mono (fun b _ hq => ⟨hq.1, hq.2.1⟩)) _ rfl
set_option maxRecDepth 100000 in
set_option maxHeartbeats 2000000 in
theorem comparison_walk_2 {w : World} {P : Nat} {tv lv : Value} {S : Src} {s : Ps} (h : PIn w P tv lv S s) (ex : M PT) (n : Nat) (hd : FnM P tv S 183 (difference S.A ex) n) (hn : S.L.length < s.at_ + n) (c1 : Hid (isB S.A [(ByteArray.mk #[61, 61]), (ByteArray.mk #[33, 61]), (ByteArray.mk #[60]), (ByteArray.mk #[60, 61]), (ByteArray.mk #[62]), (ByteArray.mk #[62, 61])] (difference S.A ex s).2 = false)) :
 Calls Tryz.prog 166 #[.pointer (some ⟨P, 0, none⟩)] w (NEnd w P tv lv S s (comparison S.A ex s)) := by
 have f0 := Lib.hid (FIn.start h)
 have cat := h.cell.2.2.1
 have hP := lt_of_block h.box
 have hd2 := Lib.hid hd.2
 clear hd
 have hm0 : comparison S.A ex s = ((difference S.A ex s).1, (difference S.A ex s).2) := by
  unfold comparison
  simp only [cmpWords, c1.out, if_true, if_false, Bool.false_eq_true, Bool.true_eq_false, reduceIte, Nat.reduceEqDiff]
 have hm := Lib.hid hm0
 clear hm0
 generalize comparison S.A ex s = m at *
 have h1 := Lib.hid (fun (W : World) (lvq : Value) (q : PIn W P tv lvq S s) => hd2.out _ _ _ q hn)
 generalize difference S.A ex s = k1 at *
 obtain ⟨kk1, s1⟩ := k1
 clear h
 go_enter Tryz.func166, Tryz.ntmps166
 go_wp2_with (first
  | (go_at_call 117; refine ((f1.out.box1 nks1 rfl).callIs (by repeat (first | exact Below.refl _ _ | apply bl_drew | apply bl_alloc)) [(ByteArray.mk #[61, 61]), (ByteArray.mk #[33, 61]), (ByteArray.mk #[60]), (ByteArray.mk #[60, 61]), (ByteArray.mk #[62]), (ByteArray.mk #[62, 61])] false c1.out rfl (by decide) (by simp) rfl).mono ?_; rintro e w2 ⟨rfl, g⟩; have f2 := Lib.hid g; clear g; obtain ⟨y00, y01, y02, y03, y04, y05, y06⟩ := f2.out.bx 0 rfl; obtain ⟨z0, z1, z2, z3, z4, z5⟩ := f2.out.cells)
  | (go_at_call 183; refine (f0.out.callN (by repeat (first | exact Below.refl _ _ | apply bl_drew | apply bl_alloc)) (h1.out _ _)).mono ?_; rintro e w1 ⟨lv1, nk1, nt1, na1, ne1, nao1, ncap1, nks1, rfl, g⟩; have f1 := Lib.hid g; clear g))
 refine bodyPost_ret (v := .agg #[.int .i64 nk1, .string nt1, .int .i64 na1, .int .i64 ne1, .slice nao1 nks1.length ncap1]) (by simp [results, Tryz.results166, go_sem, z0, z1, z2, z3, z4] <;> rfl) rfl ?_
 rw [hm.out]
 exact f2.out.pass (kept5 _ _ _ _ _ _ _)
theorem comparison_walk {w : World} {P : Nat} {tv lv : Value} {S : Src} {s : Ps} (h : PIn w P tv lv S s) (ex : M PT) (n : Nat) (hd : FnM P tv S 183 (difference S.A ex) n) (hn : S.L.length < s.at_ + n) :
 Calls Tryz.prog 166 #[.pointer (some ⟨P, 0, none⟩)] w (NEnd w P tv lv S s (comparison S.A ex s)) := by
 cases q1 : isB S.A [(ByteArray.mk #[61, 61]), (ByteArray.mk #[33, 61]), (ByteArray.mk #[60]), (ByteArray.mk #[60, 61]), (ByteArray.mk #[62]), (ByteArray.mk #[62, 61])] (difference S.A ex s).2 with
 | true =>
  exact comparison_walk_1 h ex n hd hn (Lib.hid q1)
 | false =>
  exact comparison_walk_2 h ex n hd hn (Lib.hid q1)
theorem fn_comparison {P : Nat} {tv : Value} {S : Src} {ex : M PT} {n : Nat} (hd : FnM P tv S 183 (difference S.A ex) n) : FnM P tv S 166 (comparison S.A ex) n := ⟨enters_pcomparison, fun _ _ _ q hn => comparison_walk q ex n hd hn⟩
theorem fn_expr {P : Nat} {tv : Value} {S : Src} (n : Nat) : FnM P tv S 43 (expr S.A n) n := by
 induction n with
 | zero => exact ⟨enters_pexpression, fun W lv s q hn => by have := q.sok.lt; omega⟩
 | succ n ih => exact fn_expression (fn_conjunction (fn_negation (fn_comparison (fn_difference (fn_product (fn_negative (fn_primary ih)))))))
theorem fn_expression_all (P : Nat) (tv : Value) (S : Src) : FnM P tv S 43 (expression S.A) (S.L.length + 1) := by
 have h := fn_expr (P := P) (tv := tv) (S := S) (S.A.length + 1)
 rw [Src.len] at h
 unfold expression
 rw [Src.len]
 exact h
theorem expression_all {w : World} {P : Nat} {tv lv : Value} {S : Src} {s : Ps} (h : PIn w P tv lv S s) : Calls Tryz.prog 43 #[.pointer (some ⟨P, 0, none⟩)] w (NEnd w P tv lv S s (expression S.A s)) :=
 (fn_expression_all P tv S).2 w lv s h (by omega)
end Go.Proofs.YthggagophcnkfaaGreatDoor.px
namespace Go.Proofs.YthggagophcnkfaaGreatDoor.px
open Go.RowKit Go.Proofs.YthggagophcnkfaaGreatDoor.agg Go.Proofs.YthggagophcnkfaaGreatDoor.sx
set_option linter.unusedSimpArgs false
set_option linter.unusedVariables false
theorem declares_walk {w : World} {P : Nat} {tv lv : Value} {S : Src} {s : Ps} (h : PIn w P tv lv S s) :
 Calls Tryz.prog 61 #[.pointer (some ⟨P, 0, none⟩)] w fun e w' => e = .returned (.bool (declares S.A s)) ∧ Below w.heap.size w w' := by
 have hI := Lib.hid (is_at h declWords _ rfl (n := 7) rfl (by omega) rfl rfl)
 have hd : Hid (isB S.A declWords s = declares S.A s) := rfl
 rw [hd.out] at hI
 generalize declares S.A s = b at *
 clear h hd
 go_enter Tryz.func61, Tryz.ntmps61
 go_wp2_with (go_at_call 117; refine hI.out.mono ?_; rintro e w1 ⟨rfl, hb1⟩)
 go_ret
 exact ⟨rfl, hb1⟩
theorem states_walk {w : World} {P : Nat} {tv lv : Value} {S : Src} {s : Ps} (h : PIn w P tv lv S s) :
 Calls Tryz.prog 154 #[.pointer (some ⟨P, 0, none⟩)] w fun e w' => e = .returned (.bool (states S.A s)) ∧ Below w.heap.size w w' := by
 have hI := Lib.hid (is_at h stmtWords _ rfl (n := 9) rfl (by omega) rfl rfl)
 have hd : Hid (isB S.A stmtWords s = states S.A s) := rfl
 rw [hd.out] at hI
 generalize states S.A s = b at *
 clear h hd
 go_enter Tryz.func154, Tryz.ntmps154
 go_wp2_with (go_at_call 117; refine hI.out.mono ?_; rintro e w1 ⟨rfl, hb1⟩)
 go_ret
 exact ⟨rfl, hb1⟩
theorem end_walk {w : World} {P : Nat} {tv lv : Value} {S : Src} {s : Ps} (h : PIn w P tv lv S s) :
 Calls Tryz.prog 28 #[.pointer (some ⟨P, 0, none⟩)] w fun e w' => e = .returned (.bool (atEnd S.A s)) ∧ Below w.heap.size w w' := by
 have hT := Lib.hid (token_lit h)
 have hd : Hid (atEnd S.A s = (((tok S.A s).kind : Int) == 0)) := by
  unfold atEnd
  by_cases e : (tok S.A s).kind = 0
  ·rw [e]; exact rfl
  ·have h1 : ((tok S.A s).kind == 0) = false := by simpa using e
   have h2 : (((tok S.A s).kind : Int) == 0) = false := by simpa using e
   rw [h1, h2]
   exact rfl
 rw [hd.out]
 generalize (tok S.A s).kind = k at *
 clear h hd
 go_enter Tryz.func28, Tryz.ntmps28
 go_wp2_with (go_at_call 60; refine hT.out.mono ?_; rintro e w1 ⟨rfl, hb1⟩)
 go_ret
 exact ⟨rfl, hb1⟩
theorem atEnd_kind {A : List Tk} {s : Ps} (h : atEnd A s = false) : (tok A s).kind ≠ 0 := by
 intro e
 unfold atEnd at h
 rw [e] at h
 simp at h
def StM (P : Nat) (tv : Value) (S : Src) (st : M PT) (n : Nat) : Prop :=
 ∀ (W : World) (lv : Value) (s : Ps), PIn W P tv lv S s → S.L.length < s.at_ + n → atEnd S.A s = false → Calls Tryz.prog 130 #[.pointer (some ⟨P, 0, none⟩)] W (NEnd W P tv lv S { s with at_ := s.at_ + 1 } (st s))
section
variable {w0 : World} {Zo : Option Nat} {B : Nat} {P : Nat} {tv lv0 : Value} {S : Src} {s0 : Ps} {w w' : World} {lv lv' : Value} {s s' : Ps} {kv : Value} {ks : Kds} {W : World}
theorem EIn.callB {f : Nat} {args : Array Value} {v : Value} (h : EIn w0 Zo B P tv lv0 S s0 w lv s kv ks) (hb : Below w.heap.size w W) (c : PIn W P tv lv S s → Calls Tryz.prog f args W fun e w' => e = .returned v ∧ Below W.heap.size W w') :
 Calls Tryz.prog f args W fun e w' => e = .returned v ∧ EIn w0 Zo B P tv lv0 S s0 w' lv s kv ks :=
 have g := h.below hb
 (c g.pin).mono fun _ _ ⟨h1, h2⟩ => ⟨h1, g.below h2⟩
theorem EIn.callNs {f : Nat} {args : Array Value} {r : PT × Ps} (h : EIn w0 Zo B P tv lv0 S s0 w lv s kv ks) (hb : Below w.heap.size w W) (hs : s.at_ ≤ s'.at_) (c : PIn W P tv lv S s → Calls Tryz.prog f args W (NEnd W P tv lv S s' r)) :
 Calls Tryz.prog f args W fun e w' => ∃ lv' nk nt na ne nao ncap nks, e = .returned (.agg #[.int .i64 nk, .string nt, .int .i64 na, .int .i64 ne, .slice nao nks.length ncap]) ∧ EPend w0 Zo B P tv lv0 S s0 w' lv' r.2 kv ks (Nd.mk nk nt na ne (.slice nao nks.length ncap) nks) r.1 ∧ s'.at_ ≤ r.2.at_ :=
 have g := h.below hb
 (c g.pin).mono fun _ _ ⟨lv', nk, nt, na, ne, nao, ncap, nks, h1, t1, t2, t3, t4, t5, t6⟩ => ⟨lv', nk, nt, na, ne, nao, ncap, nks, h1, ⟨g.send t3 t4 t5 (Nat.le_trans hs t6), t2.mono (fun b _ hn => ⟨Nat.le_trans g.bb hn.1, hn.2, fun e => by have := (g.kr.lt b e).2; omega⟩), t1⟩, t6⟩
end
theorem stmts_stop {A : List Tk} {st : M PT} {k : Nat} {l : List PT} {s : Ps} (h : (isB A [(ByteArray.mk #[125])] s || declares A s || atEnd A s) = true) : stmts A st k l s = (l, s) := by
 cases k with
 | zero => rfl
 | succ k => rw [stmts, if_pos h]
theorem stmts_go {A : List Tk} {st : M PT} {k : Nat} {l : List PT} {s : Ps} (h : (isB A [(ByteArray.mk #[125])] s || declares A s || atEnd A s) = false) : stmts A st (k + 1) l s = stmts A st k (l ++ [(st s).1]) (st s).2 := by
 rw [stmts, if_neg (by rw [h]; simp)]
theorem dem_yes {w : World} {P : Nat} {tv lv : Value} {S : Src} {s : Ps} (h : PIn w P tv lv S s) (a : ByteArray) (ha : a ≠ ⟨#[]⟩) (hi : isB S.A [a] s = true) :
 Calls Tryz.prog 67 #[.pointer (some ⟨P, 0, none⟩), .string a] w (SEnd w P tv lv S s (.bool true) (next S.A s).2) := by
 have h1 := demand_walk h a ha
 unfold demand at h1
 rw [if_pos hi] at h1
 exact h1
theorem dem_no {w : World} {P : Nat} {tv lv : Value} {S : Src} {s : Ps} (h : PIn w P tv lv S s) (a : ByteArray) (ha : a ≠ ⟨#[]⟩) (hi : isB S.A [a] s = false) :
 Calls Tryz.prog 67 #[.pointer (some ⟨P, 0, none⟩), .string a] w (SEnd w P tv lv S s (.bool false) (report 4 a s)) := by
 have h1 := demand_walk h a ha
 unfold demand at h1
 rw [if_neg (by rw [hi]; simp)] at h1
 exact h1
set_option maxRecDepth 100000 in
set_option maxHeartbeats 4000000 in
theorem block_walk {w : World} {P : Nat} {tv lv : Value} {S : Src} {s : Ps} (h : PIn w P tv lv S s) (st : M PT) (n : Nat) (hst : StM P tv S st n) (hn : S.L.length < s.at_ + n) :
 Calls Tryz.prog 74 #[.pointer (some ⟨P, 0, none⟩)] w (NEnd w P tv lv S s (block S.A st s)) := by
 have f0 := Lib.hid (FIn.start h)
 have cat := h.cell.2.2.1
 have hP := lt_of_block h.box
 have hst' := Lib.hid hst
 clear hst
 cases hi : isB S.A [(ByteArray.mk #[123])] s with
 | false =>
  have hi' := Lib.hid hi
  have hm : Hid (block S.A st s = (missing 25 (report 4 (ByteArray.mk #[123]) s), report 4 (ByteArray.mk #[123]) s)) := by
   have e1 : demand S.A (ByteArray.mk #[123]) s = (false, report 4 (ByteArray.mk #[123]) s) := by unfold demand; rw [if_neg (by rw [hi]; simp)]
   unfold block
   rw [e1]
   exact rfl
  have h1 := Lib.hid (fun (W : World) (lvq : Value) (q : PIn W P tv lvq S s) => dem_no q (ByteArray.mk #[123]) (by decide) hi'.out)
  generalize report 4 (ByteArray.mk #[123]) s = s1 at *
  have h2 := Lib.hid (fun (W : World) (lvq : Value) (q : PIn W P tv lvq S s1) => missing_walk q 25)
  generalize block S.A st s = m at *
  clear hi h
  go_enter Tryz.func74, Tryz.ntmps74
  go_wp2_with (first
   | (go_at_call 122; refine (f1.out.callN (by repeat (first | exact Below.refl _ _ | apply bl_drew | apply bl_alloc)) (h2.out _ _)).mono ?_; rintro e w2 ⟨lv2, nk2, nt2, na2, ne2, nao2, ncap2, nks2, rfl, g⟩; have f2 := Lib.hid g; clear g; obtain ⟨z0, z1, z2, z3, z4, z5⟩ := f2.out.cells)
   | (go_at_call 67; refine (f0.out.callS (by repeat (first | exact Below.refl _ _ | apply bl_drew | apply bl_alloc)) (h1.out _ _)).mono ?_; rintro e w1 ⟨lv1, rfl, g⟩; have f1 := Lib.hid g; clear g))
  refine bodyPost_ret (v := .agg #[.int .i64 nk2, .string nt2, .int .i64 na2, .int .i64 ne2, .slice nao2 nks2.length ncap2]) (by simp [results, Tryz.results74, go_sem, z0, z1, z2, z3, z4] <;> rfl) rfl ?_
  rw [hm.out]
  exact f2.out.pass (kept5 _ _ _ _ _ _ _)
 | true =>
  have hi' := Lib.hid hi
  obtain ⟨R, hR⟩ : ∃ R, stmts S.A st S.A.length [] (next S.A s).2 = R := ⟨_, rfl⟩
  have hm : Hid (block S.A st s = (node 25 s.at_ ⟨#[]⟩ R.1 (demand S.A (ByteArray.mk #[125]) R.2).2, (demand S.A (ByteArray.mk #[125]) R.2).2)) := by
   rw [← hR]
   have e1 : demand S.A (ByteArray.mk #[123]) s = (true, (next S.A s).2) := by unfold demand; rw [if_pos hi]
   unfold block
   rw [e1]
   exact rfl
  have hR' := Lib.hid hR
  have h1 := Lib.hid (fun (W : World) (lvq : Value) (q : PIn W P tv lvq S s) => dem_yes q (ByteArray.mk #[123]) (by decide) hi'.out)
  generalize (next S.A s).2 = s1 at *
  obtain ⟨r1, r2⟩ := R
  have h3 := Lib.hid (fun (W : World) (lvq : Value) (q : PIn W P tv lvq S r2) => demand_walk q (ByteArray.mk #[125]) (by decide))
  simp only at hm
  generalize (demand S.A (ByteArray.mk #[125]) r2).1 = x9 at *
  generalize (demand S.A (ByteArray.mk #[125]) r2).2 = s9 at *
  generalize block S.A st s = m at *
  clear hi hR h
  go_enter Tryz.func74, Tryz.ntmps74
  go_wp2_with (first
   | (go_at_call 67; refine (f0.out.callS (by repeat (first | exact Below.refl _ _ | apply bl_drew | apply bl_alloc)) (h1.out _ _)).mono ?_; rintro e w1 ⟨lv1, rfl, g⟩; have f1 := Lib.hid g; clear g))
  have e4 := Lib.hid (f1.out.collect rfl)
  go_loopw [4] (fun v wr => ∃ (k : Nat) (lv2 : Value) (s2 : Ps) (ao : Option Addr) (cp : Nat) (ks : Kds), v = .slice ao ks.length cp ∧ EIn w (some w.heap.size) (w.heap.size + 1) P tv lv S s wr lv2 s2 (.slice ao ks.length cp) ks ∧ ks.length ≤ s2.at_ ∧ S.L.length ≤ s2.at_ + k ∧ Hid (stmts S.A st k (ks.map Prod.snd) s2 = (r1, r2))) (fun _ wr => S.L.length - atOf P wr)
  case atStart => exact ⟨S.A.length, lv1, s1, none, 0, [], rfl, e4.out, by simp, by rw [Src.len]; omega, hR'⟩
  case round =>
   obtain ⟨k, lv4, s4, ao, cp, ks, rfl, e5', hkl, hk, hmo⟩ := hrel
   have e5 := Lib.hid e5'
   have hlt := e5'.pin.sok.lt
   have hmon := e5'.mono
   have hato := Lib.hid e5'.pin.atOf
   clear e5'
   have hI := Lib.hid (fun (W : World) (lvq : Value) (q : PIn W P tv lvq S s4) (a : Nat) (ha : a = W.heap.size) => is_at q [(ByteArray.mk #[125])] _ rfl (n := 1) rfl (by omega) ha rfl)
   have hD := Lib.hid (fun (W : World) (lvq : Value) (q : PIn W P tv lvq S s4) => declares_walk q)
   have hE := Lib.hid (fun (W : World) (lvq : Value) (q : PIn W P tv lvq S s4) => end_walk q)
   have hgo := Lib.hid (fun (h0 : (isB S.A [(ByteArray.mk #[125])] s4 || declares S.A s4 || atEnd S.A s4) = false) (k' : Nat) (e : k = k' + 1) => (stmts_go h0 (k := k') (l := ks.map Prod.snd) (st := st)).symm.trans (e ▸ hmo.out))
   have hstop := Lib.hid (fun (h0 : (isB S.A [(ByteArray.mk #[125])] s4 || declares S.A s4 || atEnd S.A s4) = true) => (stmts_stop h0 (k := k) (l := ks.map Prod.snd) (st := st)).symm.trans hmo.out)
   have hend := Lib.hid (fun (h0 : atEnd S.A s4 = false) (W : World) (lvq : Value) (q : PIn W P tv lvq S s4) => hst'.out W lvq s4 q (by omega) h0)
   have hb0 : ∃ b, isB S.A [(ByteArray.mk #[125])] s4 = b := ⟨_, rfl⟩
   obtain ⟨b0, hb0⟩ := hb0
   rw [hb0] at hgo hstop
   have hb0' := Lib.hid hb0
   clear hb0
   generalize declares S.A s4 = b1 at *
   generalize atEnd S.A s4 = b2 at *
   have hcase : (b0 = true) ∨ (b0 = false ∧ b1 = true) ∨ (b0 = false ∧ b1 = false ∧ b2 = true) ∨ (b0 = false ∧ b1 = false ∧ b2 = false) := by
    cases b0 <;> cases b1 <;> cases b2 <;> simp
   rcases hcase with rfl | ⟨rfl, rfl⟩ | ⟨rfl, rfl, rfl⟩ | ⟨rfl, rfl, rfl⟩
   case' inr.inr.inr =>
    obtain ⟨k', rfl⟩ : ∃ k', k = k' + 1 := ⟨k - 1, by omega⟩
    have hmo2 := Lib.hid (hgo.out rfl k' rfl)
    have hS := Lib.hid (hend.out rfl)
    clear hgo hstop hend
    generalize st s4 = k7 at *
    obtain ⟨kk7, s7⟩ := k7
    go_wp2_with (first
     | (at_builtin; refine wpList_app e9.out rfl (.tmp 28) (.tmp 31) rfl rfl rfl (by omega) ?_; intro g cap w10 e; have e10 := Lib.hid e; clear e)
     | (go_at_call 130; refine (e8.out.callNs (by repeat (first | exact Below.refl _ _ | apply bl_drew | apply bl_alloc)) (Nat.le_succ _) (hS.out _ _)).mono ?_; rintro e w9 ⟨lv9, nk9, nt9, na9, ne9, nao9, ncap9, nks9, rfl, g, hm9⟩; simp only at hm9; have e9 := Lib.hid g; clear g)
     | (go_at_call 28; refine (e7.out.callB (by repeat (first | exact Below.refl _ _ | apply bl_drew | apply bl_alloc)) (hE.out _ _)).mono ?_; rintro e w8 ⟨rfl, g⟩; have e8 := Lib.hid g; clear g)
     | (go_at_call 61; refine (e6.out.callB (by repeat (first | exact Below.refl _ _ | apply bl_drew | apply bl_alloc)) (hD.out _ _)).mono ?_; rintro e w7 ⟨rfl, g⟩; have e7 := Lib.hid g; clear g)
     | (go_at_call 117; refine (e5.out.callIs (by repeat (first | exact Below.refl _ _ | apply bl_drew | apply bl_alloc)) [(ByteArray.mk #[125])] false hb0'.out rfl (by decide) (by simp) rfl).mono ?_; rintro e w6 ⟨rfl, g⟩; have e6 := Lib.hid g; clear g))
    go_roundw
    case rel => exact ⟨k', lv9, s7, some ⟨g, 0, none⟩, cap, ks ++ [_], by simp, by simpa using e10.out, by simp; omega, by omega, by simpa using hmo2⟩
    case measure => rw [e10.out.pin.atOf, hato.out]; omega
   all_goals
    have hst := hstop.out rfl
    obtain ⟨rfl, rfl⟩ : ks.map Prod.snd = r1 ∧ s4 = r2 := by simpa using hst
    clear hst hgo hstop hend
    go_wp2_with (first
     | (go_at_call 63; refine (f10.out.callNode (by repeat (first | exact Below.refl _ _ | apply bl_drew | apply bl_alloc)) 25 s.at_ (Nat.le_refl _) ⟨#[]⟩).mono ?_; rintro e w11 ⟨rfl, g⟩; have f11 := Lib.hid g; clear g; obtain ⟨z0, z1, z2, z3, z4, z5⟩ := f11.out.fin.cells)
     | (go_at_call 67; (first | refine (e8.out.callS (by repeat (first | exact Below.refl _ _ | apply bl_drew | apply bl_alloc)) (h3.out _ _)).mono ?_ | refine (e7.out.callS (by repeat (first | exact Below.refl _ _ | apply bl_drew | apply bl_alloc)) (h3.out _ _)).mono ?_ | refine (e6.out.callS (by repeat (first | exact Below.refl _ _ | apply bl_drew | apply bl_alloc)) (h3.out _ _)).mono ?_); rintro e w10 ⟨lv10, rfl, g⟩; have f10 := Lib.hid (g.toRow rfl); clear g)
     | (go_at_call 28; refine (e7.out.callB (by repeat (first | exact Below.refl _ _ | apply bl_drew | apply bl_alloc)) (hE.out _ _)).mono ?_; rintro e w8 ⟨rfl, g⟩; have e8 := Lib.hid g; clear g)
     | (go_at_call 61; refine (e6.out.callB (by repeat (first | exact Below.refl _ _ | apply bl_drew | apply bl_alloc)) (hD.out _ _)).mono ?_; rintro e w7 ⟨rfl, g⟩; have e7 := Lib.hid g; clear g)
     | (go_at_call 117; refine (e5.out.callIs (by repeat (first | exact Below.refl _ _ | apply bl_drew | apply bl_alloc)) [(ByteArray.mk #[125])] _ hb0'.out rfl (by decide) (by simp) rfl).mono ?_; rintro e w6 ⟨rfl, g⟩; have e6 := Lib.hid g; clear g))
    refine bodyPost_ret (v := .agg #[.int .i64 25, .string ⟨#[]⟩, .int .i64 (S.at_ s.at_ s9.at_), .int .i64 (S.last s9.at_), .slice ao ks.length cp]) (by simp [results, Tryz.results74, go_sem, z0, z1, z2, z3, z4] <;> rfl) rfl ?_
    rw [hm.out]
    exact f11.out.end_ (kept5 _ _ _ _ _ _ _) 25 s.at_ ⟨#[]⟩
end Go.Proofs.YthggagophcnkfaaGreatDoor.px
namespace Go.Proofs.YthggagophcnkfaaGreatDoor.px
open Go.RowKit Go.Proofs.YthggagophcnkfaaGreatDoor.agg Go.Proofs.YthggagophcnkfaaGreatDoor.sx
set_option linter.unusedSimpArgs false
set_option linter.unusedVariables false
theorem FIn.rebase {w0 : World} {Z : Nat} {P : Nat} {tv lv0 : Value} {S : Src} {s0 s1 : Ps} {w : World} {lv : Value} {s : Ps} {ks : Kds} {bs : Bxs} (h : FIn w0 Z P tv lv0 S s0 w lv s ks bs) (hs : s1.at_ ≤ s.at_) : FIn w0 Z P tv lv0 S s1 w lv s ks bs :=
 ⟨h.pin, h.kept, h.fresh, h.box, h.hZ, h.far, hs, h.tlt, h.kids, h.boxes, h.dist⟩
theorem list59 : (ByteArray.mk #[59]).toList = [59] := by decide +kernel
section
variable {A : List Tk} {stop : Ps → Bool} {k : Nat} {s : Ps}
theorem skip_stop (h : stop s = true) : skipTo A stop k s = s := by
 cases k with
 | zero => rfl
 | succ k => rw [skipTo, if_pos h]
theorem skip_semi (h : stop s = false) (h2 : (next A s).1 = (ByteArray.mk #[59])) : skipTo A stop (k + 1) s = (next A s).2 := by
 rw [skipTo, if_neg (by rw [h]; simp), if_pos h2]
theorem skip_go (h : stop s = false) (h2 : (next A s).1 ≠ (ByteArray.mk #[59])) : skipTo A stop (k + 1) s = skipTo A stop k (next A s).2 := by
 rw [skipTo, if_neg (by rw [h]; simp), if_neg h2]
end
def stopS (A : List Tk) (s : Ps) : Bool := atEnd A s || isB A [(ByteArray.mk #[125])] s || declares A s || states A s
set_option maxRecDepth 100000 in
set_option maxHeartbeats 4000000 in
theorem skipped_walk {w : World} {P : Nat} {tv lv : Value} {S : Src} {s : Ps} (h : PIn w P tv lv S s) (hend : atEnd S.A s = false) :
 Calls Tryz.prog 155 #[.pointer (some ⟨P, 0, none⟩)] w (NEnd w P tv lv S { s with at_ := s.at_ + 1 } (skipped S.A s)) := by
 have f0 := Lib.hid (FIn.start h)
 have cat := h.cell.2.2.1
 have hP := lt_of_block h.box
 have hk1 : Hid ((tok S.A (report 6 ⟨#[]⟩ s)).kind ≠ 0) := atEnd_kind hend
 have hm : Hid (skipped S.A s = (node 0 s.at_ ⟨#[]⟩ [] (if (next S.A (report 6 ⟨#[]⟩ s)).1 = (ByteArray.mk #[59]) then (next S.A (report 6 ⟨#[]⟩ s)).2 else skipTo S.A (stopS S.A) S.A.length (next S.A (report 6 ⟨#[]⟩ s)).2), (if (next S.A (report 6 ⟨#[]⟩ s)).1 = (ByteArray.mk #[59]) then (next S.A (report 6 ⟨#[]⟩ s)).2 else skipTo S.A (stopS S.A) S.A.length (next S.A (report 6 ⟨#[]⟩ s)).2))) := rfl
 generalize skipped S.A s = m at *
 have h1 := Lib.hid (fun (W : World) (lvq : Value) (q : PIn W P tv lvq S s) => report_walk q 6 ⟨#[]⟩ ⟨by decide, by decide, by simp⟩)
 have hs1 : (report 6 ⟨#[]⟩ s).at_ = s.at_ := rfl
 generalize report 6 ⟨#[]⟩ s = s1 at *
 have h2 := Lib.hid (fun (W : World) (lvq : Value) (q : PIn W P tv lvq S s1) => next_walk q hk1.out)
 have hs2 : Hid ((next S.A s1).2.at_ = s.at_ + 1) := by rw [← hs1]; exact rfl
 generalize (next S.A s1).1 = x2 at *
 generalize (next S.A s1).2 = s2 at *
 clear h hend
 by_cases hx : x2 = (ByteArray.mk #[59])
 ·subst hx
  rw [if_pos rfl] at hm
  go_enter Tryz.func155, Tryz.ntmps155
  go_wp2_with (first
   | (go_at_call 63; refine (f2.out.callLeaf (by repeat (first | exact Below.refl _ _ | apply bl_drew | apply bl_alloc)) 0 s.at_ (Nat.le_succ _) ⟨#[]⟩).mono ?_; rintro e w3 ⟨rfl, g⟩; have f3 := Lib.hid g; clear g; obtain ⟨z0, z1, z2, z3, z4, z5⟩ := f3.out.fin.cells)
   | (go_at_call 62; refine (f1.out.callS (by repeat (first | exact Below.refl _ _ | apply bl_drew | apply bl_alloc)) (h2.out _ _)).mono ?_; rintro e w2 ⟨lv2, rfl, g⟩; have f2 := Lib.hid (g.rebase (s1 := { s with at_ := s.at_ + 1 }) (by have := hs2.out; simp only; omega)); clear g)
   | (go_at_call 44; refine (f0.out.callS (by repeat (first | exact Below.refl _ _ | apply bl_drew | apply bl_alloc)) (h1.out _ _)).mono ?_; rintro e w1 ⟨lv1, rfl, g⟩; have f1 := Lib.hid g; clear g))
  refine bodyPost_ret (v := .agg #[.int .i64 0, .string ⟨#[]⟩, .int .i64 (S.at_ s.at_ s2.at_), .int .i64 (S.last s2.at_), .slice none 0 0]) (by simp [results, Tryz.results155, go_sem, z0, z1, z2, z3, z4] <;> rfl) rfl ?_
  rw [hm.out]
  exact f3.out.end_ (kept5 _ _ _ _ _ _ _) 0 s.at_ ⟨#[]⟩
 ·rw [if_neg hx] at hm
  have e1 := str_eq hx
  have e2 := str_ne hx
  rw [list59] at e1 e2
  obtain ⟨R, hR⟩ : ∃ R, skipTo S.A (stopS S.A) S.A.length s2 = R := ⟨_, rfl⟩
  rw [hR] at hm
  have hR' := Lib.hid hR
  clear hx hR
  go_enter Tryz.func155, Tryz.ntmps155
  go_wp2_with (first
   | (go_at_call 62; refine (f1.out.callS (by repeat (first | exact Below.refl _ _ | apply bl_drew | apply bl_alloc)) (h2.out _ _)).mono ?_; rintro e w2 ⟨lv2, rfl, g⟩; have f2 := Lib.hid (g.rebase (s1 := { s with at_ := s.at_ + 1 }) (by have := hs2.out; simp only; omega)); clear g)
   | (go_at_call 44; refine (f0.out.callS (by repeat (first | exact Below.refl _ _ | apply bl_drew | apply bl_alloc)) (h1.out _ _)).mono ?_; rintro e w1 ⟨lv1, rfl, g⟩; have f1 := Lib.hid g; clear g))
  go_loopw [13] (fun _ wr => ∃ (k : Nat) (lv2 : Value) (s2 : Ps), FIn w w.heap.size P tv lv S { s with at_ := s.at_ + 1 } wr lv2 s2 [] [] ∧ S.L.length ≤ s2.at_ + k ∧ Hid (skipTo S.A (stopS S.A) k s2 = R)) (fun _ wr => S.L.length - atOf P wr)
  case atStart => exact ⟨S.A.length, lv2, s2, f2.out, by rw [Src.len]; omega, hR'⟩
  case round =>
   obtain ⟨k, lv4, s4, e5', hk, hmo⟩ := hrel
   have f5 := Lib.hid e5'
   have hlt := e5'.pin.sok.lt
   have hato := Lib.hid e5'.pin.atOf
   clear e5'
   have hst : Hid (stopS S.A s4 = (atEnd S.A s4 || isB S.A [(ByteArray.mk #[125])] s4 || declares S.A s4 || states S.A s4)) := rfl
   have hD := Lib.hid (fun (W : World) (lvq : Value) (q : PIn W P tv lvq S s4) => declares_walk q)
   have hE := Lib.hid (fun (W : World) (lvq : Value) (q : PIn W P tv lvq S s4) => end_walk q)
   have hT := Lib.hid (fun (W : World) (lvq : Value) (q : PIn W P tv lvq S s4) => states_walk q)
   have hN := Lib.hid (fun (he : atEnd S.A s4 = false) (W : World) (lvq : Value) (q : PIn W P tv lvq S s4) => next_walk q (atEnd_kind he))
   obtain ⟨b1, hb1⟩ : ∃ b, isB S.A [(ByteArray.mk #[125])] s4 = b := ⟨_, rfl⟩
   rw [hb1] at hst
   have hb1' := Lib.hid hb1
   have hs6 : Hid ((next S.A s4).2.at_ = s4.at_ + 1) := rfl
   have hstop := Lib.hid (fun (h0 : stopS S.A s4 = true) => (skip_stop h0 (k := k)).symm.trans hmo.out)
   have hsemi := Lib.hid (fun (h0 : stopS S.A s4 = false) (k' : Nat) (e : k = k' + 1) (h2 : (next S.A s4).1 = (ByteArray.mk #[59])) => (skip_semi h0 h2 (k := k')).symm.trans (e ▸ hmo.out))
   have hgo := Lib.hid (fun (h0 : stopS S.A s4 = false) (k' : Nat) (e : k = k' + 1) (h2 : (next S.A s4).1 ≠ (ByteArray.mk #[59])) => (skip_go h0 h2 (k := k')).symm.trans (e ▸ hmo.out))
   clear hb1
   generalize stopS S.A s4 = bs at *
   generalize declares S.A s4 = b2 at *
   generalize states S.A s4 = b3 at *
   generalize atEnd S.A s4 = b0 at *
   generalize (next S.A s4).1 = x6 at *
   generalize (next S.A s4).2 = s6 at *
   have hcase : (b0 = true) ∨ (b0 = false ∧ b1 = true) ∨ (b0 = false ∧ b1 = false ∧ b2 = true) ∨ (b0 = false ∧ b1 = false ∧ b2 = false ∧ b3 = true) ∨ (b0 = false ∧ b1 = false ∧ b2 = false ∧ b3 = false) := by
    cases b0 <;> cases b1 <;> cases b2 <;> cases b3 <;> simp
   rcases hcase with rfl | ⟨rfl, rfl⟩ | ⟨rfl, rfl, rfl⟩ | ⟨rfl, rfl, rfl, rfl⟩ | ⟨rfl, rfl, rfl, rfl⟩
   case' inr.inr.inr.inr =>
    obtain ⟨k', rfl⟩ : ∃ k', k = k' + 1 := ⟨k - 1, by omega⟩
    have hN2 := Lib.hid (hN.out rfl)
    have hbs : bs = false := hst.out
    have hsemi2 := Lib.hid (hsemi.out hbs k' rfl)
    have hgo2 := Lib.hid (hgo.out hbs k' rfl)
    clear hstop hsemi hgo hN hst hbs
    by_cases hx : x6 = (ByteArray.mk #[59])
    ·subst hx
     have hRR := hsemi2.out rfl
     subst hRR
     clear hsemi2 hgo2
     go_wp2_with (first
      | (go_at_call 63; refine (f10.out.callLeaf (by repeat (first | exact Below.refl _ _ | apply bl_drew | apply bl_alloc)) 0 s.at_ (Nat.le_succ _) ⟨#[]⟩).mono ?_; rintro e w12 ⟨rfl, g⟩; have f12 := Lib.hid g; clear g; obtain ⟨z0, z1, z2, z3, z4, z5⟩ := f12.out.fin.cells)
      | (go_at_call 62; refine (f9.out.callS (by repeat (first | exact Below.refl _ _ | apply bl_drew | apply bl_alloc)) (hN2.out _ _)).mono ?_; rintro e w10 ⟨lv10, rfl, g⟩; have f10 := Lib.hid g; clear g)
      | (go_at_call 154; refine (f8.out.callB (by repeat (first | exact Below.refl _ _ | apply bl_drew | apply bl_alloc)) (hT.out _ _)).mono ?_; rintro e w9 ⟨rfl, g⟩; have f9 := Lib.hid g; clear g)
      | (go_at_call 61; refine (f7.out.callB (by repeat (first | exact Below.refl _ _ | apply bl_drew | apply bl_alloc)) (hD.out _ _)).mono ?_; rintro e w8 ⟨rfl, g⟩; have f8 := Lib.hid g; clear g)
      | (go_at_call 117; refine (f6.out.callIs (by repeat (first | exact Below.refl _ _ | apply bl_drew | apply bl_alloc)) [(ByteArray.mk #[125])] _ hb1'.out rfl (by decide) (by simp) rfl).mono ?_; rintro e w7 ⟨rfl, g⟩; have f7 := Lib.hid g; clear g)
      | (go_at_call 28; refine (f5.out.callB (by repeat (first | exact Below.refl _ _ | apply bl_drew | apply bl_alloc)) (hE.out _ _)).mono ?_; rintro e w6 ⟨rfl, g⟩; have f6 := Lib.hid g; clear g))
     refine bodyPost_ret (v := .agg #[.int .i64 0, .string ⟨#[]⟩, .int .i64 (S.at_ s.at_ s6.at_), .int .i64 (S.last s6.at_), .slice none 0 0]) (by simp [results, Tryz.results155, go_sem, z0, z1, z2, z3, z4] <;> rfl) rfl ?_
     rw [hm.out]
     exact f12.out.end_ (kept5 _ _ _ _ _ _ _) 0 s.at_ ⟨#[]⟩
    ·have e1 := str_eq hx
     have e2 := str_ne hx
     rw [list59] at e1 e2
     have hmo2 := Lib.hid (hgo2.out hx)
     clear hsemi2 hgo2 hx
     go_wp2_with (first
      | (go_at_call 62; refine (f9.out.callS (by repeat (first | exact Below.refl _ _ | apply bl_drew | apply bl_alloc)) (hN2.out _ _)).mono ?_; rintro e w10 ⟨lv10, rfl, g⟩; have f10 := Lib.hid g; clear g)
      | (go_at_call 154; refine (f8.out.callB (by repeat (first | exact Below.refl _ _ | apply bl_drew | apply bl_alloc)) (hT.out _ _)).mono ?_; rintro e w9 ⟨rfl, g⟩; have f9 := Lib.hid g; clear g)
      | (go_at_call 61; refine (f7.out.callB (by repeat (first | exact Below.refl _ _ | apply bl_drew | apply bl_alloc)) (hD.out _ _)).mono ?_; rintro e w8 ⟨rfl, g⟩; have f8 := Lib.hid g; clear g)
      | (go_at_call 117; refine (f6.out.callIs (by repeat (first | exact Below.refl _ _ | apply bl_drew | apply bl_alloc)) [(ByteArray.mk #[125])] _ hb1'.out rfl (by decide) (by simp) rfl).mono ?_; rintro e w7 ⟨rfl, g⟩; have f7 := Lib.hid g; clear g)
      | (go_at_call 28; refine (f5.out.callB (by repeat (first | exact Below.refl _ _ | apply bl_drew | apply bl_alloc)) (hE.out _ _)).mono ?_; rintro e w6 ⟨rfl, g⟩; have f6 := Lib.hid g; clear g))
     go_roundw
     case rel => exact ⟨k', lv10, s6, f10.out, by have := hs6.out; omega, hmo2⟩
     case measure => rw [f10.out.pin.atOf, hato.out]; have := hs6.out; omega
   all_goals
    have hbs : bs = true := hst.out
    have hRR := hstop.out hbs
    subst hRR
    clear hstop hsemi hgo hN hst hbs
    go_wp2_with (first
     | (go_at_call 63; (first | refine (f9.out.callLeaf (by repeat (first | exact Below.refl _ _ | apply bl_drew | apply bl_alloc)) 0 s.at_ (Nat.le_succ _) ⟨#[]⟩).mono ?_ | refine (f8.out.callLeaf (by repeat (first | exact Below.refl _ _ | apply bl_drew | apply bl_alloc)) 0 s.at_ (Nat.le_succ _) ⟨#[]⟩).mono ?_ | refine (f7.out.callLeaf (by repeat (first | exact Below.refl _ _ | apply bl_drew | apply bl_alloc)) 0 s.at_ (Nat.le_succ _) ⟨#[]⟩).mono ?_ | refine (f6.out.callLeaf (by repeat (first | exact Below.refl _ _ | apply bl_drew | apply bl_alloc)) 0 s.at_ (Nat.le_succ _) ⟨#[]⟩).mono ?_); rintro e w12 ⟨rfl, g⟩; have f12 := Lib.hid g; clear g; obtain ⟨z0, z1, z2, z3, z4, z5⟩ := f12.out.fin.cells)
     | (go_at_call 154; refine (f8.out.callB (by repeat (first | exact Below.refl _ _ | apply bl_drew | apply bl_alloc)) (hT.out _ _)).mono ?_; rintro e w9 ⟨rfl, g⟩; have f9 := Lib.hid g; clear g)
     | (go_at_call 61; refine (f7.out.callB (by repeat (first | exact Below.refl _ _ | apply bl_drew | apply bl_alloc)) (hD.out _ _)).mono ?_; rintro e w8 ⟨rfl, g⟩; have f8 := Lib.hid g; clear g)
     | (go_at_call 117; refine (f6.out.callIs (by repeat (first | exact Below.refl _ _ | apply bl_drew | apply bl_alloc)) [(ByteArray.mk #[125])] _ hb1'.out rfl (by decide) (by simp) rfl).mono ?_; rintro e w7 ⟨rfl, g⟩; have f7 := Lib.hid g; clear g)
     | (go_at_call 28; refine (f5.out.callB (by repeat (first | exact Below.refl _ _ | apply bl_drew | apply bl_alloc)) (hE.out _ _)).mono ?_; rintro e w6 ⟨rfl, g⟩; have f6 := Lib.hid g; clear g))
    refine bodyPost_ret (v := .agg #[.int .i64 0, .string ⟨#[]⟩, .int .i64 (S.at_ s.at_ s4.at_), .int .i64 (S.last s4.at_), .slice none 0 0]) (by simp [results, Tryz.results155, go_sem, z0, z1, z2, z3, z4] <;> rfl) rfl ?_
    rw [hm.out]
    exact f12.out.end_ (kept5 _ _ _ _ _ _ _) 0 s.at_ ⟨#[]⟩
end Go.Proofs.YthggagophcnkfaaGreatDoor.px
namespace Go.Proofs.YthggagophcnkfaaGreatDoor.px
open Go.RowKit Go.Proofs.YthggagophcnkfaaGreatDoor.agg Go.Proofs.YthggagophcnkfaaGreatDoor.sx
set_option linter.unusedSimpArgs false
set_option linter.unusedVariables false
theorem rangeAt_whole {w : World} {b : Nat} {C : Array Value} {t : TypeId} {fr : Nat × Nat} (hb : w.heap[b]? = some (.cells C t fr)) : w.rangeAt b 0 C.toList := fun j v hv => by
 rw [Nat.zero_add]
 simp only [World.cell?, hb]
 simpa using hv
theorem info_nds : (Tryz.prog.info? 25).map (·.size) = some 5 := by kernel_rfl
theorem next_is {w : World} {P : Nat} {tv lv : Value} {S : Src} {s : Ps} (h : PIn w P tv lv S s) (hk : (tok S.A s).kind ≠ 0) (x : ByteArray) (hx : (next S.A s).1 = x) :
 Calls Tryz.prog 62 #[.pointer (some ⟨P, 0, none⟩)] w (SEnd w P tv lv S s (.string x) (next S.A s).2) := by
 subst hx
 exact next_walk h hk
theorem states_b {w : World} {P : Nat} {tv lv : Value} {S : Src} {s : Ps} (h : PIn w P tv lv S s) {b : Bool} (hb : states S.A s = b) :
 Calls Tryz.prog 154 #[.pointer (some ⟨P, 0, none⟩)] w fun e w' => e = .returned (.bool b) ∧ Below w.heap.size w w' := by
 subst hb
 exact states_walk h
theorem declares_b {w : World} {P : Nat} {tv lv : Value} {S : Src} {s : Ps} (h : PIn w P tv lv S s) {b : Bool} (hb : declares S.A s = b) :
 Calls Tryz.prog 61 #[.pointer (some ⟨P, 0, none⟩)] w fun e w' => e = .returned (.bool b) ∧ Below w.heap.size w w' := by
 subst hb
 exact declares_walk h
section
variable {w0 : World} {Z : Nat} {P : Nat} {tv lv0 : Value} {S : Src} {s0 : Ps} {w w' : World} {lv lv' : Value} {s s' : Ps} {ks : Kds} {bs : Bxs} {W : World}
theorem FIn.toRow (h : FIn w0 Z P tv lv0 S s0 w lv s ks bs) {cs : Array Value} (hc : cs = ((ks.map Prod.fst).flatMap fun n => n.cells.toList).toArray) {a n : Nat} (ha : a = w.heap.size) (hn : n = ks.length) (hl : n ≤ 140737488355328) :
 FRow w0 Z P tv lv0 S s0 (w.alloc (.cells cs 25)) lv s ks bs (some ⟨a, 0, none⟩) n n := by
 have h1 := h.below ((Below.refl _ w).alloc (Nat.le_refl _) (.cells cs 25))
 refine ⟨h1, hn, ?_⟩
 subst ha
 refine kids_new w (ks.map Prod.fst) n (by simpa using hn) hl ⟨h.zlt, fun e => ?_, fun p hp e => ?_⟩ cs hc
 ·have := h.pin.lt _ e
  omega
 ·have := lt_of_block (h.boxes p hp).1
  omega
theorem FRow.send {ao : Option Addr} {n cap : Nat} (h : FRow w0 Z P tv lv0 S s0 w lv s ks bs ao n cap) (hp : PIn w' P tv lv' S s') (hk : Kept (pfoot P lv) w w') (hf : Fresh w lv lv') (hm : s.at_ ≤ s'.at_) : FRow w0 Z P tv lv0 S s0 w' lv' s' ks bs ao n cap :=
 ⟨h.fin.send hp hk hf hm, h.len, h.kv.same (fun b hb hq => hk.block b hb hq.2.1) hk.size (fun b hb hq => ⟨hq.1, pfoot_fresh hf hb hq.2.1, hq.2.2⟩)⟩
theorem FRow.callS {f : Nat} {args : Array Value} {v : Value} {ao : Option Addr} {n cap : Nat} (h : FRow w0 Z P tv lv0 S s0 w lv s ks bs ao n cap) (hb : Below w.heap.size w W) (c : PIn W P tv lv S s → Calls Tryz.prog f args W (SEnd W P tv lv S s v s')) :
 Calls Tryz.prog f args W fun e w' => ∃ lv', e = .returned v ∧ FRow w0 Z P tv lv0 S s0 w' lv' s' ks bs ao n cap :=
 have g := h.below hb
 (c g.fin.pin).mono fun _ _ ⟨lv', h1, h2, h3, h4, h5⟩ => ⟨lv', h1, g.send h2 h3 h4 h5⟩
theorem FIn.callRowS (h : FIn w0 Z P tv lv0 S s0 w lv s ks bs) {f : Nat} {args : Array Value} {v : Value} {cs : Array Value} (hc : cs = ((ks.map Prod.fst).flatMap fun n => n.cells.toList).toArray) (a n : Nat) (ha : a = w.heap.size) (hn : n = ks.length) (hl : n ≤ 140737488355328) (c : PIn (w.alloc (.cells cs 25)) P tv lv S s → Calls Tryz.prog f args (w.alloc (.cells cs 25)) (SEnd (w.alloc (.cells cs 25)) P tv lv S s v s')) :
 Calls Tryz.prog f args (w.alloc (.cells cs 25)) fun e w' => ∃ lv', e = .returned v ∧ FRow w0 Z P tv lv0 S s0 w' lv' s' ks bs (some ⟨a, 0, none⟩) n n :=
 (h.toRow hc ha hn hl).callS (Below.refl _ _) c
theorem FIn.callChD (h : FIn w0 Z P tv lv0 S s0 w lv s ks bs) {a m : Nat} (ha : a = w.heap.size) (ws : List ByteArray) (hm : m = ws.length) (hl : ws.length < 1000) (h0 : 0 < ws.length) (hne : ws[0] ≠ ⟨#[]⟩) {cs : Array Value} (hc : cs = (ws.map Value.string).toArray) :
 Calls Tryz.prog 69 #[.pointer (some ⟨P, 0, none⟩), .slice (some ⟨a, 0, none⟩) m m] ((w.alloc (.cells cs 9)).drew) fun e w' => ∃ lv' nk nt na ne nao ncap nks, e = .returned (.agg #[.int .i64 nk, .string nt, .int .i64 na, .int .i64 ne, .slice nao nks.length ncap]) ∧ FIn w0 Z P tv lv0 S s0 w' lv' (chosen S.A ws s).2 (ks ++ [(Nd.mk nk nt na ne (.slice nao nks.length ncap) nks, (chosen S.A ws s).1)]) bs := by
 subst ha hm hc
 have h1 := h.below ((Below.refl _ w).alloc (Nat.le_refl _) (.cells (ws.map Value.string).toArray 9)).drew
 refine h1.callN (Below.refl _ _) (fun q => chosen_walk q _ ws ?_ hl h0 hne)
 exact (strs_new w ws _ rfl).below (Below.refl _ _).drew
end
end Go.Proofs.YthggagophcnkfaaGreatDoor.px
