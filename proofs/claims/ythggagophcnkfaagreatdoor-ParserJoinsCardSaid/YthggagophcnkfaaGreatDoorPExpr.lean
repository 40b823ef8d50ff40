/- The walks of the parser's primary, negative, negation, product, difference, conjunction and expression, over their operands. -/
import Derived.Test.YthggagophcnkfaaGreatDoorPBin
namespace Go.Proofs.YthggagophcnkfaaGreatDoor.px
open Go.RowKit Go.Proofs.YthggagophcnkfaaGreatDoor.agg Go.Proofs.YthggagophcnkfaaGreatDoor.sx
set_option linter.unusedSimpArgs false
set_option linter.unusedVariables false

theorem enters_pexpression : ∀ args w, (callFunc 43 args).run Tryz.prog w = .ok (.enter 43 args) w := fun _ _ => by kernel_rfl
theorem enters_pconjunction : ∀ args w, (callFunc 95 args).run Tryz.prog w = .ok (.enter 95 args) w := fun _ _ => by kernel_rfl
theorem enters_pnegation : ∀ args w, (callFunc 141 args).run Tryz.prog w = .ok (.enter 141 args) w := fun _ _ => by kernel_rfl
theorem enters_pcomparison : ∀ args w, (callFunc 166 args).run Tryz.prog w = .ok (.enter 166 args) w := fun _ _ => by kernel_rfl
theorem enters_pdifference : ∀ args w, (callFunc 183 args).run Tryz.prog w = .ok (.enter 183 args) w := fun _ _ => by kernel_rfl
theorem enters_pproduct : ∀ args w, (callFunc 191 args).run Tryz.prog w = .ok (.enter 191 args) w := fun _ _ => by kernel_rfl
theorem enters_pnegative : ∀ args w, (callFunc 197 args).run Tryz.prog w = .ok (.enter 197 args) w := fun _ _ => by kernel_rfl
theorem enters_pprimary : ∀ args w, (callFunc 199 args).run Tryz.prog w = .ok (.enter 199 args) w := fun _ _ => by kernel_rfl
set_option maxRecDepth 100000 in
set_option maxHeartbeats 2000000 in
theorem primary_walk_1 {w : World} {P : Nat} {tv lv : Value} {S : Src} {s : Ps} (h : PIn w P tv lv S s) (ex : M PT) (n : Nat) (hE : FnM P tv S 43 ex n) (hn : S.L.length < s.at_ + (n + 1)) (c1 : Hid ((tok S.A s).kind = 3)) :
    Calls Tryz.prog 199 #[.pointer (some ⟨P, 0, none⟩)] w (NEnd w P tv lv S s (primary S.A ex s)) := by
  have f0 := Lib.hid (FIn.start h)
  have hP := lt_of_block h.box
  have hE2 := Lib.hid hE.2
  have hm0 : primary S.A ex s = ((number S.A s).1, (number S.A s).2) := by
    unfold primary
    simp only [c1.out, if_true, if_false, Bool.false_eq_true, Bool.true_eq_false, reduceIte, Nat.reduceEqDiff]
  have hm := Lib.hid hm0
  clear hm0
  generalize primary S.A ex s = m at *
  have h1 := Lib.hid (fun (W : World) (lvq : Value) (q : PIn W P tv lvq S s) => token_k q c1.out)
  have h2 := Lib.hid (fun (W : World) (lvq : Value) (q : PIn W P tv lvq S s) => number_walk q)
  generalize number S.A s = k2 at *
  obtain ⟨kk2, s2⟩ := k2
  clear h
  go_enter Tryz.func199, Tryz.ntmps199
  go_wp2_with (first
    | (go_at_call 65; refine (f1.out.callN (by repeat (first | exact Below.refl _ _ | apply bl_drew | apply bl_alloc)) (h2.out _ _)).mono ?_; rintro e w2 ⟨lv2, nk2, nt2, na2, ne2, nao2, ncap2, nks2, rfl, g⟩; have f2 := Lib.hid g; clear g; obtain ⟨z0, z1, z2, z3, z4, z5⟩ := f2.out.cells)
    | (go_at_call 60; refine (f0.out.callB (by repeat (first | exact Below.refl _ _ | apply bl_drew | apply bl_alloc)) (h1.out _ _)).mono ?_; rintro e w1 ⟨rfl, g⟩; have f1 := Lib.hid g; clear g))
  refine bodyPost_ret (v := .agg #[.int .i64 nk2, .string nt2, .int .i64 na2, .int .i64 ne2, .slice nao2 nks2.length ncap2]) (by simp [results, Tryz.results199, go_sem, z0, z1, z2, z3, z4] <;> rfl) rfl ?_
  rw [hm.out]
  exact f2.out.pass (kept5 _ _ _ _ _ _ _)
set_option maxRecDepth 100000 in
set_option maxHeartbeats 2000000 in
theorem primary_walk_2 {w : World} {P : Nat} {tv lv : Value} {S : Src} {s : Ps} (h : PIn w P tv lv S s) (ex : M PT) (n : Nat) (hE : FnM P tv S 43 ex n) (hn : S.L.length < s.at_ + (n + 1)) (c1 : Hid (¬ (tok S.A s).kind = 3)) (c2 : Hid ((tok S.A s).kind = 1)) :
    Calls Tryz.prog 199 #[.pointer (some ⟨P, 0, none⟩)] w (NEnd w P tv lv S s (primary S.A ex s)) := by
  have f0 := Lib.hid (FIn.start h)
  have hP := lt_of_block h.box
  have hE2 := Lib.hid hE.2
  have hm0 : primary S.A ex s = ((named S.A s).1, (named S.A s).2) := by
    unfold primary
    simp only [c1.out, c2.out, if_true, if_false, Bool.false_eq_true, Bool.true_eq_false, reduceIte, Nat.reduceEqDiff]
  have hm := Lib.hid hm0
  clear hm0
  have nc1 : (((tok S.A s).kind : Int) == 3) = false := by have := c1.out; simp; omega
  generalize primary S.A ex s = m at *
  have h1 := Lib.hid (fun (W : World) (lvq : Value) (q : PIn W P tv lvq S s) => token_lit q)
  have h2 := Lib.hid (fun (W : World) (lvq : Value) (q : PIn W P tv lvq S s) => token_k q c2.out)
  have h3 := Lib.hid (fun (W : World) (lvq : Value) (q : PIn W P tv lvq S s) => named_walk q)
  generalize named S.A s = k3 at *
  obtain ⟨kk3, s3⟩ := k3
  clear h
  go_enter Tryz.func199, Tryz.ntmps199
  go_wp2_with (first
    | (go_at_call 126; refine (f2.out.callN (by repeat (first | exact Below.refl _ _ | apply bl_drew | apply bl_alloc)) (h3.out _ _)).mono ?_; rintro e w3 ⟨lv3, nk3, nt3, na3, ne3, nao3, ncap3, nks3, rfl, g⟩; have f3 := Lib.hid g; clear g; obtain ⟨z0, z1, z2, z3, z4, z5⟩ := f3.out.cells)
    | (go_at_call 60; refine (f1.out.callB (by repeat (first | exact Below.refl _ _ | apply bl_drew | apply bl_alloc)) (h2.out _ _)).mono ?_; rintro e w2 ⟨rfl, g⟩; have f2 := Lib.hid g; clear g)
    | (go_at_call 60; refine (f0.out.callB (by repeat (first | exact Below.refl _ _ | apply bl_drew | apply bl_alloc)) (h1.out _ _)).mono ?_; rintro e w1 ⟨rfl, g⟩; have f1 := Lib.hid g; clear g))
  refine bodyPost_ret (v := .agg #[.int .i64 nk3, .string nt3, .int .i64 na3, .int .i64 ne3, .slice nao3 nks3.length ncap3]) (by simp [results, Tryz.results199, go_sem, z0, z1, z2, z3, z4] <;> rfl) rfl ?_
  rw [hm.out]
  exact f3.out.pass (kept5 _ _ _ _ _ _ _)
set_option maxRecDepth 100000 in
set_option maxHeartbeats 2000000 in
theorem primary_walk_3 {w : World} {P : Nat} {tv lv : Value} {S : Src} {s : Ps} (h : PIn w P tv lv S s) (ex : M PT) (n : Nat) (hE : FnM P tv S 43 ex n) (hn : S.L.length < s.at_ + (n + 1)) (c1 : Hid (¬ (tok S.A s).kind = 3)) (c2 : Hid (¬ (tok S.A s).kind = 1)) (c3 : Hid (isB S.A [(ByteArray.mk #[40])] s = true)) :
    Calls Tryz.prog 199 #[.pointer (some ⟨P, 0, none⟩)] w (NEnd w P tv lv S s (primary S.A ex s)) := by
  have f0 := Lib.hid (FIn.start h)
  have hP := lt_of_block h.box
  have hE2 := Lib.hid hE.2
  have hm0 : primary S.A ex s = ((ex (next S.A s).2).1, (demand S.A (ByteArray.mk #[41]) (ex (next S.A s).2).2).2) := by
    unfold primary
    simp only [c1.out, c2.out, c3.out, if_true, if_false, Bool.false_eq_true, Bool.true_eq_false, reduceIte, Nat.reduceEqDiff]
  have hm := Lib.hid hm0
  clear hm0
  have nc1 : (((tok S.A s).kind : Int) == 3) = false := by have := c1.out; simp; omega
  have nc2 : (((tok S.A s).kind : Int) == 1) = false := by have := c2.out; simp; omega
  generalize primary S.A ex s = m at *
  have h1 := Lib.hid (fun (W : World) (lvq : Value) (q : PIn W P tv lvq S s) => token_lit q)
  have h2 := Lib.hid (fun (W : World) (lvq : Value) (q : PIn W P tv lvq S s) => token_lit q)
  have hq1 : S.L.length < (next S.A s).2.at_ + n := by show _ < s.at_ + 1 + n; omega
  have h3 := Lib.hid (fun (W : World) (lvq : Value) (q : PIn W P tv lvq S s) => opt_yes q (ByteArray.mk #[40]) c3.out)
  generalize (next S.A s).2 = s3 at *
  have h4 := Lib.hid (fun (W : World) (lvq : Value) (q : PIn W P tv lvq S s3) => hE2.out _ _ _ q hq1)
  generalize ex s3 = k4 at *
  obtain ⟨kk4, s4⟩ := k4
  have h5 := Lib.hid (fun (W : World) (lvq : Value) (q : PIn W P tv lvq S s4) => demand_walk q (ByteArray.mk #[41]) (by decide))
  generalize (demand S.A (ByteArray.mk #[41]) s4).1 = x5 at *
  generalize (demand S.A (ByteArray.mk #[41]) s4).2 = s5 at *
  clear h
  go_enter Tryz.func199, Tryz.ntmps199
  go_wp2_with (first
    | (go_at_call 67; refine ((f4.out.box1 nks4 rfl).callS (by repeat (first | exact Below.refl _ _ | apply bl_drew | apply bl_alloc)) (h5.out _ _)).mono ?_; rintro e w5 ⟨lv5, rfl, g⟩; have f5 := Lib.hid g; clear g; obtain ⟨y00, y01, y02, y03, y04, y05, y06⟩ := f5.out.bx 0 rfl; obtain ⟨z0, z1, z2, z3, z4, z5⟩ := f5.out.cells)
    | (go_at_call 43; refine (f3.out.callN (by repeat (first | exact Below.refl _ _ | apply bl_drew | apply bl_alloc)) (h4.out _ _)).mono ?_; rintro e w4 ⟨lv4, nk4, nt4, na4, ne4, nao4, ncap4, nks4, rfl, g⟩; have f4 := Lib.hid g; clear g)
    | (go_at_call 123; refine (f2.out.callS (by repeat (first | exact Below.refl _ _ | apply bl_drew | apply bl_alloc)) (h3.out _ _)).mono ?_; rintro e w3 ⟨lv3, rfl, g⟩; have f3 := Lib.hid g; clear g)
    | (go_at_call 60; refine (f1.out.callB (by repeat (first | exact Below.refl _ _ | apply bl_drew | apply bl_alloc)) (h2.out _ _)).mono ?_; rintro e w2 ⟨rfl, g⟩; have f2 := Lib.hid g; clear g)
    | (go_at_call 60; refine (f0.out.callB (by repeat (first | exact Below.refl _ _ | apply bl_drew | apply bl_alloc)) (h1.out _ _)).mono ?_; rintro e w1 ⟨rfl, g⟩; have f1 := Lib.hid g; clear g))
  refine bodyPost_ret (v := .agg #[.int .i64 nk4, .string nt4, .int .i64 na4, .int .i64 ne4, .slice nao4 nks4.length ncap4]) (by simp [results, Tryz.results199, go_sem, z0, z1, z2, z3, z4] <;> rfl) rfl ?_
  rw [hm.out]
  exact f5.out.pass (kept5 _ _ _ _ _ _ _)
set_option maxRecDepth 100000 in
set_option maxHeartbeats 2000000 in
theorem primary_walk_4 {w : World} {P : Nat} {tv lv : Value} {S : Src} {s : Ps} (h : PIn w P tv lv S s) (ex : M PT) (n : Nat) (hE : FnM P tv S 43 ex n) (hn : S.L.length < s.at_ + (n + 1)) (c1 : Hid (¬ (tok S.A s).kind = 3)) (c2 : Hid (¬ (tok S.A s).kind = 1)) (c3 : Hid (isB S.A [(ByteArray.mk #[40])] s = false)) :
    Calls Tryz.prog 199 #[.pointer (some ⟨P, 0, none⟩)] w (NEnd w P tv lv S s (primary S.A ex s)) := by
  have f0 := Lib.hid (FIn.start h)
  have hP := lt_of_block h.box
  have hE2 := Lib.hid hE.2
  have hm0 : primary S.A ex s = ((missing 0 (report 5 ⟨#[]⟩ s)), (report 5 ⟨#[]⟩ s)) := by
    unfold primary
    simp only [c1.out, c2.out, c3.out, if_true, if_false, Bool.false_eq_true, Bool.true_eq_false, reduceIte, Nat.reduceEqDiff]
  have hm := Lib.hid hm0
  clear hm0
  have nc1 : (((tok S.A s).kind : Int) == 3) = false := by have := c1.out; simp; omega
  have nc2 : (((tok S.A s).kind : Int) == 1) = false := by have := c2.out; simp; omega
  generalize primary S.A ex s = m at *
  have h1 := Lib.hid (fun (W : World) (lvq : Value) (q : PIn W P tv lvq S s) => token_lit q)
  have h2 := Lib.hid (fun (W : World) (lvq : Value) (q : PIn W P tv lvq S s) => token_lit q)
  have h3 := Lib.hid (fun (W : World) (lvq : Value) (q : PIn W P tv lvq S s) => opt_no q (ByteArray.mk #[40]) c3.out)
  have h4 := Lib.hid (fun (W : World) (lvq : Value) (q : PIn W P tv lvq S s) => report_walk q 5 ⟨#[]⟩ ⟨by decide, by decide, by simp⟩)
  generalize report 5 ⟨#[]⟩ s = s4 at *
  have h5 := Lib.hid (fun (W : World) (lvq : Value) (q : PIn W P tv lvq S s4) => missing_walk q 0)
  clear h
  go_enter Tryz.func199, Tryz.ntmps199
  go_wp2_with (first
    | (go_at_call 122; refine (f4.out.callN (by repeat (first | exact Below.refl _ _ | apply bl_drew | apply bl_alloc)) (h5.out _ _)).mono ?_; rintro e w5 ⟨lv5, nk5, nt5, na5, ne5, nao5, ncap5, nks5, rfl, g⟩; have f5 := Lib.hid g; clear g; obtain ⟨z0, z1, z2, z3, z4, z5⟩ := f5.out.cells)
    | (go_at_call 44; refine (f3.out.callS (by repeat (first | exact Below.refl _ _ | apply bl_drew | apply bl_alloc)) (h4.out _ _)).mono ?_; rintro e w4 ⟨lv4, rfl, g⟩; have f4 := Lib.hid g; clear g)
    | (go_at_call 123; refine (f2.out.callS (by repeat (first | exact Below.refl _ _ | apply bl_drew | apply bl_alloc)) (h3.out _ _)).mono ?_; rintro e w3 ⟨lv3, rfl, g⟩; have f3 := Lib.hid g; clear g)
    | (go_at_call 60; refine (f1.out.callB (by repeat (first | exact Below.refl _ _ | apply bl_drew | apply bl_alloc)) (h2.out _ _)).mono ?_; rintro e w2 ⟨rfl, g⟩; have f2 := Lib.hid g; clear g)
    | (go_at_call 60; refine (f0.out.callB (by repeat (first | exact Below.refl _ _ | apply bl_drew | apply bl_alloc)) (h1.out _ _)).mono ?_; rintro e w1 ⟨rfl, g⟩; have f1 := Lib.hid g; clear g))
  refine bodyPost_ret (v := .agg #[.int .i64 nk5, .string nt5, .int .i64 na5, .int .i64 ne5, .slice nao5 nks5.length ncap5]) (by simp [results, Tryz.results199, go_sem, z0, z1, z2, z3, z4] <;> rfl) rfl ?_
  rw [hm.out]
  exact f5.out.pass (kept5 _ _ _ _ _ _ _)
theorem primary_walk {w : World} {P : Nat} {tv lv : Value} {S : Src} {s : Ps} (h : PIn w P tv lv S s) (ex : M PT) (n : Nat) (hE : FnM P tv S 43 ex n) (hn : S.L.length < s.at_ + (n + 1)) :
    Calls Tryz.prog 199 #[.pointer (some ⟨P, 0, none⟩)] w (NEnd w P tv lv S s (primary S.A ex s)) := by
  by_cases q1 : (tok S.A s).kind = 3
  · skip
    exact primary_walk_1 h ex n hE hn (Lib.hid q1)
  · skip
    by_cases q2 : (tok S.A s).kind = 1
    · skip
      exact primary_walk_2 h ex n hE hn (Lib.hid q1) (Lib.hid q2)
    · skip
      cases q3 : isB S.A [(ByteArray.mk #[40])] s with
      | true =>
        exact primary_walk_3 h ex n hE hn (Lib.hid q1) (Lib.hid q2) (Lib.hid q3)
      | false =>
        exact primary_walk_4 h ex n hE hn (Lib.hid q1) (Lib.hid q2) (Lib.hid q3)
theorem fn_primary {P : Nat} {tv : Value} {S : Src} {ex : M PT} {n : Nat} (hE : FnM P tv S 43 ex n) : FnM P tv S 199 (primary S.A ex) (n + 1) := ⟨enters_pprimary, fun _ _ _ q hn => primary_walk q ex n hE hn⟩
/-- An operator in front, or none. -/
def pre1 (A : List Tk) (w : ByteArray) (f base : M PT) : M PT := fun s => if isB A [w] s then unary A f s else base s
theorem pre_zero {A : List Tk} {w : ByteArray} {base : M PT} {s : Ps} : pre A w base 0 s = base s := rfl
theorem pre_succ {A : List Tk} {w : ByteArray} {base : M PT} {k : Nat} {s : Ps} : pre A w base (k + 1) s = pre1 A w (pre A w base k) base s := rfl
set_option maxRecDepth 100000 in
set_option maxHeartbeats 2000000 in
theorem negative_walk_1 {w : World} {P : Nat} {tv lv : Value} {S : Src} {s : Ps} (h : PIn w P tv lv S s) (f : M PT) (n m : Nat) (hf : FnM P tv S 197 f n) (hn : S.L.length < s.at_ + 1 + n) (base : M PT) (hb : FnM P tv S 199 base m) (hn2 : S.L.length < s.at_ + m) (c1 : Hid (isB S.A [(ByteArray.mk #[45])] s = true)) :
    Calls Tryz.prog 197 #[.pointer (some ⟨P, 0, none⟩)] w (NEnd w P tv lv S s (pre1 S.A (ByteArray.mk #[45]) f base s)) := by
  have f0 := Lib.hid (FIn.start h)
  have hP := lt_of_block h.box
  have hf2 := Lib.hid hf
  have hb2 := Lib.hid hb.2
  clear hf hb
  have hm0 : pre1 S.A (ByteArray.mk #[45]) f base s = ((unary S.A f s).1, (unary S.A f s).2) := by
    unfold pre1
    simp only [c1.out, if_true, if_false, Bool.false_eq_true, Bool.true_eq_false, reduceIte, Nat.reduceEqDiff]
  have hm := Lib.hid hm0
  clear hm0
  generalize pre1 S.A (ByteArray.mk #[45]) f base s = m at *
  have h2 := Lib.hid (fun (W : World) (lvq : Value) (q : PIn W P tv lvq S s) => unary_walk q (isB_kind c1.out) 197 f n hf2.out hn)
  generalize unary S.A f s = k2 at *
  obtain ⟨kk2, s2⟩ := k2
  clear h
  go_enter Tryz.func197, Tryz.ntmps197
  go_wp2_with (first
    | (go_at_call 165; refine (f1.out.callN (by repeat (first | exact Below.refl _ _ | apply bl_drew | apply bl_alloc)) (h2.out _ _)).mono ?_; rintro e w2 ⟨lv2, nk2, nt2, na2, ne2, nao2, ncap2, nks2, rfl, g⟩; have f2 := Lib.hid g; clear g; obtain ⟨z0, z1, z2, z3, z4, z5⟩ := f2.out.cells)
    | (go_at_call 117; refine (f0.out.callIs (by repeat (first | exact Below.refl _ _ | apply bl_drew | apply bl_alloc)) [(ByteArray.mk #[45])] true c1.out rfl (by decide) (by simp) rfl).mono ?_; rintro e w1 ⟨rfl, g⟩; have f1 := Lib.hid g; clear g))
  refine bodyPost_ret (v := .agg #[.int .i64 nk2, .string nt2, .int .i64 na2, .int .i64 ne2, .slice nao2 nks2.length ncap2]) (by simp [results, Tryz.results197, go_sem, z0, z1, z2, z3, z4] <;> rfl) rfl ?_
  rw [hm.out]
  exact f2.out.pass (kept5 _ _ _ _ _ _ _)
set_option maxRecDepth 100000 in
set_option maxHeartbeats 2000000 in
theorem negative_walk_2 {w : World} {P : Nat} {tv lv : Value} {S : Src} {s : Ps} (h : PIn w P tv lv S s) (f : M PT) (n m : Nat) (hf : FnM P tv S 197 f n) (hn : S.L.length < s.at_ + 1 + n) (base : M PT) (hb : FnM P tv S 199 base m) (hn2 : S.L.length < s.at_ + m) (c1 : Hid (isB S.A [(ByteArray.mk #[45])] s = false)) :
    Calls Tryz.prog 197 #[.pointer (some ⟨P, 0, none⟩)] w (NEnd w P tv lv S s (pre1 S.A (ByteArray.mk #[45]) f base s)) := by
  have f0 := Lib.hid (FIn.start h)
  have hP := lt_of_block h.box
  have hf2 := Lib.hid hf
  have hb2 := Lib.hid hb.2
  clear hf hb
  have hm0 : pre1 S.A (ByteArray.mk #[45]) f base s = ((base s).1, (base s).2) := by
    unfold pre1
    simp only [c1.out, if_true, if_false, Bool.false_eq_true, Bool.true_eq_false, reduceIte, Nat.reduceEqDiff]
  have hm := Lib.hid hm0
  clear hm0
  generalize pre1 S.A (ByteArray.mk #[45]) f base s = m at *
  have h2 := Lib.hid (fun (W : World) (lvq : Value) (q : PIn W P tv lvq S s) => hb2.out _ _ _ q hn2)
  generalize base s = k2 at *
  obtain ⟨kk2, s2⟩ := k2
  clear h
  go_enter Tryz.func197, Tryz.ntmps197
  go_wp2_with (first
    | (go_at_call 199; refine (f1.out.callN (by repeat (first | exact Below.refl _ _ | apply bl_drew | apply bl_alloc)) (h2.out _ _)).mono ?_; rintro e w2 ⟨lv2, nk2, nt2, na2, ne2, nao2, ncap2, nks2, rfl, g⟩; have f2 := Lib.hid g; clear g; obtain ⟨z0, z1, z2, z3, z4, z5⟩ := f2.out.cells)
    | (go_at_call 117; refine (f0.out.callIs (by repeat (first | exact Below.refl _ _ | apply bl_drew | apply bl_alloc)) [(ByteArray.mk #[45])] false c1.out rfl (by decide) (by simp) rfl).mono ?_; rintro e w1 ⟨rfl, g⟩; have f1 := Lib.hid g; clear g))
  refine bodyPost_ret (v := .agg #[.int .i64 nk2, .string nt2, .int .i64 na2, .int .i64 ne2, .slice nao2 nks2.length ncap2]) (by simp [results, Tryz.results197, go_sem, z0, z1, z2, z3, z4] <;> rfl) rfl ?_
  rw [hm.out]
  exact f2.out.pass (kept5 _ _ _ _ _ _ _)
theorem fn_negative_at {P : Nat} {tv : Value} {S : Src} {base : M PT} {m : Nat} (hb : FnM P tv S 199 base m) (k : Nat) : FnM P tv S 197 (pre S.A (ByteArray.mk #[45]) base k) (min m (k + 1)) := by
  induction k with
  | zero => exact ⟨enters_pnegative, fun W lv s q hn => by have := q.sok.lt; omega⟩
  | succ k ih =>
    refine ⟨enters_pnegative, fun W lv s q hn => ?_⟩
    rw [pre_succ]
    cases hc : isB S.A [(ByteArray.mk #[45])] s with
    | true => exact negative_walk_1 q _ _ m ih (by omega) base hb (by omega) (Lib.hid hc)
    | false => exact negative_walk_2 q _ _ m ih (by omega) base hb (by omega) (Lib.hid hc)
theorem fn_negative {P : Nat} {tv : Value} {S : Src} {base : M PT} {m : Nat} (hb : FnM P tv S 199 base m) : FnM P tv S 197 (pre S.A (ByteArray.mk #[45]) base S.A.length) m :=
  ⟨enters_pnegative, fun W lv s q hn => (fn_negative_at hb S.A.length).2 W lv s q (by rw [Src.len]; omega)⟩
set_option maxRecDepth 100000 in
set_option maxHeartbeats 2000000 in
theorem negation_walk_1 {w : World} {P : Nat} {tv lv : Value} {S : Src} {s : Ps} (h : PIn w P tv lv S s) (f : M PT) (n m : Nat) (hf : FnM P tv S 141 f n) (hn : S.L.length < s.at_ + 1 + n) (base : M PT) (hb : FnM P tv S 166 base m) (hn2 : S.L.length < s.at_ + m) (c1 : Hid (isB S.A [(ByteArray.mk #[110, 111, 116])] s = true)) :
    Calls Tryz.prog 141 #[.pointer (some ⟨P, 0, none⟩)] w (NEnd w P tv lv S s (pre1 S.A (ByteArray.mk #[110, 111, 116]) f base s)) := by
  have f0 := Lib.hid (FIn.start h)
  have hP := lt_of_block h.box
  have hf2 := Lib.hid hf
  have hb2 := Lib.hid hb.2
  clear hf hb
  have hm0 : pre1 S.A (ByteArray.mk #[110, 111, 116]) f base s = ((unary S.A f s).1, (unary S.A f s).2) := by
    unfold pre1
    simp only [c1.out, if_true, if_false, Bool.false_eq_true, Bool.true_eq_false, reduceIte, Nat.reduceEqDiff]
  have hm := Lib.hid hm0
  clear hm0
  generalize pre1 S.A (ByteArray.mk #[110, 111, 116]) f base s = m at *
  have h2 := Lib.hid (fun (W : World) (lvq : Value) (q : PIn W P tv lvq S s) => unary_walk q (isB_kind c1.out) 141 f n hf2.out hn)
  generalize unary S.A f s = k2 at *
  obtain ⟨kk2, s2⟩ := k2
  clear h
  go_enter Tryz.func141, Tryz.ntmps141
  go_wp2_with (first
    | (go_at_call 165; refine (f1.out.callN (by repeat (first | exact Below.refl _ _ | apply bl_drew | apply bl_alloc)) (h2.out _ _)).mono ?_; rintro e w2 ⟨lv2, nk2, nt2, na2, ne2, nao2, ncap2, nks2, rfl, g⟩; have f2 := Lib.hid g; clear g; obtain ⟨z0, z1, z2, z3, z4, z5⟩ := f2.out.cells)
    | (go_at_call 117; refine (f0.out.callIs (by repeat (first | exact Below.refl _ _ | apply bl_drew | apply bl_alloc)) [(ByteArray.mk #[110, 111, 116])] true c1.out rfl (by decide) (by simp) rfl).mono ?_; rintro e w1 ⟨rfl, g⟩; have f1 := Lib.hid g; clear g))
  refine bodyPost_ret (v := .agg #[.int .i64 nk2, .string nt2, .int .i64 na2, .int .i64 ne2, .slice nao2 nks2.length ncap2]) (by simp [results, Tryz.results141, go_sem, z0, z1, z2, z3, z4] <;> rfl) rfl ?_
  rw [hm.out]
  exact f2.out.pass (kept5 _ _ _ _ _ _ _)
set_option maxRecDepth 100000 in
set_option maxHeartbeats 2000000 in
theorem negation_walk_2 {w : World} {P : Nat} {tv lv : Value} {S : Src} {s : Ps} (h : PIn w P tv lv S s) (f : M PT) (n m : Nat) (hf : FnM P tv S 141 f n) (hn : S.L.length < s.at_ + 1 + n) (base : M PT) (hb : FnM P tv S 166 base m) (hn2 : S.L.length < s.at_ + m) (c1 : Hid (isB S.A [(ByteArray.mk #[110, 111, 116])] s = false)) :
    Calls Tryz.prog 141 #[.pointer (some ⟨P, 0, none⟩)] w (NEnd w P tv lv S s (pre1 S.A (ByteArray.mk #[110, 111, 116]) f base s)) := by
  have f0 := Lib.hid (FIn.start h)
  have hP := lt_of_block h.box
  have hf2 := Lib.hid hf
  have hb2 := Lib.hid hb.2
  clear hf hb
  have hm0 : pre1 S.A (ByteArray.mk #[110, 111, 116]) f base s = ((base s).1, (base s).2) := by
    unfold pre1
    simp only [c1.out, if_true, if_false, Bool.false_eq_true, Bool.true_eq_false, reduceIte, Nat.reduceEqDiff]
  have hm := Lib.hid hm0
  clear hm0
  generalize pre1 S.A (ByteArray.mk #[110, 111, 116]) f base s = m at *
  have h2 := Lib.hid (fun (W : World) (lvq : Value) (q : PIn W P tv lvq S s) => hb2.out _ _ _ q hn2)
  generalize base s = k2 at *
  obtain ⟨kk2, s2⟩ := k2
  clear h
  go_enter Tryz.func141, Tryz.ntmps141
  go_wp2_with (first
    | (go_at_call 166; refine (f1.out.callN (by repeat (first | exact Below.refl _ _ | apply bl_drew | apply bl_alloc)) (h2.out _ _)).mono ?_; rintro e w2 ⟨lv2, nk2, nt2, na2, ne2, nao2, ncap2, nks2, rfl, g⟩; have f2 := Lib.hid g; clear g; obtain ⟨z0, z1, z2, z3, z4, z5⟩ := f2.out.cells)
    | (go_at_call 117; refine (f0.out.callIs (by repeat (first | exact Below.refl _ _ | apply bl_drew | apply bl_alloc)) [(ByteArray.mk #[110, 111, 116])] false c1.out rfl (by decide) (by simp) rfl).mono ?_; rintro e w1 ⟨rfl, g⟩; have f1 := Lib.hid g; clear g))
  refine bodyPost_ret (v := .agg #[.int .i64 nk2, .string nt2, .int .i64 na2, .int .i64 ne2, .slice nao2 nks2.length ncap2]) (by simp [results, Tryz.results141, go_sem, z0, z1, z2, z3, z4] <;> rfl) rfl ?_
  rw [hm.out]
  exact f2.out.pass (kept5 _ _ _ _ _ _ _)
theorem fn_negation_at {P : Nat} {tv : Value} {S : Src} {base : M PT} {m : Nat} (hb : FnM P tv S 166 base m) (k : Nat) : FnM P tv S 141 (pre S.A (ByteArray.mk #[110, 111, 116]) base k) (min m (k + 1)) := by
  induction k with
  | zero => exact ⟨enters_pnegation, fun W lv s q hn => by have := q.sok.lt; omega⟩
  | succ k ih =>
    refine ⟨enters_pnegation, fun W lv s q hn => ?_⟩
    rw [pre_succ]
    cases hc : isB S.A [(ByteArray.mk #[110, 111, 116])] s with
    | true => exact negation_walk_1 q _ _ m ih (by omega) base hb (by omega) (Lib.hid hc)
    | false => exact negation_walk_2 q _ _ m ih (by omega) base hb (by omega) (Lib.hid hc)
theorem fn_negation {P : Nat} {tv : Value} {S : Src} {base : M PT} {m : Nat} (hb : FnM P tv S 166 base m) : FnM P tv S 141 (pre S.A (ByteArray.mk #[110, 111, 116]) base S.A.length) m :=
  ⟨enters_pnegation, fun W lv s q hn => (fn_negation_at hb S.A.length).2 W lv s q (by rw [Src.len]; omega)⟩
set_option maxRecDepth 100000 in
set_option maxHeartbeats 2000000 in
theorem product_walk {w : World} {P : Nat} {tv lv : Value} {S : Src} {s : Ps} (h : PIn w P tv lv S s) (f : M PT) (n : Nat) (hf : FnM P tv S 197 f n) (hn : S.L.length < s.at_ + n) :
    Calls Tryz.prog 191 #[.pointer (some ⟨P, 0, none⟩)] w (NEnd w P tv lv S s (binary S.A f [(ByteArray.mk #[42])] s)) := by
  have f0 := Lib.hid (FIn.start h)
  have hP := lt_of_block h.box
  have hf2 := Lib.hid hf
  clear hf
  generalize hk1 : binary S.A f [(ByteArray.mk #[42])] s = k1 at *
  obtain ⟨kk1, s1⟩ := k1
  have hk1 := Lib.hid hk1
  clear h
  go_enter Tryz.func191, Tryz.ntmps191
  go_wp2_with (first
    | (go_at_call 94; refine (f0.out.callBin (by repeat (first | exact Below.refl _ _ | apply bl_drew | apply bl_alloc)) 197 f n hf2.out hn [(ByteArray.mk #[42])] rfl (by decide) (by simp) rfl).mono ?_; rintro e w1 ⟨lv1, nk1, nt1, na1, ne1, nao1, ncap1, nks1, rfl, g⟩; rw [hk1.out] at g; have f1 := Lib.hid g; clear g; obtain ⟨z0, z1, z2, z3, z4, z5⟩ := f1.out.cells))
  refine bodyPost_ret (v := .agg #[.int .i64 nk1, .string nt1, .int .i64 na1, .int .i64 ne1, .slice nao1 nks1.length ncap1]) (by simp [results, Tryz.results191, go_sem, z0, z1, z2, z3, z4] <;> rfl) rfl ?_
  exact f1.out.pass (kept5 _ _ _ _ _ _ _)
theorem fn_product {P : Nat} {tv : Value} {S : Src} {f : M PT} {n : Nat} (hf : FnM P tv S 197 f n) : FnM P tv S 191 (binary S.A f [(ByteArray.mk #[42])]) n := ⟨enters_pproduct, fun _ _ _ q hn => product_walk q f n hf hn⟩
set_option maxRecDepth 100000 in
set_option maxHeartbeats 2000000 in
theorem difference_walk {w : World} {P : Nat} {tv lv : Value} {S : Src} {s : Ps} (h : PIn w P tv lv S s) (f : M PT) (n : Nat) (hf : FnM P tv S 191 f n) (hn : S.L.length < s.at_ + n) :
    Calls Tryz.prog 183 #[.pointer (some ⟨P, 0, none⟩)] w (NEnd w P tv lv S s (binary S.A f [(ByteArray.mk #[43]), (ByteArray.mk #[45])] s)) := by
  have f0 := Lib.hid (FIn.start h)
  have hP := lt_of_block h.box
  have hf2 := Lib.hid hf
  clear hf
  generalize hk1 : binary S.A f [(ByteArray.mk #[43]), (ByteArray.mk #[45])] s = k1 at *
  obtain ⟨kk1, s1⟩ := k1
  have hk1 := Lib.hid hk1
  clear h
  go_enter Tryz.func183, Tryz.ntmps183
  go_wp2_with (first
    | (go_at_call 94; refine (f0.out.callBin (by repeat (first | exact Below.refl _ _ | apply bl_drew | apply bl_alloc)) 191 f n hf2.out hn [(ByteArray.mk #[43]), (ByteArray.mk #[45])] rfl (by decide) (by simp) rfl).mono ?_; rintro e w1 ⟨lv1, nk1, nt1, na1, ne1, nao1, ncap1, nks1, rfl, g⟩; rw [hk1.out] at g; have f1 := Lib.hid g; clear g; obtain ⟨z0, z1, z2, z3, z4, z5⟩ := f1.out.cells))
  refine bodyPost_ret (v := .agg #[.int .i64 nk1, .string nt1, .int .i64 na1, .int .i64 ne1, .slice nao1 nks1.length ncap1]) (by simp [results, Tryz.results183, go_sem, z0, z1, z2, z3, z4] <;> rfl) rfl ?_
  exact f1.out.pass (kept5 _ _ _ _ _ _ _)
theorem fn_difference {P : Nat} {tv : Value} {S : Src} {f : M PT} {n : Nat} (hf : FnM P tv S 191 f n) : FnM P tv S 183 (binary S.A f [(ByteArray.mk #[43]), (ByteArray.mk #[45])]) n := ⟨enters_pdifference, fun _ _ _ q hn => difference_walk q f n hf hn⟩
set_option maxRecDepth 100000 in
set_option maxHeartbeats 2000000 in
theorem conjunction_walk {w : World} {P : Nat} {tv lv : Value} {S : Src} {s : Ps} (h : PIn w P tv lv S s) (f : M PT) (n : Nat) (hf : FnM P tv S 141 f n) (hn : S.L.length < s.at_ + n) :
    Calls Tryz.prog 95 #[.pointer (some ⟨P, 0, none⟩)] w (NEnd w P tv lv S s (binary S.A f [(ByteArray.mk #[97, 110, 100])] s)) := by
  have f0 := Lib.hid (FIn.start h)
  have hP := lt_of_block h.box
  have hf2 := Lib.hid hf
  clear hf
  generalize hk1 : binary S.A f [(ByteArray.mk #[97, 110, 100])] s = k1 at *
  obtain ⟨kk1, s1⟩ := k1
  have hk1 := Lib.hid hk1
  clear h
  go_enter Tryz.func95, Tryz.ntmps95
  go_wp2_with (first
    | (go_at_call 94; refine (f0.out.callBin (by repeat (first | exact Below.refl _ _ | apply bl_drew | apply bl_alloc)) 141 f n hf2.out hn [(ByteArray.mk #[97, 110, 100])] rfl (by decide) (by simp) rfl).mono ?_; rintro e w1 ⟨lv1, nk1, nt1, na1, ne1, nao1, ncap1, nks1, rfl, g⟩; rw [hk1.out] at g; have f1 := Lib.hid g; clear g; obtain ⟨z0, z1, z2, z3, z4, z5⟩ := f1.out.cells))
  refine bodyPost_ret (v := .agg #[.int .i64 nk1, .string nt1, .int .i64 na1, .int .i64 ne1, .slice nao1 nks1.length ncap1]) (by simp [results, Tryz.results95, go_sem, z0, z1, z2, z3, z4] <;> rfl) rfl ?_
  exact f1.out.pass (kept5 _ _ _ _ _ _ _)
theorem fn_conjunction {P : Nat} {tv : Value} {S : Src} {f : M PT} {n : Nat} (hf : FnM P tv S 141 f n) : FnM P tv S 95 (binary S.A f [(ByteArray.mk #[97, 110, 100])]) n := ⟨enters_pconjunction, fun _ _ _ q hn => conjunction_walk q f n hf hn⟩
set_option maxRecDepth 100000 in
set_option maxHeartbeats 2000000 in
theorem expression_walk {w : World} {P : Nat} {tv lv : Value} {S : Src} {s : Ps} (h : PIn w P tv lv S s) (f : M PT) (n : Nat) (hf : FnM P tv S 95 f n) (hn : S.L.length < s.at_ + n) :
    Calls Tryz.prog 43 #[.pointer (some ⟨P, 0, none⟩)] w (NEnd w P tv lv S s (binary S.A f [(ByteArray.mk #[111, 114])] s)) := by
  have f0 := Lib.hid (FIn.start h)
  have hP := lt_of_block h.box
  have hf2 := Lib.hid hf
  clear hf
  generalize hk1 : binary S.A f [(ByteArray.mk #[111, 114])] s = k1 at *
  obtain ⟨kk1, s1⟩ := k1
  have hk1 := Lib.hid hk1
  clear h
  go_enter Tryz.func43, Tryz.ntmps43
  go_wp2_with (first
    | (go_at_call 94; refine (f0.out.callBin (by repeat (first | exact Below.refl _ _ | apply bl_drew | apply bl_alloc)) 95 f n hf2.out hn [(ByteArray.mk #[111, 114])] rfl (by decide) (by simp) rfl).mono ?_; rintro e w1 ⟨lv1, nk1, nt1, na1, ne1, nao1, ncap1, nks1, rfl, g⟩; rw [hk1.out] at g; have f1 := Lib.hid g; clear g; obtain ⟨z0, z1, z2, z3, z4, z5⟩ := f1.out.cells))
  refine bodyPost_ret (v := .agg #[.int .i64 nk1, .string nt1, .int .i64 na1, .int .i64 ne1, .slice nao1 nks1.length ncap1]) (by simp [results, Tryz.results43, go_sem, z0, z1, z2, z3, z4] <;> rfl) rfl ?_
  exact f1.out.pass (kept5 _ _ _ _ _ _ _)
theorem fn_expression {P : Nat} {tv : Value} {S : Src} {f : M PT} {n : Nat} (hf : FnM P tv S 95 f n) : FnM P tv S 43 (binary S.A f [(ByteArray.mk #[111, 114])]) n := ⟨enters_pexpression, fun _ _ _ q hn => expression_walk q f n hf hn⟩
end Go.Proofs.YthggagophcnkfaaGreatDoor.px
