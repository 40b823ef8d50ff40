/- The walks of the parser's node1, unary, bound and term. The walk of the parser's total. -/
import Derived.Test.YthggagophcnkfaaGreatDoorM7
namespace Go.Proofs.YthggagophcnkfaaGreatDoor.px
open Go.RowKit Go.Proofs.YthggagophcnkfaaGreatDoor.agg Go.Proofs.YthggagophcnkfaaGreatDoor.sx
set_option linter.unusedSimpArgs false
set_option linter.unusedVariables false
def node1 (kind : Int) (first : Nat) (text : ByteArray) (f : M PT) : M PT := fun s => (node kind first text [(f s).1] (f s).2, (f s).2)
def unary (A : List Tk) (f : M PT) : M PT := fun s => node1 39 s.at_ (next A s).1 f (next A s).2
set_option maxRecDepth 100000 in
set_option maxHeartbeats 2000000 in
theorem node1_walk {w : World} {P : Nat} {tv lv : Value} {S : Src} {s : Ps} (h : PIn w P tv lv S s) (kind : Int) (first : Nat) (h1st : first ≤ s.at_) (text : ByteArray) (K : Nat) (f : M PT) (n : Nat) (hf : FnM P tv S K f n) (hn : S.L.length < s.at_ + n) :
 Calls Tryz.prog 124 #[.pointer (some ⟨P, 0, none⟩), .int .i64 kind, .int .i64 first, .string text, .func (.func K) #[.pointer (some ⟨P, 0, none⟩)] #[]] w (NEnd w P tv lv S s (node1 kind first text f s)) := by
 have f0 := Lib.hid (FIn.start h)
 have hP := lt_of_block h.box
 have eg := hf.1
 have hF := Lib.hid hf.2
 clear hf
 have hm : Hid (node1 kind first text f s = (node kind first (text) [(f s).1] (f s).2, (f s).2)) := rfl
 generalize node1 kind first text f s = m at *
 have h1 := Lib.hid (fun (W : World) (lvq : Value) (q : PIn W P tv lvq S s) => hF.out _ _ _ q hn)
 generalize f s = k1 at *
 obtain ⟨kk1, s1⟩ := k1
 clear h
 go_enter Tryz.func124, Tryz.ntmps124
 go_wp2_with (first
  | (go_at_call 63; refine ((f1.out.box1 nks1 rfl).callNode (by repeat (first | exact Below.refl _ _ | apply bl_drew | apply bl_alloc)) kind first h1st text rfl (by simp) rfl (by simp)).mono ?_; rintro e w2 ⟨rfl, g⟩; have f2 := Lib.hid g; clear g; obtain ⟨z0, z1, z2, z3, z4, z5⟩ := f2.out.fin.cells)
  | (go_at_fn K; refine (f0.out.callN (by repeat (first | exact Below.refl _ _ | apply bl_drew | apply bl_alloc)) (h1.out _ _)).mono ?_; rintro e w1 ⟨lv1, nk1, nt1, na1, ne1, nao1, ncap1, nks1, rfl, g⟩; have f1 := Lib.hid g; clear g))
 refine bodyPost_ret (v := .agg #[.int .i64 kind, .string text, .int .i64 (S.at_ first s1.at_), .int .i64 (S.last s1.at_), .slice _ 1 1]) (by simp [results, Tryz.results124, go_sem, z0, z1, z2, z3, z4] <;> rfl) rfl ?_
 rw [hm.out]
 exact f2.out.end_ (kept5 _ _ _ _ _ _ _) kind first text
set_option maxRecDepth 100000 in
set_option maxHeartbeats 2000000 in
theorem unary_walk {w : World} {P : Nat} {tv lv : Value} {S : Src} {s : Ps} (h : PIn w P tv lv S s) (hk : (tok S.A s).kind ≠ 0) (K : Nat) (f : M PT) (n : Nat) (hf : FnM P tv S K f n) (hn : S.L.length < s.at_ + 1 + n) :
 Calls Tryz.prog 165 #[.pointer (some ⟨P, 0, none⟩), .func (.func K) #[.pointer (some ⟨P, 0, none⟩)] #[]] w (NEnd w P tv lv S s (unary S.A f s)) := by
 have f0 := Lib.hid (FIn.start h)
 have cat := h.cell.2.2.1
 have hP := lt_of_block h.box
 have hm : Hid (unary S.A f s = ((node1 39 s.at_ (next S.A s).1 f (next S.A s).2).1, (node1 39 s.at_ (next S.A s).1 f (next S.A s).2).2)) := rfl
 generalize unary S.A f s = m at *
 have h1 := Lib.hid (fun (W : World) (lvq : Value) (q : PIn W P tv lvq S s) => next_walk q hk)
 generalize (next S.A s).1 = x1 at *
 have hq1 : S.L.length < (next S.A s).2.at_ + n := hn
 generalize (next S.A s).2 = s1 at *
 have h2 := Lib.hid (fun (W : World) (lvq : Value) (q : PIn W P tv lvq S s1) (hmo : s.at_ ≤ s1.at_) (hq : S.L.length < s1.at_ + n) => node1_walk q 39 s.at_ hmo x1 K f n hf hq)
 generalize node1 39 s.at_ x1 f s1 = k2 at *
 obtain ⟨kk2, s2⟩ := k2
 clear h
 go_enter Tryz.func165, Tryz.ntmps165
 go_wp2_with (first
  | (go_at_call 124; refine (f1.out.callN (by repeat (first | exact Below.refl _ _ | apply bl_drew | apply bl_alloc)) (fun q => h2.out _ _ q f1.out.mono hq1)).mono ?_; rintro e w2 ⟨lv2, nk2, nt2, na2, ne2, nao2, ncap2, nks2, rfl, g⟩; have f2 := Lib.hid g; clear g; obtain ⟨z0, z1, z2, z3, z4, z5⟩ := f2.out.cells)
  | (go_at_call 62; refine (f0.out.callS (by repeat (first | exact Below.refl _ _ | apply bl_drew | apply bl_alloc)) (h1.out _ _)).mono ?_; rintro e w1 ⟨lv1, rfl, g⟩; have f1 := Lib.hid g; clear g))
 refine bodyPost_ret (v := .agg #[.int .i64 nk2, .string nt2, .int .i64 na2, .int .i64 ne2, .slice nao2 nks2.length ncap2]) (by simp [results, Tryz.results165, go_sem, z0, z1, z2, z3, z4] <;> rfl) rfl ?_
 rw [hm.out]
 exact f2.out.pass (kept5 _ _ _ _ _ _ _)
set_option maxRecDepth 100000 in
set_option maxHeartbeats 2000000 in
theorem bound_walk_1 {w : World} {P : Nat} {tv lv : Value} {S : Src} {s : Ps} (h : PIn w P tv lv S s) (K : Nat) (f : M PT) (hf : FnM P tv S K f (S.L.length + 1)) (c1 : Hid (isB S.A [(ByteArray.mk #[60, 61]), (ByteArray.mk #[62, 61])] s = true)) :
 Calls Tryz.prog 127 #[.pointer (some ⟨P, 0, none⟩), .func (.func K) #[.pointer (some ⟨P, 0, none⟩)] #[]] w (NEnd w P tv lv S s (bound S.A f s)) := by
 have f0 := Lib.hid (FIn.start h)
 have cat := h.cell.2.2.1
 have hP := lt_of_block h.box
 have eg := hf.1
 have hF := Lib.hid hf.2
 clear hf
 have hm0 : bound S.A f s = (node 19 s.at_ ((next S.A s).1) [(f (next S.A s).2).1] (f (next S.A s).2).2, (f (next S.A s).2).2) := by
  unfold bound
  simp only [c1.out, if_true, if_false, Bool.false_eq_true, Bool.true_eq_false, reduceIte, Nat.reduceEqDiff]
 have hm := Lib.hid hm0
 clear hm0
 generalize bound S.A f s = m at *
 have h2 := Lib.hid (fun (W : World) (lvq : Value) (q : PIn W P tv lvq S s) => next_walk q (isB_kind c1.out))
 generalize (next S.A s).1 = x2 at *
 generalize (next S.A s).2 = s2 at *
 have h3 := Lib.hid (fun (W : World) (lvq : Value) (q : PIn W P tv lvq S s2) => hF.out _ _ _ q (by omega))
 generalize f s2 = k3 at *
 obtain ⟨kk3, s3⟩ := k3
 clear h
 go_enter Tryz.func127, Tryz.ntmps127
 go_wp2_with (first
  | (go_at_call 63; refine ((f3.out.box1 nks3 rfl).callNode (by repeat (first | exact Below.refl _ _ | apply bl_drew | apply bl_alloc)) 19 s.at_ (Nat.le_refl _) x2 rfl (by simp) rfl (by simp)).mono ?_; rintro e w4 ⟨rfl, g⟩; have f4 := Lib.hid g; clear g; obtain ⟨z0, z1, z2, z3, z4, z5⟩ := f4.out.fin.cells)
  | (go_at_fn K; refine (f2.out.callN (by repeat (first | exact Below.refl _ _ | apply bl_drew | apply bl_alloc)) (h3.out _ _)).mono ?_; rintro e w3 ⟨lv3, nk3, nt3, na3, ne3, nao3, ncap3, nks3, rfl, g⟩; have f3 := Lib.hid g; clear g)
  | (go_at_call 62; refine (f1.out.callS (by repeat (first | exact Below.refl _ _ | apply bl_drew | apply bl_alloc)) (h2.out _ _)).mono ?_; rintro e w2 ⟨lv2, rfl, g⟩; have f2 := Lib.hid g; clear g)
  | (go_at_call 117; refine (f0.out.callIs (by repeat (first | exact Below.refl _ _ | apply bl_drew | apply bl_alloc)) [(ByteArray.mk #[60, 61]), (ByteArray.mk #[62, 61])] true c1.out rfl (by decide) (by simp) rfl).mono ?_; rintro e w1 ⟨rfl, g⟩; have f1 := Lib.hid g; clear g))
 refine bodyPost_ret (v := .agg #[.int .i64 19, .string x2, .int .i64 (S.at_ s.at_ s3.at_), .int .i64 (S.last s3.at_), .slice _ 1 1]) (by simp [results, Tryz.results127, go_sem, z0, z1, z2, z3, z4] <;> rfl) rfl ?_
 rw [hm.out]
 exact f4.out.end_ (kept5 _ _ _ _ _ _ _) 19 s.at_ x2
set_option maxRecDepth 100000 in
set_option maxHeartbeats 2000000 in
theorem bound_walk_2 {w : World} {P : Nat} {tv lv : Value} {S : Src} {s : Ps} (h : PIn w P tv lv S s) (K : Nat) (f : M PT) (hf : FnM P tv S K f (S.L.length + 1)) (c1 : Hid (isB S.A [(ByteArray.mk #[60, 61]), (ByteArray.mk #[62, 61])] s = false)) :
 Calls Tryz.prog 127 #[.pointer (some ⟨P, 0, none⟩), .func (.func K) #[.pointer (some ⟨P, 0, none⟩)] #[]] w (NEnd w P tv lv S s (bound S.A f s)) := by
 have f0 := Lib.hid (FIn.start h)
 have cat := h.cell.2.2.1
 have hP := lt_of_block h.box
 have eg := hf.1
 have hF := Lib.hid hf.2
 clear hf
 have hm0 : bound S.A f s = (node 19 s.at_ (⟨#[]⟩) [(f (report 4 (ByteArray.mk #[60, 61]) s)).1] (f (report 4 (ByteArray.mk #[60, 61]) s)).2, (f (report 4 (ByteArray.mk #[60, 61]) s)).2) := by
  unfold bound
  simp only [c1.out, if_true, if_false, Bool.false_eq_true, Bool.true_eq_false, reduceIte, Nat.reduceEqDiff]
 have hm := Lib.hid hm0
 clear hm0
 generalize bound S.A f s = m at *
 have h2 := Lib.hid (fun (W : World) (lvq : Value) (q : PIn W P tv lvq S s) => report_walk q 4 (ByteArray.mk #[60, 61]) (rp4 (by decide)))
 generalize report 4 (ByteArray.mk #[60, 61]) s = s2 at *
 have h3 := Lib.hid (fun (W : World) (lvq : Value) (q : PIn W P tv lvq S s2) => hF.out _ _ _ q (by omega))
 generalize f s2 = k3 at *
 obtain ⟨kk3, s3⟩ := k3
 clear h
 go_enter Tryz.func127, Tryz.ntmps127
 go_wp2_with (first
  | (go_at_call 63; refine ((f3.out.box1 nks3 rfl).callNode (by repeat (first | exact Below.refl _ _ | apply bl_drew | apply bl_alloc)) 19 s.at_ (Nat.le_refl _) ⟨#[]⟩ rfl (by simp) rfl (by simp)).mono ?_; rintro e w4 ⟨rfl, g⟩; have f4 := Lib.hid g; clear g; obtain ⟨z0, z1, z2, z3, z4, z5⟩ := f4.out.fin.cells)
  | (go_at_fn K; refine (f2.out.callN (by repeat (first | exact Below.refl _ _ | apply bl_drew | apply bl_alloc)) (h3.out _ _)).mono ?_; rintro e w3 ⟨lv3, nk3, nt3, na3, ne3, nao3, ncap3, nks3, rfl, g⟩; have f3 := Lib.hid g; clear g)
  | (go_at_call 44; refine (f1.out.callS (by repeat (first | exact Below.refl _ _ | apply bl_drew | apply bl_alloc)) (h2.out _ _)).mono ?_; rintro e w2 ⟨lv2, rfl, g⟩; have f2 := Lib.hid g; clear g)
  | (go_at_call 117; refine (f0.out.callIs (by repeat (first | exact Below.refl _ _ | apply bl_drew | apply bl_alloc)) [(ByteArray.mk #[60, 61]), (ByteArray.mk #[62, 61])] false c1.out rfl (by decide) (by simp) rfl).mono ?_; rintro e w1 ⟨rfl, g⟩; have f1 := Lib.hid g; clear g))
 refine bodyPost_ret (v := .agg #[.int .i64 19, .string ⟨#[]⟩, .int .i64 (S.at_ s.at_ s3.at_), .int .i64 (S.last s3.at_), .slice _ 1 1]) (by simp [results, Tryz.results127, go_sem, z0, z1, z2, z3, z4] <;> rfl) rfl ?_
 rw [hm.out]
 exact f4.out.end_ (kept5 _ _ _ _ _ _ _) 19 s.at_ ⟨#[]⟩
theorem bound_walk {w : World} {P : Nat} {tv lv : Value} {S : Src} {s : Ps} (h : PIn w P tv lv S s) (K : Nat) (f : M PT) (hf : FnM P tv S K f (S.L.length + 1)) :
 Calls Tryz.prog 127 #[.pointer (some ⟨P, 0, none⟩), .func (.func K) #[.pointer (some ⟨P, 0, none⟩)] #[]] w (NEnd w P tv lv S s (bound S.A f s)) := by
 cases q1 : isB S.A [(ByteArray.mk #[60, 61]), (ByteArray.mk #[62, 61])] s with
 | true =>
  exact bound_walk_1 h K f hf (Lib.hid q1)
 | false =>
  exact bound_walk_2 h K f hf (Lib.hid q1)
set_option maxRecDepth 100000 in
set_option maxHeartbeats 2000000 in
theorem term_walk_1 {w : World} {P : Nat} {tv lv : Value} {S : Src} {s : Ps} (h : PIn w P tv lv S s) (first : Nat) (h1st : first ≤ s.at_) (sign : ByteArray) (c1 : Hid ((tok S.A s).kind = 3)) (c2 : Hid (isB S.A [(ByteArray.mk #[115, 117, 109])] (demand S.A (ByteArray.mk #[42]) (number S.A s).2).2 = true)) :
 Calls Tryz.prog 153 #[.pointer (some ⟨P, 0, none⟩), .int .i64 first, .string sign] w (NEnd w P tv lv S s (term S.A first sign s)) := by
 have f0 := Lib.hid (FIn.start h)
 have hP := lt_of_block h.box
 have hm0 : term S.A first sign s = (node 21 first (sign) [(number S.A s).1, (columns S.A (next S.A (demand S.A (ByteArray.mk #[42]) (number S.A s).2).2).2).1, (cell S.A (columns S.A (next S.A (demand S.A (ByteArray.mk #[42]) (number S.A s).2).2).2).2).1] (cell S.A (columns S.A (next S.A (demand S.A (ByteArray.mk #[42]) (number S.A s).2).2).2).2).2, (cell S.A (columns S.A (next S.A (demand S.A (ByteArray.mk #[42]) (number S.A s).2).2).2).2).2) := by
  unfold term
  simp only [c1.out, c2.out, if_true, if_false, Bool.false_eq_true, Bool.true_eq_false, reduceIte, Nat.reduceEqDiff]
 have hm := Lib.hid hm0
 clear hm0
 generalize term S.A first sign s = m at *
 have h1 := Lib.hid (fun (W : World) (lvq : Value) (q : PIn W P tv lvq S s) => missing_walk q 1)
 have h2 := Lib.hid (fun (W : World) (lvq : Value) (q : PIn W P tv lvq S s) => token_k q c1.out)
 have h3 := Lib.hid (fun (W : World) (lvq : Value) (q : PIn W P tv lvq S s) => number_walk q)
 generalize number S.A s = k3 at *
 obtain ⟨kk3, s3⟩ := k3
 have h4 := Lib.hid (fun (W : World) (lvq : Value) (q : PIn W P tv lvq S s3) => demand_walk q (ByteArray.mk #[42]) (by decide))
 generalize (demand S.A (ByteArray.mk #[42]) s3).1 = x4 at *
 generalize (demand S.A (ByteArray.mk #[42]) s3).2 = s4 at *
 have h5 := Lib.hid (fun (W : World) (lvq : Value) (q : PIn W P tv lvq S s4) => missing_walk q 1)
 have h6 := Lib.hid (fun (W : World) (lvq : Value) (q : PIn W P tv lvq S s4) => opt_yes q (ByteArray.mk #[115, 117, 109]) c2.out)
 generalize (next S.A s4).2 = s6 at *
 have h7 := Lib.hid (fun (W : World) (lvq : Value) (q : PIn W P tv lvq S s6) => columns_walk q)
 generalize columns S.A s6 = k7 at *
 obtain ⟨kk7, s7⟩ := k7
 have h8 := Lib.hid (fun (W : World) (lvq : Value) (q : PIn W P tv lvq S s7) => cell_walk q)
 generalize cell S.A s7 = k8 at *
 obtain ⟨kk8, s8⟩ := k8
 clear h
 go_enter Tryz.func153, Tryz.ntmps153
 go_wp2_with (first
  | (go_at_call 63; refine ((f8.out.box1 nks8 rfl).callNode (by repeat (first | exact Below.refl _ _ | apply bl_drew | apply bl_alloc)) 21 first h1st sign rfl (by simp) rfl (by simp)).mono ?_; rintro e w9 ⟨rfl, g⟩; have f9 := Lib.hid g; clear g; obtain ⟨z0, z1, z2, z3, z4, z5⟩ := f9.out.fin.cells)
  | (go_at_call 156; refine ((FIn.over (nks' := nks7) f7.out 1).callN (by repeat (first | exact Below.refl _ _ | apply bl_drew | apply bl_alloc)) (h8.out _ _)).mono ?_; rintro e w8 ⟨lv8, nk8, nt8, na8, ne8, nao8, ncap8, nks8, rfl, g⟩; have f8 := Lib.hid g; clear g; obtain ⟨y00, y01, y02, y03, y04, y05, y06⟩ := f8.out.bx 0 rfl; obtain ⟨y10, y11, y12, y13, y14, y15, y16⟩ := f8.out.bx 1 rfl)
  | (go_at_call 66; refine (f6.out.callN (by repeat (first | exact Below.refl _ _ | apply bl_drew | apply bl_alloc)) (h7.out _ _)).mono ?_; rintro e w7 ⟨lv7, nk7, nt7, na7, ne7, nao7, ncap7, nks7, rfl, g⟩; have f7 := Lib.hid g; clear g; obtain ⟨y10, y11, y12, y13, y14, y15, y16⟩ := f7.out.bx 1 rfl)
  | (go_at_call 123; refine ((f5.out.box1 nks5 rfl).callS (by repeat (first | exact Below.refl _ _ | apply bl_drew | apply bl_alloc)) (h6.out _ _)).mono ?_; rintro e w6 ⟨lv6, rfl, g⟩; have f6 := Lib.hid g; clear g)
  | (go_at_call 122; refine (f4.out.callN (by repeat (first | exact Below.refl _ _ | apply bl_drew | apply bl_alloc)) (h5.out _ _)).mono ?_; rintro e w5 ⟨lv5, nk5, nt5, na5, ne5, nao5, ncap5, nks5, rfl, g⟩; have f5 := Lib.hid g; clear g)
  | (go_at_call 67; refine ((FIn.over (nks' := nks3) f3.out 0).callS (by repeat (first | exact Below.refl _ _ | apply bl_drew | apply bl_alloc)) (h4.out _ _)).mono ?_; rintro e w4 ⟨lv4, rfl, g⟩; have f4 := Lib.hid g; clear g)
  | (go_at_call 65; refine (f2.out.callN (by repeat (first | exact Below.refl _ _ | apply bl_drew | apply bl_alloc)) (h3.out _ _)).mono ?_; rintro e w3 ⟨lv3, nk3, nt3, na3, ne3, nao3, ncap3, nks3, rfl, g⟩; have f3 := Lib.hid g; clear g; obtain ⟨y00, y01, y02, y03, y04, y05, y06⟩ := f3.out.bx 0 rfl)
  | (go_at_call 60; refine ((f1.out.box1 nks1 rfl).callB (by repeat (first | exact Below.refl _ _ | apply bl_drew | apply bl_alloc)) (h2.out _ _)).mono ?_; rintro e w2 ⟨rfl, g⟩; have f2 := Lib.hid g; clear g)
  | (go_at_call 122; refine (f0.out.callN (by repeat (first | exact Below.refl _ _ | apply bl_drew | apply bl_alloc)) (h1.out _ _)).mono ?_; rintro e w1 ⟨lv1, nk1, nt1, na1, ne1, nao1, ncap1, nks1, rfl, g⟩; have f1 := Lib.hid g; clear g))
 refine bodyPost_ret (v := .agg #[.int .i64 21, .string sign, .int .i64 (S.at_ first s8.at_), .int .i64 (S.last s8.at_), .slice _ 3 3]) (by simp [results, Tryz.results153, go_sem, z0, z1, z2, z3, z4] <;> rfl) rfl ?_
 rw [hm.out]
 exact f9.out.end_ (kept5 _ _ _ _ _ _ _) 21 first sign
set_option maxRecDepth 100000 in
set_option maxHeartbeats 2000000 in
theorem term_walk_2 {w : World} {P : Nat} {tv lv : Value} {S : Src} {s : Ps} (h : PIn w P tv lv S s) (first : Nat) (h1st : first ≤ s.at_) (sign : ByteArray) (c1 : Hid ((tok S.A s).kind = 3)) (c2 : Hid (isB S.A [(ByteArray.mk #[115, 117, 109])] (demand S.A (ByteArray.mk #[42]) (number S.A s).2).2 = false)) :
 Calls Tryz.prog 153 #[.pointer (some ⟨P, 0, none⟩), .int .i64 first, .string sign] w (NEnd w P tv lv S s (term S.A first sign s)) := by
 have f0 := Lib.hid (FIn.start h)
 have hP := lt_of_block h.box
 have hm0 : term S.A first sign s = (node 21 first (sign) [(number S.A s).1, (missing 1 (demand S.A (ByteArray.mk #[42]) (number S.A s).2).2), (cell S.A (demand S.A (ByteArray.mk #[42]) (number S.A s).2).2).1] (cell S.A (demand S.A (ByteArray.mk #[42]) (number S.A s).2).2).2, (cell S.A (demand S.A (ByteArray.mk #[42]) (number S.A s).2).2).2) := by
  unfold term
  simp only [c1.out, c2.out, if_true, if_false, Bool.false_eq_true, Bool.true_eq_false, reduceIte, Nat.reduceEqDiff]
 have hm := Lib.hid hm0
 clear hm0
 generalize term S.A first sign s = m at *
 have h1 := Lib.hid (fun (W : World) (lvq : Value) (q : PIn W P tv lvq S s) => missing_walk q 1)
 have h2 := Lib.hid (fun (W : World) (lvq : Value) (q : PIn W P tv lvq S s) => token_k q c1.out)
 have h3 := Lib.hid (fun (W : World) (lvq : Value) (q : PIn W P tv lvq S s) => number_walk q)
 generalize number S.A s = k3 at *
 obtain ⟨kk3, s3⟩ := k3
 have h4 := Lib.hid (fun (W : World) (lvq : Value) (q : PIn W P tv lvq S s3) => demand_walk q (ByteArray.mk #[42]) (by decide))
 generalize (demand S.A (ByteArray.mk #[42]) s3).1 = x4 at *
 generalize (demand S.A (ByteArray.mk #[42]) s3).2 = s4 at *
 have h5 := Lib.hid (fun (W : World) (lvq : Value) (q : PIn W P tv lvq S s4) => missing_walk q 1)
 have h6 := Lib.hid (fun (W : World) (lvq : Value) (q : PIn W P tv lvq S s4) => opt_no q (ByteArray.mk #[115, 117, 109]) c2.out)
 have h7 := Lib.hid (fun (W : World) (lvq : Value) (q : PIn W P tv lvq S s4) => cell_walk q)
 generalize cell S.A s4 = k7 at *
 obtain ⟨kk7, s7⟩ := k7
 clear h
 go_enter Tryz.func153, Tryz.ntmps153
 go_wp2_with (first
  | (go_at_call 63; refine ((f7.out.box1 nks7 rfl).callNode (by repeat (first | exact Below.refl _ _ | apply bl_drew | apply bl_alloc)) 21 first h1st sign rfl (by simp) rfl (by simp)).mono ?_; rintro e w8 ⟨rfl, g⟩; have f8 := Lib.hid g; clear g; obtain ⟨z0, z1, z2, z3, z4, z5⟩ := f8.out.fin.cells)
  | (go_at_call 156; refine (f6.out.callN (by repeat (first | exact Below.refl _ _ | apply bl_drew | apply bl_alloc)) (h7.out _ _)).mono ?_; rintro e w7 ⟨lv7, nk7, nt7, na7, ne7, nao7, ncap7, nks7, rfl, g⟩; have f7 := Lib.hid g; clear g; obtain ⟨y00, y01, y02, y03, y04, y05, y06⟩ := f7.out.bx 0 rfl; obtain ⟨y10, y11, y12, y13, y14, y15, y16⟩ := f7.out.bx 1 rfl)
  | (go_at_call 123; refine ((f5.out.box1 nks5 rfl).callS (by repeat (first | exact Below.refl _ _ | apply bl_drew | apply bl_alloc)) (h6.out _ _)).mono ?_; rintro e w6 ⟨lv6, rfl, g⟩; have f6 := Lib.hid g; clear g)
  | (go_at_call 122; refine (f4.out.callN (by repeat (first | exact Below.refl _ _ | apply bl_drew | apply bl_alloc)) (h5.out _ _)).mono ?_; rintro e w5 ⟨lv5, nk5, nt5, na5, ne5, nao5, ncap5, nks5, rfl, g⟩; have f5 := Lib.hid g; clear g)
  | (go_at_call 67; refine ((FIn.over (nks' := nks3) f3.out 0).callS (by repeat (first | exact Below.refl _ _ | apply bl_drew | apply bl_alloc)) (h4.out _ _)).mono ?_; rintro e w4 ⟨lv4, rfl, g⟩; have f4 := Lib.hid g; clear g)
  | (go_at_call 65; refine (f2.out.callN (by repeat (first | exact Below.refl _ _ | apply bl_drew | apply bl_alloc)) (h3.out _ _)).mono ?_; rintro e w3 ⟨lv3, nk3, nt3, na3, ne3, nao3, ncap3, nks3, rfl, g⟩; have f3 := Lib.hid g; clear g; obtain ⟨y00, y01, y02, y03, y04, y05, y06⟩ := f3.out.bx 0 rfl)
  | (go_at_call 60; refine ((f1.out.box1 nks1 rfl).callB (by repeat (first | exact Below.refl _ _ | apply bl_drew | apply bl_alloc)) (h2.out _ _)).mono ?_; rintro e w2 ⟨rfl, g⟩; have f2 := Lib.hid g; clear g)
  | (go_at_call 122; refine (f0.out.callN (by repeat (first | exact Below.refl _ _ | apply bl_drew | apply bl_alloc)) (h1.out _ _)).mono ?_; rintro e w1 ⟨lv1, nk1, nt1, na1, ne1, nao1, ncap1, nks1, rfl, g⟩; have f1 := Lib.hid g; clear g))
 refine bodyPost_ret (v := .agg #[.int .i64 21, .string sign, .int .i64 (S.at_ first s7.at_), .int .i64 (S.last s7.at_), .slice _ 3 3]) (by simp [results, Tryz.results153, go_sem, z0, z1, z2, z3, z4] <;> rfl) rfl ?_
 rw [hm.out]
 exact f8.out.end_ (kept5 _ _ _ _ _ _ _) 21 first sign
set_option maxRecDepth 100000 in
set_option maxHeartbeats 2000000 in
theorem term_walk_3 {w : World} {P : Nat} {tv lv : Value} {S : Src} {s : Ps} (h : PIn w P tv lv S s) (first : Nat) (h1st : first ≤ s.at_) (sign : ByteArray) (c1 : Hid (¬ (tok S.A s).kind = 3)) (c2 : Hid (isB S.A [(ByteArray.mk #[115, 117, 109])] s = true)) :
 Calls Tryz.prog 153 #[.pointer (some ⟨P, 0, none⟩), .int .i64 first, .string sign] w (NEnd w P tv lv S s (term S.A first sign s)) := by
 have f0 := Lib.hid (FIn.start h)
 have hP := lt_of_block h.box
 have hm0 : term S.A first sign s = (node 21 first (sign) [(missing 1 s), (columns S.A (next S.A s).2).1, (cell S.A (columns S.A (next S.A s).2).2).1] (cell S.A (columns S.A (next S.A s).2).2).2, (cell S.A (columns S.A (next S.A s).2).2).2) := by
  unfold term
  simp only [c1.out, c2.out, if_true, if_false, Bool.false_eq_true, Bool.true_eq_false, reduceIte, Nat.reduceEqDiff]
 have hm := Lib.hid hm0
 clear hm0
 have nc1 : (((tok S.A s).kind : Int) == 3) = false := by have := c1.out; simp; omega
 generalize term S.A first sign s = m at *
 have h1 := Lib.hid (fun (W : World) (lvq : Value) (q : PIn W P tv lvq S s) => missing_walk q 1)
 have h2 := Lib.hid (fun (W : World) (lvq : Value) (q : PIn W P tv lvq S s) => token_lit q)
 have h3 := Lib.hid (fun (W : World) (lvq : Value) (q : PIn W P tv lvq S s) => missing_walk q 1)
 have h4 := Lib.hid (fun (W : World) (lvq : Value) (q : PIn W P tv lvq S s) => opt_yes q (ByteArray.mk #[115, 117, 109]) c2.out)
 generalize (next S.A s).2 = s4 at *
 have h5 := Lib.hid (fun (W : World) (lvq : Value) (q : PIn W P tv lvq S s4) => columns_walk q)
 generalize columns S.A s4 = k5 at *
 obtain ⟨kk5, s5⟩ := k5
 have h6 := Lib.hid (fun (W : World) (lvq : Value) (q : PIn W P tv lvq S s5) => cell_walk q)
 generalize cell S.A s5 = k6 at *
 obtain ⟨kk6, s6⟩ := k6
 clear h
 go_enter Tryz.func153, Tryz.ntmps153
 go_wp2_with (first
  | (go_at_call 63; refine ((f6.out.box1 nks6 rfl).callNode (by repeat (first | exact Below.refl _ _ | apply bl_drew | apply bl_alloc)) 21 first h1st sign rfl (by simp) rfl (by simp)).mono ?_; rintro e w7 ⟨rfl, g⟩; have f7 := Lib.hid g; clear g; obtain ⟨z0, z1, z2, z3, z4, z5⟩ := f7.out.fin.cells)
  | (go_at_call 156; refine ((FIn.over (nks' := nks5) f5.out 1).callN (by repeat (first | exact Below.refl _ _ | apply bl_drew | apply bl_alloc)) (h6.out _ _)).mono ?_; rintro e w6 ⟨lv6, nk6, nt6, na6, ne6, nao6, ncap6, nks6, rfl, g⟩; have f6 := Lib.hid g; clear g; obtain ⟨y00, y01, y02, y03, y04, y05, y06⟩ := f6.out.bx 0 rfl; obtain ⟨y10, y11, y12, y13, y14, y15, y16⟩ := f6.out.bx 1 rfl)
  | (go_at_call 66; refine (f4.out.callN (by repeat (first | exact Below.refl _ _ | apply bl_drew | apply bl_alloc)) (h5.out _ _)).mono ?_; rintro e w5 ⟨lv5, nk5, nt5, na5, ne5, nao5, ncap5, nks5, rfl, g⟩; have f5 := Lib.hid g; clear g; obtain ⟨y10, y11, y12, y13, y14, y15, y16⟩ := f5.out.bx 1 rfl)
  | (go_at_call 123; refine ((f3.out.box1 nks3 rfl).callS (by repeat (first | exact Below.refl _ _ | apply bl_drew | apply bl_alloc)) (h4.out _ _)).mono ?_; rintro e w4 ⟨lv4, rfl, g⟩; have f4 := Lib.hid g; clear g)
  | (go_at_call 122; refine (f2.out.callN (by repeat (first | exact Below.refl _ _ | apply bl_drew | apply bl_alloc)) (h3.out _ _)).mono ?_; rintro e w3 ⟨lv3, nk3, nt3, na3, ne3, nao3, ncap3, nks3, rfl, g⟩; have f3 := Lib.hid g; clear g)
  | (go_at_call 60; refine ((f1.out.box1 nks1 rfl).callB (by repeat (first | exact Below.refl _ _ | apply bl_drew | apply bl_alloc)) (h2.out _ _)).mono ?_; rintro e w2 ⟨rfl, g⟩; have f2 := Lib.hid g; clear g)
  | (go_at_call 122; refine (f0.out.callN (by repeat (first | exact Below.refl _ _ | apply bl_drew | apply bl_alloc)) (h1.out _ _)).mono ?_; rintro e w1 ⟨lv1, nk1, nt1, na1, ne1, nao1, ncap1, nks1, rfl, g⟩; have f1 := Lib.hid g; clear g))
 refine bodyPost_ret (v := .agg #[.int .i64 21, .string sign, .int .i64 (S.at_ first s6.at_), .int .i64 (S.last s6.at_), .slice _ 3 3]) (by simp [results, Tryz.results153, go_sem, z0, z1, z2, z3, z4] <;> rfl) rfl ?_
 rw [hm.out]
 exact f7.out.end_ (kept5 _ _ _ _ _ _ _) 21 first sign
set_option maxRecDepth 100000 in
set_option maxHeartbeats 2000000 in
theorem term_walk_4 {w : World} {P : Nat} {tv lv : Value} {S : Src} {s : Ps} (h : PIn w P tv lv S s) (first : Nat) (h1st : first ≤ s.at_) (sign : ByteArray) (c1 : Hid (¬ (tok S.A s).kind = 3)) (c2 : Hid (isB S.A [(ByteArray.mk #[115, 117, 109])] s = false)) :
 Calls Tryz.prog 153 #[.pointer (some ⟨P, 0, none⟩), .int .i64 first, .string sign] w (NEnd w P tv lv S s (term S.A first sign s)) := by
 have f0 := Lib.hid (FIn.start h)
 have hP := lt_of_block h.box
 have hm0 : term S.A first sign s = (node 21 first (sign) [(missing 1 s), (missing 1 s), (cell S.A s).1] (cell S.A s).2, (cell S.A s).2) := by
  unfold term
  simp only [c1.out, c2.out, if_true, if_false, Bool.false_eq_true, Bool.true_eq_false, reduceIte, Nat.reduceEqDiff]
 have hm := Lib.hid hm0
 clear hm0
 have nc1 : (((tok S.A s).kind : Int) == 3) = false := by have := c1.out; simp; omega
 generalize term S.A first sign s = m at *
 have h1 := Lib.hid (fun (W : World) (lvq : Value) (q : PIn W P tv lvq S s) => missing_walk q 1)
 have h2 := Lib.hid (fun (W : World) (lvq : Value) (q : PIn W P tv lvq S s) => token_lit q)
 have h3 := Lib.hid (fun (W : World) (lvq : Value) (q : PIn W P tv lvq S s) => missing_walk q 1)
 have h4 := Lib.hid (fun (W : World) (lvq : Value) (q : PIn W P tv lvq S s) => opt_no q (ByteArray.mk #[115, 117, 109]) c2.out)
 have h5 := Lib.hid (fun (W : World) (lvq : Value) (q : PIn W P tv lvq S s) => cell_walk q)
 generalize cell S.A s = k5 at *
 obtain ⟨kk5, s5⟩ := k5
 clear h
 go_enter Tryz.func153, Tryz.ntmps153
 go_wp2_with (first
  | (go_at_call 63; refine ((f5.out.box1 nks5 rfl).callNode (by repeat (first | exact Below.refl _ _ | apply bl_drew | apply bl_alloc)) 21 first h1st sign rfl (by simp) rfl (by simp)).mono ?_; rintro e w6 ⟨rfl, g⟩; have f6 := Lib.hid g; clear g; obtain ⟨z0, z1, z2, z3, z4, z5⟩ := f6.out.fin.cells)
  | (go_at_call 156; refine (f4.out.callN (by repeat (first | exact Below.refl _ _ | apply bl_drew | apply bl_alloc)) (h5.out _ _)).mono ?_; rintro e w5 ⟨lv5, nk5, nt5, na5, ne5, nao5, ncap5, nks5, rfl, g⟩; have f5 := Lib.hid g; clear g; obtain ⟨y00, y01, y02, y03, y04, y05, y06⟩ := f5.out.bx 0 rfl; obtain ⟨y10, y11, y12, y13, y14, y15, y16⟩ := f5.out.bx 1 rfl)
  | (go_at_call 123; refine ((f3.out.box1 nks3 rfl).callS (by repeat (first | exact Below.refl _ _ | apply bl_drew | apply bl_alloc)) (h4.out _ _)).mono ?_; rintro e w4 ⟨lv4, rfl, g⟩; have f4 := Lib.hid g; clear g)
  | (go_at_call 122; refine (f2.out.callN (by repeat (first | exact Below.refl _ _ | apply bl_drew | apply bl_alloc)) (h3.out _ _)).mono ?_; rintro e w3 ⟨lv3, nk3, nt3, na3, ne3, nao3, ncap3, nks3, rfl, g⟩; have f3 := Lib.hid g; clear g)
  | (go_at_call 60; refine ((f1.out.box1 nks1 rfl).callB (by repeat (first | exact Below.refl _ _ | apply bl_drew | apply bl_alloc)) (h2.out _ _)).mono ?_; rintro e w2 ⟨rfl, g⟩; have f2 := Lib.hid g; clear g)
  | (go_at_call 122; refine (f0.out.callN (by repeat (first | exact Below.refl _ _ | apply bl_drew | apply bl_alloc)) (h1.out _ _)).mono ?_; rintro e w1 ⟨lv1, nk1, nt1, na1, ne1, nao1, ncap1, nks1, rfl, g⟩; have f1 := Lib.hid g; clear g))
 refine bodyPost_ret (v := .agg #[.int .i64 21, .string sign, .int .i64 (S.at_ first s5.at_), .int .i64 (S.last s5.at_), .slice _ 3 3]) (by simp [results, Tryz.results153, go_sem, z0, z1, z2, z3, z4] <;> rfl) rfl ?_
 rw [hm.out]
 exact f6.out.end_ (kept5 _ _ _ _ _ _ _) 21 first sign
theorem term_walk {w : World} {P : Nat} {tv lv : Value} {S : Src} {s : Ps} (h : PIn w P tv lv S s) (first : Nat) (h1st : first ≤ s.at_) (sign : ByteArray) :
 Calls Tryz.prog 153 #[.pointer (some ⟨P, 0, none⟩), .int .i64 first, .string sign] w (NEnd w P tv lv S s (term S.A first sign s)) := by
 by_cases q1 : (tok S.A s).kind = 3
 ·skip
  cases q2 : isB S.A [(ByteArray.mk #[115, 117, 109])] (demand S.A (ByteArray.mk #[42]) (number S.A s).2).2 with
  | true =>
   exact term_walk_1 h first h1st sign (Lib.hid q1) (Lib.hid q2)
  | false =>
   exact term_walk_2 h first h1st sign (Lib.hid q1) (Lib.hid q2)
 ·skip
  cases q2 : isB S.A [(ByteArray.mk #[115, 117, 109])] s with
  | true =>
   exact term_walk_3 h first h1st sign (Lib.hid q1) (Lib.hid q2)
  | false =>
   exact term_walk_4 h first h1st sign (Lib.hid q1) (Lib.hid q2)
end Go.Proofs.YthggagophcnkfaaGreatDoor.px
namespace Go.Proofs.YthggagophcnkfaaGreatDoor.px
open Go.RowKit Go.Proofs.YthggagophcnkfaaGreatDoor.agg Go.Proofs.YthggagophcnkfaaGreatDoor.sx
set_option linter.unusedSimpArgs false
set_option linter.unusedVariables false
theorem FIn.row1 {w0 : World} {Z : Nat} {P : Nat} {tv lv0 : Value} {S : Src} {s0 : Ps} {w : World} {lv : Value} {s : Ps} {nk : Int} {nt : ByteArray} {na ne : Int} {nao : Option Addr} {nl ncap : Nat} {nks : List Nd} {t : PT}
 (h : FIn w0 Z P tv lv0 S s0 w lv s [(Nd.mk nk nt na ne (.slice nao nl ncap) nks, t)] []) : EIn w0 (some Z) (Z + 1) P tv lv0 S s0 (w.alloc (.cells #[.int .i64 nk, .string nt, .int .i64 na, .int .i64 ne, .slice nao nl ncap] 25)) lv s (.slice (some ⟨w.heap.size, 0, none⟩) 1 1) [(Nd.mk nk nt na ne (.slice nao nl ncap) nks, t)] := by
 have f := h.below ((Below.refl _ w).alloc (Nat.le_refl _) (.cells #[.int .i64 nk, .string nt, .int .i64 na, .int .i64 ne, .slice nao nl ncap] 25))
 have hZ := h.hZ
 have hz := h.zlt
 refine ⟨f.pin, f.kept, f.fresh, f.mono, by omega, by simp; omega, fun b hb => by have := h.tlt b hb; omega, fun Z' e => ?_, ⟨?_, fun g hg e => ?_, fun p hp => ?_⟩, by simp⟩
 ·have e2 : Z = Z' := by simpa using e
  subst e2
  exact ⟨f.box, f.far, by omega, hZ⟩
 ·have := World.ownsRow_lit (base := Z + 1) (e := 25) (size := 5) w #[.int .i64 nk, .string nt, .int .i64 na, .int .i64 ne, .slice nao nl ncap] 1 (by omega) (by unfold maxLen; omega) rfl
  simpa [Nd.cells, Nd.kind, Nd.text, Nd.fr, Nd.to, Nd.kv] using this
 ·have e2 : w.heap.size = g := by simpa [Value.ownBlock] using hg
  have := h.pin.lt g e
  omega
 ·have h1 := h.kids p hp
  refine ⟨(h1.1.mono (fun b hb hq => ⟨hq.1, hq.2.1, fun e => ?_⟩)).later ((Below.refl _ w).alloc (Nat.le_refl _) _), h1.2⟩
  have e2 : w.heap.size = b := by simpa [Value.ownBlock] using e
  omega
theorem terms_stop {A : List Tk} {k : Nat} {l : List PT} {s : Ps} (h : isB A [(ByteArray.mk #[43]), (ByteArray.mk #[45])] s = false) : terms A k l s = (l, s) := by
 cases k with
 | zero => rfl
 | succ k => rw [terms, h]; rfl
theorem terms_go {A : List Tk} {k : Nat} {l : List PT} {s : Ps} (h : isB A [(ByteArray.mk #[43]), (ByteArray.mk #[45])] s = true) : terms A (k + 1) l s = terms A k (l ++ [(term A s.at_ (next A s).1 (next A s).2).1]) (term A s.at_ (next A s).1 (next A s).2).2 := by
 rw [terms, h]; rfl
set_option maxRecDepth 100000 in
set_option maxHeartbeats 4000000 in
theorem total_walk {w : World} {P : Nat} {tv lv : Value} {S : Src} {s : Ps} (h : PIn w P tv lv S s) :
 Calls Tryz.prog 128 #[.pointer (some ⟨P, 0, none⟩)] w (NEnd w P tv lv S s (total S.A s)) := by
 have f0 := Lib.hid (FIn.start h)
 have cat := h.cell.2.2.1
 have hP := lt_of_block h.box
 obtain ⟨x1, s1, hx1⟩ : ∃ x1 s1, (if isB S.A [(ByteArray.mk #[45])] s then next S.A s else ((ByteArray.mk #[43]), s) : ByteArray × Ps) = (x1, s1) := ⟨_, _, rfl⟩
 have hm : Hid (total S.A s = (node 20 s.at_ ⟨#[]⟩ (terms S.A S.A.length [(term S.A s.at_ x1 s1).1] (term S.A s.at_ x1 s1).2).1 (terms S.A S.A.length [(term S.A s.at_ x1 s1).1] (term S.A s.at_ x1 s1).2).2, (terms S.A S.A.length [(term S.A s.at_ x1 s1).1] (term S.A s.at_ x1 s1).2).2)) := by
  have h0 : total S.A s = (node 20 s.at_ ⟨#[]⟩ (terms S.A S.A.length [(term S.A s.at_ (if isB S.A [(ByteArray.mk #[45])] s then next S.A s else ((ByteArray.mk #[43]), s) : ByteArray × Ps).1 (if isB S.A [(ByteArray.mk #[45])] s then next S.A s else ((ByteArray.mk #[43]), s) : ByteArray × Ps).2).1] (term S.A s.at_ (if isB S.A [(ByteArray.mk #[45])] s then next S.A s else ((ByteArray.mk #[43]), s) : ByteArray × Ps).1 (if isB S.A [(ByteArray.mk #[45])] s then next S.A s else ((ByteArray.mk #[43]), s) : ByteArray × Ps).2).2).1 (terms S.A S.A.length [(term S.A s.at_ (if isB S.A [(ByteArray.mk #[45])] s then next S.A s else ((ByteArray.mk #[43]), s) : ByteArray × Ps).1 (if isB S.A [(ByteArray.mk #[45])] s then next S.A s else ((ByteArray.mk #[43]), s) : ByteArray × Ps).2).1] (term S.A s.at_ (if isB S.A [(ByteArray.mk #[45])] s then next S.A s else ((ByteArray.mk #[43]), s) : ByteArray × Ps).1 (if isB S.A [(ByteArray.mk #[45])] s then next S.A s else ((ByteArray.mk #[43]), s) : ByteArray × Ps).2).2).2, (terms S.A S.A.length [(term S.A s.at_ (if isB S.A [(ByteArray.mk #[45])] s then next S.A s else ((ByteArray.mk #[43]), s) : ByteArray × Ps).1 (if isB S.A [(ByteArray.mk #[45])] s then next S.A s else ((ByteArray.mk #[43]), s) : ByteArray × Ps).2).1] (term S.A s.at_ (if isB S.A [(ByteArray.mk #[45])] s then next S.A s else ((ByteArray.mk #[43]), s) : ByteArray × Ps).1 (if isB S.A [(ByteArray.mk #[45])] s then next S.A s else ((ByteArray.mk #[43]), s) : ByteArray × Ps).2).2).2) := rfl
  rw [hx1] at h0
  exact h0
 have h3 := Lib.hid (fun (W : World) (lvq : Value) (q : PIn W P tv lvq S s1) (hmo : s.at_ ≤ s1.at_) => term_walk q s.at_ hmo x1)
 obtain ⟨R, hR⟩ : ∃ R, terms S.A S.A.length [(term S.A s.at_ x1 s1).1] (term S.A s.at_ x1 s1).2 = R := ⟨_, rfl⟩
 rw [hR] at hm
 have hR' := Lib.hid hR
 clear hR
 generalize total S.A s = m at *
 generalize term S.A s.at_ x1 s1 = k3 at *
 obtain ⟨kk3, s3⟩ := k3
 obtain ⟨r1, r2⟩ := R
 have hx := Lib.hid hx1
 clear hx1
 cases hi : isB S.A [(ByteArray.mk #[45])] s
 case' true =>
  have hi' := Lib.hid hi
  have h2 := Lib.hid (fun (W : World) (lvq : Value) (q : PIn W P tv lvq S s) => next_walk q (isB_kind hi'.out))
  have hxx := hx.out
  rw [hi, if_pos rfl] at hxx
  rw [hxx] at h2
  clear hi hxx h
  simp only at h2
  go_enter Tryz.func128, Tryz.ntmps128
  go_wp2_with (first
   | (go_at_call 153; refine (f2.out.callN (by repeat (first | exact Below.refl _ _ | apply bl_drew | apply bl_alloc)) (fun q => h3.out _ _ q f2.out.mono)).mono ?_; rintro e w3 ⟨lv3, nk3, nt3, na3, ne3, nao3, ncap3, nks3, rfl, g⟩; have f3 := Lib.hid g; clear g)
   | (go_at_call 62; refine (f1.out.callS (by repeat (first | exact Below.refl _ _ | apply bl_drew | apply bl_alloc)) (h2.out _ _)).mono ?_; rintro e w2 ⟨lv2, rfl, g⟩; have f2 := Lib.hid g; clear g)
   | (go_at_call 117; refine (f0.out.callIs (by repeat (first | exact Below.refl _ _ | apply bl_drew | apply bl_alloc)) [(ByteArray.mk #[45])] true hi'.out rfl (by decide) (by simp) rfl).mono ?_; rintro e w1 ⟨rfl, g⟩; have f1 := Lib.hid g; clear g))
 case' false =>
  have hi' := Lib.hid hi
  have hxx := hx.out
  rw [hi, if_neg (by simp)] at hxx
  obtain ⟨rfl, rfl⟩ : (ByteArray.mk #[43]) = x1 ∧ s = s1 := by simpa using hxx
  clear hi hxx h
  go_enter Tryz.func128, Tryz.ntmps128
  go_wp2_with (first
   | (go_at_call 153; refine (f1.out.callN (by repeat (first | exact Below.refl _ _ | apply bl_drew | apply bl_alloc)) (fun q => h3.out _ _ q f1.out.mono)).mono ?_; rintro e w3 ⟨lv3, nk3, nt3, na3, ne3, nao3, ncap3, nks3, rfl, g⟩; have f3 := Lib.hid g; clear g)
   | (go_at_call 117; refine (f0.out.callIs (by repeat (first | exact Below.refl _ _ | apply bl_drew | apply bl_alloc)) [(ByteArray.mk #[45])] false hi'.out rfl (by decide) (by simp) rfl).mono ?_; rintro e w1 ⟨rfl, g⟩; have f1 := Lib.hid g; clear g))
 all_goals
  have e4 := Lib.hid (FIn.row1 f3.out)
  go_loopw [4, 5] (fun sv v wr => ∃ (k : Nat) (lv2 : Value) (s2 : Ps) (sg : ByteArray) (g cp : Nat) (ks : Kds), sv = .string sg ∧ v = .slice (some ⟨g, 0, none⟩) ks.length cp ∧ EIn w (some w.heap.size) (w.heap.size + 1) P tv lv S s wr lv2 s2 (.slice (some ⟨g, 0, none⟩) ks.length cp) ks ∧ S.L.length ≤ s2.at_ + k ∧ Hid (terms S.A k (ks.map Prod.snd) s2 = (r1, r2))) (fun _ _ wr => S.L.length - atOf P wr)
  case atStart => exact ⟨S.A.length, lv3, s3, _, _, 1, [_], rfl, rfl, e4.out, by rw [Src.len]; omega, hR'⟩
  case round =>
   obtain ⟨k, lv4, s4, sg, g, cp, ks, rfl, rfl, e5', hk, hmo⟩ := hrel
   have e5 := Lib.hid e5'
   have hlt := e5'.pin.sok.lt
   have hmon := e5'.mono
   have hcn := e5'.cnt
   have hato := Lib.hid e5'.pin.atOf
   clear e5'
   cases hc : isB S.A [(ByteArray.mk #[43]), (ByteArray.mk #[45])] s4 with
   | true =>
    have hc' := Lib.hid hc
    obtain ⟨k', rfl⟩ : ∃ k', k = k' + 1 := ⟨k - 1, by omega⟩
    have hmo2 := Lib.hid ((terms_go hc).symm.trans hmo.out)
    have hnx : (next S.A s4).2.at_ = s4.at_ + 1 := rfl
    clear hc
    have hNx := Lib.hid (fun (W : World) (lv2 : Value) (q : PIn W P tv lv2 S s4) => next_walk q (isB_kind hc'.out))
    generalize (next S.A s4).1 = x6 at *
    generalize (next S.A s4).2 = s6 at *
    have hF2 := Lib.hid (fun (W : World) (lv2 : Value) (q : PIn W P tv lv2 S s6) (hq : s4.at_ ≤ s6.at_) => term_walk q s4.at_ hq x6)
    generalize term S.A s4.at_ x6 s6 = k7 at *
    obtain ⟨kk7, s7⟩ := k7
    go_wp2_with (first
     | (at_builtin; refine wpList_app e8.out rfl (.tmp 30) (.tmp 35) rfl rfl rfl (by omega) ?_; intro g cap w9 e; have e9 := Lib.hid e; clear e)
     | (go_at_call 153; refine (e7.out.callN (by repeat (first | exact Below.refl _ _ | apply bl_drew | apply bl_alloc)) (fun q => hF2.out _ _ q (by omega))).mono ?_; rintro e w8 ⟨lv8, nk8, nt8, na8, ne8, nao8, ncap8, nks8, rfl, g, hm8⟩; have e8 := Lib.hid g; clear g)
     | (go_at_call 62; refine (e6.out.callS (by repeat (first | exact Below.refl _ _ | apply bl_drew | apply bl_alloc)) (hNx.out _ _)).mono ?_; rintro e w7 ⟨lv7, rfl, g⟩; have e7 := Lib.hid g; clear g)
     | (go_at_call 117; refine (e5.out.callIs (by repeat (first | exact Below.refl _ _ | apply bl_drew | apply bl_alloc)) [(ByteArray.mk #[43]), (ByteArray.mk #[45])] true hc'.out rfl (by decide) (by simp) rfl).mono ?_; rintro e w6 ⟨rfl, g⟩; obtain ⟨_, _, cat6, _⟩ := g.pin.cell; have e6 := Lib.hid g; clear g))
    go_roundw
    case rel => exact ⟨k', lv8, s7, _, g, cap, ks ++ [_], rfl, by simp, by simpa using e9.out, by omega, by simpa using hmo2⟩
    case measure => rw [e9.out.pin.atOf, hato.out]; omega
   | false =>
    have hc' := Lib.hid hc
    have hst := (terms_stop hc).symm.trans hmo.out
    obtain ⟨rfl, rfl⟩ : ks.map Prod.snd = r1 ∧ s4 = r2 := by simpa using hst
    clear hc hst
    have e5r := Lib.hid (e5.out.toRow rfl)
    go_wp2_with (first
     | (go_at_call 63; refine (e6.out.callNode (by repeat (first | exact Below.refl _ _ | apply bl_drew | apply bl_alloc)) 20 s.at_ (Nat.le_refl _) ⟨#[]⟩).mono ?_; rintro e w7 ⟨rfl, g⟩; have f7 := Lib.hid g; clear g; obtain ⟨z0, z1, z2, z3, z4, z5⟩ := f7.out.fin.cells)
     | (go_at_call 117; refine (e5.out.callIs (by repeat (first | exact Below.refl _ _ | apply bl_drew | apply bl_alloc)) [(ByteArray.mk #[43]), (ByteArray.mk #[45])] false hc'.out rfl (by decide) (by simp) rfl).mono ?_; rintro e w6 ⟨rfl, g⟩; have e6 := Lib.hid (g.toRow rfl); clear g))
    refine bodyPost_ret (v := .agg #[.int .i64 20, .string ⟨#[]⟩, .int .i64 (S.at_ s.at_ s4.at_), .int .i64 (S.last s4.at_), .slice (some ⟨g, 0, none⟩) ks.length cp]) (by simp [results, Tryz.results128, go_sem, z0, z1, z2, z3, z4] <;> rfl) rfl ?_
    rw [hm.out]
    exact f7.out.end_ (kept5 _ _ _ _ _ _ _) 20 s.at_ ⟨#[]⟩
end Go.Proofs.YthggagophcnkfaaGreatDoor.px
