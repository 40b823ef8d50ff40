/- The walks of the parser's node1, unary, bound and term. -/
import Derived.Test.YthggagophcnkfaaGreatDoorM7
namespace Go.Proofs.YthggagophcnkfaaGreatDoor.px
open Go.RowKit Go.Proofs.YthggagophcnkfaaGreatDoor.agg Go.Proofs.YthggagophcnkfaaGreatDoor.sx
set_option linter.unusedSimpArgs false
set_option linter.unusedVariables false

/-- A node with one kid, which is read before its end is known. -/
def node1 (kind : Int) (first : Nat) (text : ByteArray) (f : M PT) : M PT := fun s => (node kind first text [(f s).1] (f s).2, (f s).2)
/-- An operator and its operand. -/
def unary (A : List Tk) (f : M PT) : M PT := fun s => node1 39 s.at_ (next A s).1 f (next A s).2
theorem node1_pair (A : List Tk) (kind : Int) (first : Nat) (text : ByteArray) (f : M PT) (s : Ps) : (fun (_ : List Tk) => node1 kind first text f s) A = (node kind first text [(f s).1] (f s).2, (f s).2) := rfl
set_option maxRecDepth 100000 in
set_option maxHeartbeats 2000000 in
theorem node1_walk {w : World} {P : Nat} {tv lv : Value} {S : Src} {s : Ps} (h : PIn w P tv lv S s) (kind : Int) (first : Nat) (h1st : first ≤ s.at_) (text : ByteArray) (K : Nat) (f : M PT) (n : Nat) (hf : FnM P tv S K f n) (hn : S.L.length < s.at_ + n) :
    Calls Tryz.prog 124 #[.pointer (some ⟨P, 0, none⟩), .int .i64 kind, .int .i64 first, .string text, .func (.func K) #[.pointer (some ⟨P, 0, none⟩)] #[]] w (NEnd w P tv lv S s (node1 kind first text f s)) := by
  have f0 := Lib.hid (FIn.start h)
  have hP := lt_of_block h.box
  have eg := hf.1
  have hF := Lib.hid hf.2
  clear hf
  have hm : Hid (node1 kind first text f s = (node kind first (text) [(f s).1] (f s).2, (f s).2)) := rfl
  generalize node1 kind first text f s = m at *
  have h1 := Lib.hid (fun (W : World) (lvq : Value) (q : PIn W P tv lvq S s) => hF.out _ _ _ q hn)
  generalize f s = k1 at *
  obtain ⟨kk1, s1⟩ := k1
  clear h
  go_enter Tryz.func124, Tryz.ntmps124
  go_wp2_with (first
    | (go_at_call 63; refine ((f1.out.box1 nks1 rfl).callNode (by repeat (first | exact Below.refl _ _ | apply bl_drew | apply bl_alloc)) kind first h1st text rfl (by simp) rfl (by simp)).mono ?_; rintro e w2 ⟨rfl, g⟩; have f2 := Lib.hid g; clear g; obtain ⟨z0, z1, z2, z3, z4, z5⟩ := f2.out.fin.cells)
    | (go_at_fn K; refine (f0.out.callN (by repeat (first | exact Below.refl _ _ | apply bl_drew | apply bl_alloc)) (h1.out _ _)).mono ?_; rintro e w1 ⟨lv1, nk1, nt1, na1, ne1, nao1, ncap1, nks1, rfl, g⟩; have f1 := Lib.hid g; clear g))
  refine bodyPost_ret (v := .agg #[.int .i64 kind, .string text, .int .i64 (S.at_ first s1.at_), .int .i64 (S.last s1.at_), .slice _ 1 1]) (by simp [results, Tryz.results124, go_sem, z0, z1, z2, z3, z4] <;> rfl) rfl ?_
  rw [hm.out]
  exact f2.out.end_ (kept5 _ _ _ _ _ _ _) kind first text
set_option maxRecDepth 100000 in
set_option maxHeartbeats 2000000 in
theorem unary_walk {w : World} {P : Nat} {tv lv : Value} {S : Src} {s : Ps} (h : PIn w P tv lv S s) (hk : (tok S.A s).kind ≠ 0) (K : Nat) (f : M PT) (n : Nat) (hf : FnM P tv S K f n) (hn : S.L.length < s.at_ + 1 + n) :
    Calls Tryz.prog 165 #[.pointer (some ⟨P, 0, none⟩), .func (.func K) #[.pointer (some ⟨P, 0, none⟩)] #[]] w (NEnd w P tv lv S s (unary S.A f s)) := by
  have f0 := Lib.hid (FIn.start h)
  have cat := h.cell.2.2.1
  have hP := lt_of_block h.box
  have hm : Hid (unary S.A f s = ((node1 39 s.at_ (next S.A s).1 f (next S.A s).2).1, (node1 39 s.at_ (next S.A s).1 f (next S.A s).2).2)) := rfl
  generalize unary S.A f s = m at *
  have h1 := Lib.hid (fun (W : World) (lvq : Value) (q : PIn W P tv lvq S s) => next_walk q hk)
  generalize (next S.A s).1 = x1 at *
  have hq1 : S.L.length < (next S.A s).2.at_ + n := hn
  generalize (next S.A s).2 = s1 at *
  have h2 := Lib.hid (fun (W : World) (lvq : Value) (q : PIn W P tv lvq S s1) (hmo : s.at_ ≤ s1.at_) (hq : S.L.length < s1.at_ + n) => node1_walk q 39 s.at_ hmo x1 K f n hf hq)
  generalize node1 39 s.at_ x1 f s1 = k2 at *
  obtain ⟨kk2, s2⟩ := k2
  clear h
  go_enter Tryz.func165, Tryz.ntmps165
  go_wp2_with (first
    | (go_at_call 124; refine (f1.out.callN (by repeat (first | exact Below.refl _ _ | apply bl_drew | apply bl_alloc)) (fun q => h2.out _ _ q f1.out.mono hq1)).mono ?_; rintro e w2 ⟨lv2, nk2, nt2, na2, ne2, nao2, ncap2, nks2, rfl, g⟩; have f2 := Lib.hid g; clear g; obtain ⟨z0, z1, z2, z3, z4, z5⟩ := f2.out.cells)
    | (go_at_call 62; refine (f0.out.callS (by repeat (first | exact Below.refl _ _ | apply bl_drew | apply bl_alloc)) (h1.out _ _)).mono ?_; rintro e w1 ⟨lv1, rfl, g⟩; have f1 := Lib.hid g; clear g))
  refine bodyPost_ret (v := .agg #[.int .i64 nk2, .string nt2, .int .i64 na2, .int .i64 ne2, .slice nao2 nks2.length ncap2]) (by simp [results, Tryz.results165, go_sem, z0, z1, z2, z3, z4] <;> rfl) rfl ?_
  rw [hm.out]
  exact f2.out.pass (kept5 _ _ _ _ _ _ _)
set_option maxRecDepth 100000 in
set_option maxHeartbeats 2000000 in
theorem bound_walk_1 {w : World} {P : Nat} {tv lv : Value} {S : Src} {s : Ps} (h : PIn w P tv lv S s) (K : Nat) (f : M PT) (hf : FnM P tv S K f (S.L.length + 1)) (c1 : Hid (isB S.A [(ByteArray.mk #[60, 61]), (ByteArray.mk #[62, 61])] s = true)) :
    Calls Tryz.prog 127 #[.pointer (some ⟨P, 0, none⟩), .func (.func K) #[.pointer (some ⟨P, 0, none⟩)] #[]] w (NEnd w P tv lv S s (bound S.A f s)) := by
  have f0 := Lib.hid (FIn.start h)
  have cat := h.cell.2.2.1
  have hP := lt_of_block h.box
  have eg := hf.1
  have hF := Lib.hid hf.2
  clear hf
  have hm0 : bound S.A f s = (node 19 s.at_ ((next S.A s).1) [(f (next S.A s).2).1] (f (next S.A s).2).2, (f (next S.A s).2).2) := by
    unfold bound
    simp only [c1.out, if_true, if_false, Bool.false_eq_true, Bool.true_eq_false, reduceIte, Nat.reduceEqDiff]
  have hm := Lib.hid hm0
  clear hm0
  generalize bound S.A f s = m at *
  have h2 := Lib.hid (fun (W : World) (lvq : Value) (q : PIn W P tv lvq S s) => next_walk q (isB_kind c1.out))
  generalize (next S.A s).1 = x2 at *
  generalize (next S.A s).2 = s2 at *
  have h3 := Lib.hid (fun (W : World) (lvq : Value) (q : PIn W P tv lvq S s2) => hF.out _ _ _ q (by omega))
  generalize f s2 = k3 at *
  obtain ⟨kk3, s3⟩ := k3
  clear h
  go_enter Tryz.func127, Tryz.ntmps127
  go_wp2_with (first
    | (go_at_call 63; refine ((f3.out.box1 nks3 rfl).callNode (by repeat (first | exact Below.refl _ _ | apply bl_drew | apply bl_alloc)) 19 s.at_ (Nat.le_refl _) x2 rfl (by simp) rfl (by simp)).mono ?_; rintro e w4 ⟨rfl, g⟩; have f4 := Lib.hid g; clear g; obtain ⟨z0, z1, z2, z3, z4, z5⟩ := f4.out.fin.cells)
    | (go_at_fn K; refine (f2.out.callN (by repeat (first | exact Below.refl _ _ | apply bl_drew | apply bl_alloc)) (h3.out _ _)).mono ?_; rintro e w3 ⟨lv3, nk3, nt3, na3, ne3, nao3, ncap3, nks3, rfl, g⟩; have f3 := Lib.hid g; clear g)
    | (go_at_call 62; refine (f1.out.callS (by repeat (first | exact Below.refl _ _ | apply bl_drew | apply bl_alloc)) (h2.out _ _)).mono ?_; rintro e w2 ⟨lv2, rfl, g⟩; have f2 := Lib.hid g; clear g)
    | (go_at_call 117; refine (f0.out.callIs (by repeat (first | exact Below.refl _ _ | apply bl_drew | apply bl_alloc)) [(ByteArray.mk #[60, 61]), (ByteArray.mk #[62, 61])] true c1.out rfl (by decide) (by simp) rfl).mono ?_; rintro e w1 ⟨rfl, g⟩; have f1 := Lib.hid g; clear g))
  refine bodyPost_ret (v := .agg #[.int .i64 19, .string x2, .int .i64 (S.at_ s.at_ s3.at_), .int .i64 (S.last s3.at_), .slice _ 1 1]) (by simp [results, Tryz.results127, go_sem, z0, z1, z2, z3, z4] <;> rfl) rfl ?_
  rw [hm.out]
  exact f4.out.end_ (kept5 _ _ _ _ _ _ _) 19 s.at_ x2
set_option maxRecDepth 100000 in
set_option maxHeartbeats 2000000 in
theorem bound_walk_2 {w : World} {P : Nat} {tv lv : Value} {S : Src} {s : Ps} (h : PIn w P tv lv S s) (K : Nat) (f : M PT) (hf : FnM P tv S K f (S.L.length + 1)) (c1 : Hid (isB S.A [(ByteArray.mk #[60, 61]), (ByteArray.mk #[62, 61])] s = false)) :
    Calls Tryz.prog 127 #[.pointer (some ⟨P, 0, none⟩), .func (.func K) #[.pointer (some ⟨P, 0, none⟩)] #[]] w (NEnd w P tv lv S s (bound S.A f s)) := by
  have f0 := Lib.hid (FIn.start h)
  have cat := h.cell.2.2.1
  have hP := lt_of_block h.box
  have eg := hf.1
  have hF := Lib.hid hf.2
  clear hf
  have hm0 : bound S.A f s = (node 19 s.at_ (⟨#[]⟩) [(f (report 4 (ByteArray.mk #[60, 61]) s)).1] (f (report 4 (ByteArray.mk #[60, 61]) s)).2, (f (report 4 (ByteArray.mk #[60, 61]) s)).2) := by
    unfold bound
    simp only [c1.out, if_true, if_false, Bool.false_eq_true, Bool.true_eq_false, reduceIte, Nat.reduceEqDiff]
  have hm := Lib.hid hm0
  clear hm0
  generalize bound S.A f s = m at *
  have h2 := Lib.hid (fun (W : World) (lvq : Value) (q : PIn W P tv lvq S s) => report_walk q 4 (ByteArray.mk #[60, 61]) (rp4 (by decide)))
  generalize report 4 (ByteArray.mk #[60, 61]) s = s2 at *
  have h3 := Lib.hid (fun (W : World) (lvq : Value) (q : PIn W P tv lvq S s2) => hF.out _ _ _ q (by omega))
  generalize f s2 = k3 at *
  obtain ⟨kk3, s3⟩ := k3
  clear h
  go_enter Tryz.func127, Tryz.ntmps127
  go_wp2_with (first
    | (go_at_call 63; refine ((f3.out.box1 nks3 rfl).callNode (by repeat (first | exact Below.refl _ _ | apply bl_drew | apply bl_alloc)) 19 s.at_ (Nat.le_refl _) ⟨#[]⟩ rfl (by simp) rfl (by simp)).mono ?_; rintro e w4 ⟨rfl, g⟩; have f4 := Lib.hid g; clear g; obtain ⟨z0, z1, z2, z3, z4, z5⟩ := f4.out.fin.cells)
    | (go_at_fn K; refine (f2.out.callN (by repeat (first | exact Below.refl _ _ | apply bl_drew | apply bl_alloc)) (h3.out _ _)).mono ?_; rintro e w3 ⟨lv3, nk3, nt3, na3, ne3, nao3, ncap3, nks3, rfl, g⟩; have f3 := Lib.hid g; clear g)
    | (go_at_call 44; refine (f1.out.callS (by repeat (first | exact Below.refl _ _ | apply bl_drew | apply bl_alloc)) (h2.out _ _)).mono ?_; rintro e w2 ⟨lv2, rfl, g⟩; have f2 := Lib.hid g; clear g)
    | (go_at_call 117; refine (f0.out.callIs (by repeat (first | exact Below.refl _ _ | apply bl_drew | apply bl_alloc)) [(ByteArray.mk #[60, 61]), (ByteArray.mk #[62, 61])] false c1.out rfl (by decide) (by simp) rfl).mono ?_; rintro e w1 ⟨rfl, g⟩; have f1 := Lib.hid g; clear g))
  refine bodyPost_ret (v := .agg #[.int .i64 19, .string ⟨#[]⟩, .int .i64 (S.at_ s.at_ s3.at_), .int .i64 (S.last s3.at_), .slice _ 1 1]) (by simp [results, Tryz.results127, go_sem, z0, z1, z2, z3, z4] <;> rfl) rfl ?_
  rw [hm.out]
  exact f4.out.end_ (kept5 _ _ _ _ _ _ _) 19 s.at_ ⟨#[]⟩
theorem bound_walk {w : World} {P : Nat} {tv lv : Value} {S : Src} {s : Ps} (h : PIn w P tv lv S s) (K : Nat) (f : M PT) (hf : FnM P tv S K f (S.L.length + 1)) :
    Calls Tryz.prog 127 #[.pointer (some ⟨P, 0, none⟩), .func (.func K) #[.pointer (some ⟨P, 0, none⟩)] #[]] w (NEnd w P tv lv S s (bound S.A f s)) := by
  cases q1 : isB S.A [(ByteArray.mk #[60, 61]), (ByteArray.mk #[62, 61])] s with
  | true =>
    exact bound_walk_1 h K f hf (Lib.hid q1)
  | false =>
    exact bound_walk_2 h K f hf (Lib.hid q1)
set_option maxRecDepth 100000 in
set_option maxHeartbeats 2000000 in
theorem term_walk_1 {w : World} {P : Nat} {tv lv : Value} {S : Src} {s : Ps} (h : PIn w P tv lv S s) (first : Nat) (h1st : first ≤ s.at_) (sign : ByteArray) (c1 : Hid ((tok S.A s).kind = 3)) (c2 : Hid (isB S.A [(ByteArray.mk #[115, 117, 109])] (demand S.A (ByteArray.mk #[42]) (number S.A s).2).2 = true)) :
    Calls Tryz.prog 153 #[.pointer (some ⟨P, 0, none⟩), .int .i64 first, .string sign] w (NEnd w P tv lv S s (term S.A first sign s)) := by
  have f0 := Lib.hid (FIn.start h)
  have hP := lt_of_block h.box
  have hm0 : term S.A first sign s = (node 21 first (sign) [(number S.A s).1, (columns S.A (next S.A (demand S.A (ByteArray.mk #[42]) (number S.A s).2).2).2).1, (cell S.A (columns S.A (next S.A (demand S.A (ByteArray.mk #[42]) (number S.A s).2).2).2).2).1] (cell S.A (columns S.A (next S.A (demand S.A (ByteArray.mk #[42]) (number S.A s).2).2).2).2).2, (cell S.A (columns S.A (next S.A (demand S.A (ByteArray.mk #[42]) (number S.A s).2).2).2).2).2) := by
    unfold term
    simp only [c1.out, c2.out, if_true, if_false, Bool.false_eq_true, Bool.true_eq_false, reduceIte, Nat.reduceEqDiff]
  have hm := Lib.hid hm0
  clear hm0
  generalize term S.A first sign s = m at *
  have h1 := Lib.hid (fun (W : World) (lvq : Value) (q : PIn W P tv lvq S s) => missing_walk q 1)
  have h2 := Lib.hid (fun (W : World) (lvq : Value) (q : PIn W P tv lvq S s) => token_k q c1.out)
  have h3 := Lib.hid (fun (W : World) (lvq : Value) (q : PIn W P tv lvq S s) => number_walk q)
  generalize number S.A s = k3 at *
  obtain ⟨kk3, s3⟩ := k3
  have h4 := Lib.hid (fun (W : World) (lvq : Value) (q : PIn W P tv lvq S s3) => demand_walk q (ByteArray.mk #[42]) (by decide))
  generalize (demand S.A (ByteArray.mk #[42]) s3).1 = x4 at *
  generalize (demand S.A (ByteArray.mk #[42]) s3).2 = s4 at *
  have h5 := Lib.hid (fun (W : World) (lvq : Value) (q : PIn W P tv lvq S s4) => missing_walk q 1)
  have h6 := Lib.hid (fun (W : World) (lvq : Value) (q : PIn W P tv lvq S s4) => opt_yes q (ByteArray.mk #[115, 117, 109]) c2.out)
  generalize (next S.A s4).2 = s6 at *
  have h7 := Lib.hid (fun (W : World) (lvq : Value) (q : PIn W P tv lvq S s6) => columns_walk q)
  generalize columns S.A s6 = k7 at *
  obtain ⟨kk7, s7⟩ := k7
  have h8 := Lib.hid (fun (W : World) (lvq : Value) (q : PIn W P tv lvq S s7) => cell_walk q)
  generalize cell S.A s7 = k8 at *
  obtain ⟨kk8, s8⟩ := k8
  clear h
  go_enter Tryz.func153, Tryz.ntmps153
  go_wp2_with (first
    | (go_at_call 63; refine ((f8.out.box1 nks8 rfl).callNode (by repeat (first | exact Below.refl _ _ | apply bl_drew | apply bl_alloc)) 21 first h1st sign rfl (by simp) rfl (by simp)).mono ?_; rintro e w9 ⟨rfl, g⟩; have f9 := Lib.hid g; clear g; obtain ⟨z0, z1, z2, z3, z4, z5⟩ := f9.out.fin.cells)
    | (go_at_call 156; refine ((FIn.over (nks' := nks7) f7.out 1).callN (by repeat (first | exact Below.refl _ _ | apply bl_drew | apply bl_alloc)) (h8.out _ _)).mono ?_; rintro e w8 ⟨lv8, nk8, nt8, na8, ne8, nao8, ncap8, nks8, rfl, g⟩; have f8 := Lib.hid g; clear g; obtain ⟨y00, y01, y02, y03, y04, y05, y06⟩ := f8.out.bx 0 rfl; obtain ⟨y10, y11, y12, y13, y14, y15, y16⟩ := f8.out.bx 1 rfl)
    | (go_at_call 66; refine (f6.out.callN (by repeat (first | exact Below.refl _ _ | apply bl_drew | apply bl_alloc)) (h7.out _ _)).mono ?_; rintro e w7 ⟨lv7, nk7, nt7, na7, ne7, nao7, ncap7, nks7, rfl, g⟩; have f7 := Lib.hid g; clear g; obtain ⟨y10, y11, y12, y13, y14, y15, y16⟩ := f7.out.bx 1 rfl)
    | (go_at_call 123; refine ((f5.out.box1 nks5 rfl).callS (by repeat (first | exact Below.refl _ _ | apply bl_drew | apply bl_alloc)) (h6.out _ _)).mono ?_; rintro e w6 ⟨lv6, rfl, g⟩; have f6 := Lib.hid g; clear g)
    | (go_at_call 122; refine (f4.out.callN (by repeat (first | exact Below.refl _ _ | apply bl_drew | apply bl_alloc)) (h5.out _ _)).mono ?_; rintro e w5 ⟨lv5, nk5, nt5, na5, ne5, nao5, ncap5, nks5, rfl, g⟩; have f5 := Lib.hid g; clear g)
    | (go_at_call 67; refine ((FIn.over (nks' := nks3) f3.out 0).callS (by repeat (first | exact Below.refl _ _ | apply bl_drew | apply bl_alloc)) (h4.out _ _)).mono ?_; rintro e w4 ⟨lv4, rfl, g⟩; have f4 := Lib.hid g; clear g)
    | (go_at_call 65; refine (f2.out.callN (by repeat (first | exact Below.refl _ _ | apply bl_drew | apply bl_alloc)) (h3.out _ _)).mono ?_; rintro e w3 ⟨lv3, nk3, nt3, na3, ne3, nao3, ncap3, nks3, rfl, g⟩; have f3 := Lib.hid g; clear g; obtain ⟨y00, y01, y02, y03, y04, y05, y06⟩ := f3.out.bx 0 rfl)
    | (go_at_call 60; refine ((f1.out.box1 nks1 rfl).callB (by repeat (first | exact Below.refl _ _ | apply bl_drew | apply bl_alloc)) (h2.out _ _)).mono ?_; rintro e w2 ⟨rfl, g⟩; have f2 := Lib.hid g; clear g)
    | (go_at_call 122; refine (f0.out.callN (by repeat (first | exact Below.refl _ _ | apply bl_drew | apply bl_alloc)) (h1.out _ _)).mono ?_; rintro e w1 ⟨lv1, nk1, nt1, na1, ne1, nao1, ncap1, nks1, rfl, g⟩; have f1 := Lib.hid g; clear g))
  refine bodyPost_ret (v := .agg #[.int .i64 21, .string sign, .int .i64 (S.at_ first s8.at_), .int .i64 (S.last s8.at_), .slice _ 3 3]) (by simp [results, Tryz.results153, go_sem, z0, z1, z2, z3, z4] <;> rfl) rfl ?_
  rw [hm.out]
  exact f9.out.end_ (kept5 _ _ _ _ _ _ _) 21 first sign
set_option maxRecDepth 100000 in
set_option maxHeartbeats 2000000 in
theorem term_walk_2 {w : World} {P : Nat} {tv lv : Value} {S : Src} {s : Ps} (h : PIn w P tv lv S s) (first : Nat) (h1st : first ≤ s.at_) (sign : ByteArray) (c1 : Hid ((tok S.A s).kind = 3)) (c2 : Hid (isB S.A [(ByteArray.mk #[115, 117, 109])] (demand S.A (ByteArray.mk #[42]) (number S.A s).2).2 = false)) :
    Calls Tryz.prog 153 #[.pointer (some ⟨P, 0, none⟩), .int .i64 first, .string sign] w (NEnd w P tv lv S s (term S.A first sign s)) := by
  have f0 := Lib.hid (FIn.start h)
  have hP := lt_of_block h.box
  have hm0 : term S.A first sign s = (node 21 first (sign) [(number S.A s).1, (missing 1 (demand S.A (ByteArray.mk #[42]) (number S.A s).2).2), (cell S.A (demand S.A (ByteArray.mk #[42]) (number S.A s).2).2).1] (cell S.A (demand S.A (ByteArray.mk #[42]) (number S.A s).2).2).2, (cell S.A (demand S.A (ByteArray.mk #[42]) (number S.A s).2).2).2) := by
    unfold term
    simp only [c1.out, c2.out, if_true, if_false, Bool.false_eq_true, Bool.true_eq_false, reduceIte, Nat.reduceEqDiff]
  have hm := Lib.hid hm0
  clear hm0
  generalize term S.A first sign s = m at *
  have h1 := Lib.hid (fun (W : World) (lvq : Value) (q : PIn W P tv lvq S s) => missing_walk q 1)
  have h2 := Lib.hid (fun (W : World) (lvq : Value) (q : PIn W P tv lvq S s) => token_k q c1.out)
  have h3 := Lib.hid (fun (W : World) (lvq : Value) (q : PIn W P tv lvq S s) => number_walk q)
  generalize number S.A s = k3 at *
  obtain ⟨kk3, s3⟩ := k3
  have h4 := Lib.hid (fun (W : World) (lvq : Value) (q : PIn W P tv lvq S s3) => demand_walk q (ByteArray.mk #[42]) (by decide))
  generalize (demand S.A (ByteArray.mk #[42]) s3).1 = x4 at *
  generalize (demand S.A (ByteArray.mk #[42]) s3).2 = s4 at *
  have h5 := Lib.hid (fun (W : World) (lvq : Value) (q : PIn W P tv lvq S s4) => missing_walk q 1)
  have h6 := Lib.hid (fun (W : World) (lvq : Value) (q : PIn W P tv lvq S s4) => opt_no q (ByteArray.mk #[115, 117, 109]) c2.out)
  have h7 := Lib.hid (fun (W : World) (lvq : Value) (q : PIn W P tv lvq S s4) => cell_walk q)
  generalize cell S.A s4 = k7 at *
  obtain ⟨kk7, s7⟩ := k7
  clear h
  go_enter Tryz.func153, Tryz.ntmps153
  go_wp2_with (first
    | (go_at_call 63; refine ((f7.out.box1 nks7 rfl).callNode (by repeat (first | exact Below.refl _ _ | apply bl_drew | apply bl_alloc)) 21 first h1st sign rfl (by simp) rfl (by simp)).mono ?_; rintro e w8 ⟨rfl, g⟩; have f8 := Lib.hid g; clear g; obtain ⟨z0, z1, z2, z3, z4, z5⟩ := f8.out.fin.cells)
    | (go_at_call 156; refine (f6.out.callN (by repeat (first | exact Below.refl _ _ | apply bl_drew | apply bl_alloc)) (h7.out _ _)).mono ?_; rintro e w7 ⟨lv7, nk7, nt7, na7, ne7, nao7, ncap7, nks7, rfl, g⟩; have f7 := Lib.hid g; clear g; obtain ⟨y00, y01, y02, y03, y04, y05, y06⟩ := f7.out.bx 0 rfl; obtain ⟨y10, y11, y12, y13, y14, y15, y16⟩ := f7.out.bx 1 rfl)
    | (go_at_call 123; refine ((f5.out.box1 nks5 rfl).callS (by repeat (first | exact Below.refl _ _ | apply bl_drew | apply bl_alloc)) (h6.out _ _)).mono ?_; rintro e w6 ⟨lv6, rfl, g⟩; have f6 := Lib.hid g; clear g)
    | (go_at_call 122; refine (f4.out.callN (by repeat (first | exact Below.refl _ _ | apply bl_drew | apply bl_alloc)) (h5.out _ _)).mono ?_; rintro e w5 ⟨lv5, nk5, nt5, na5, ne5, nao5, ncap5, nks5, rfl, g⟩; have f5 := Lib.hid g; clear g)
    | (go_at_call 67; refine ((FIn.over (nks' := nks3) f3.out 0).callS (by repeat (first | exact Below.refl _ _ | apply bl_drew | apply bl_alloc)) (h4.out _ _)).mono ?_; rintro e w4 ⟨lv4, rfl, g⟩; have f4 := Lib.hid g; clear g)
    | (go_at_call 65; refine (f2.out.callN (by repeat (first | exact Below.refl _ _ | apply bl_drew | apply bl_alloc)) (h3.out _ _)).mono ?_; rintro e w3 ⟨lv3, nk3, nt3, na3, ne3, nao3, ncap3, nks3, rfl, g⟩; have f3 := Lib.hid g; clear g; obtain ⟨y00, y01, y02, y03, y04, y05, y06⟩ := f3.out.bx 0 rfl)
    | (go_at_call 60; refine ((f1.out.box1 nks1 rfl).callB (by repeat (first | exact Below.refl _ _ | apply bl_drew | apply bl_alloc)) (h2.out _ _)).mono ?_; rintro e w2 ⟨rfl, g⟩; have f2 := Lib.hid g; clear g)
    | (go_at_call 122; refine (f0.out.callN (by repeat (first | exact Below.refl _ _ | apply bl_drew | apply bl_alloc)) (h1.out _ _)).mono ?_; rintro e w1 ⟨lv1, nk1, nt1, na1, ne1, nao1, ncap1, nks1, rfl, g⟩; have f1 := Lib.hid g; clear g))
  refine bodyPost_ret (v := .agg #[.int .i64 21, .string sign, .int .i64 (S.at_ first s7.at_), .int .i64 (S.last s7.at_), .slice _ 3 3]) (by simp [results, Tryz.results153, go_sem, z0, z1, z2, z3, z4] <;> rfl) rfl ?_
  rw [hm.out]
  exact f8.out.end_ (kept5 _ _ _ _ _ _ _) 21 first sign
set_option maxRecDepth 100000 in
set_option maxHeartbeats 2000000 in
theorem term_walk_3 {w : World} {P : Nat} {tv lv : Value} {S : Src} {s : Ps} (h : PIn w P tv lv S s) (first : Nat) (h1st : first ≤ s.at_) (sign : ByteArray) (c1 : Hid (¬ (tok S.A s).kind = 3)) (c2 : Hid (isB S.A [(ByteArray.mk #[115, 117, 109])] s = true)) :
    Calls Tryz.prog 153 #[.pointer (some ⟨P, 0, none⟩), .int .i64 first, .string sign] w (NEnd w P tv lv S s (term S.A first sign s)) := by
  have f0 := Lib.hid (FIn.start h)
  have hP := lt_of_block h.box
  have hm0 : term S.A first sign s = (node 21 first (sign) [(missing 1 s), (columns S.A (next S.A s).2).1, (cell S.A (columns S.A (next S.A s).2).2).1] (cell S.A (columns S.A (next S.A s).2).2).2, (cell S.A (columns S.A (next S.A s).2).2).2) := by
    unfold term
    simp only [c1.out, c2.out, if_true, if_false, Bool.false_eq_true, Bool.true_eq_false, reduceIte, Nat.reduceEqDiff]
  have hm := Lib.hid hm0
  clear hm0
  have nc1 : (((tok S.A s).kind : Int) == 3) = false := by have := c1.out; simp; omega
  generalize term S.A first sign s = m at *
  have h1 := Lib.hid (fun (W : World) (lvq : Value) (q : PIn W P tv lvq S s) => missing_walk q 1)
  have h2 := Lib.hid (fun (W : World) (lvq : Value) (q : PIn W P tv lvq S s) => token_lit q)
  have h3 := Lib.hid (fun (W : World) (lvq : Value) (q : PIn W P tv lvq S s) => missing_walk q 1)
  have h4 := Lib.hid (fun (W : World) (lvq : Value) (q : PIn W P tv lvq S s) => opt_yes q (ByteArray.mk #[115, 117, 109]) c2.out)
  generalize (next S.A s).2 = s4 at *
  have h5 := Lib.hid (fun (W : World) (lvq : Value) (q : PIn W P tv lvq S s4) => columns_walk q)
  generalize columns S.A s4 = k5 at *
  obtain ⟨kk5, s5⟩ := k5
  have h6 := Lib.hid (fun (W : World) (lvq : Value) (q : PIn W P tv lvq S s5) => cell_walk q)
  generalize cell S.A s5 = k6 at *
  obtain ⟨kk6, s6⟩ := k6
  clear h
  go_enter Tryz.func153, Tryz.ntmps153
  go_wp2_with (first
    | (go_at_call 63; refine ((f6.out.box1 nks6 rfl).callNode (by repeat (first | exact Below.refl _ _ | apply bl_drew | apply bl_alloc)) 21 first h1st sign rfl (by simp) rfl (by simp)).mono ?_; rintro e w7 ⟨rfl, g⟩; have f7 := Lib.hid g; clear g; obtain ⟨z0, z1, z2, z3, z4, z5⟩ := f7.out.fin.cells)
    | (go_at_call 156; refine ((FIn.over (nks' := nks5) f5.out 1).callN (by repeat (first | exact Below.refl _ _ | apply bl_drew | apply bl_alloc)) (h6.out _ _)).mono ?_; rintro e w6 ⟨lv6, nk6, nt6, na6, ne6, nao6, ncap6, nks6, rfl, g⟩; have f6 := Lib.hid g; clear g; obtain ⟨y00, y01, y02, y03, y04, y05, y06⟩ := f6.out.bx 0 rfl; obtain ⟨y10, y11, y12, y13, y14, y15, y16⟩ := f6.out.bx 1 rfl)
    | (go_at_call 66; refine (f4.out.callN (by repeat (first | exact Below.refl _ _ | apply bl_drew | apply bl_alloc)) (h5.out _ _)).mono ?_; rintro e w5 ⟨lv5, nk5, nt5, na5, ne5, nao5, ncap5, nks5, rfl, g⟩; have f5 := Lib.hid g; clear g; obtain ⟨y10, y11, y12, y13, y14, y15, y16⟩ := f5.out.bx 1 rfl)
    | (go_at_call 123; refine ((f3.out.box1 nks3 rfl).callS (by repeat (first | exact Below.refl _ _ | apply bl_drew | apply bl_alloc)) (h4.out _ _)).mono ?_; rintro e w4 ⟨lv4, rfl, g⟩; have f4 := Lib.hid g; clear g)
    | (go_at_call 122; refine (f2.out.callN (by repeat (first | exact Below.refl _ _ | apply bl_drew | apply bl_alloc)) (h3.out _ _)).mono ?_; rintro e w3 ⟨lv3, nk3, nt3, na3, ne3, nao3, ncap3, nks3, rfl, g⟩; have f3 := Lib.hid g; clear g)
    | (go_at_call 60; refine ((f1.out.box1 nks1 rfl).callB (by repeat (first | exact Below.refl _ _ | apply bl_drew | apply bl_alloc)) (h2.out _ _)).mono ?_; rintro e w2 ⟨rfl, g⟩; have f2 := Lib.hid g; clear g)
    | (go_at_call 122; refine (f0.out.callN (by repeat (first | exact Below.refl _ _ | apply bl_drew | apply bl_alloc)) (h1.out _ _)).mono ?_; rintro e w1 ⟨lv1, nk1, nt1, na1, ne1, nao1, ncap1, nks1, rfl, g⟩; have f1 := Lib.hid g; clear g))
  refine bodyPost_ret (v := .agg #[.int .i64 21, .string sign, .int .i64 (S.at_ first s6.at_), .int .i64 (S.last s6.at_), .slice _ 3 3]) (by simp [results, Tryz.results153, go_sem, z0, z1, z2, z3, z4] <;> rfl) rfl ?_
  rw [hm.out]
  exact f7.out.end_ (kept5 _ _ _ _ _ _ _) 21 first sign
set_option maxRecDepth 100000 in
set_option maxHeartbeats 2000000 in
theorem term_walk_4 {w : World} {P : Nat} {tv lv : Value} {S : Src} {s : Ps} (h : PIn w P tv lv S s) (first : Nat) (h1st : first ≤ s.at_) (sign : ByteArray) (c1 : Hid (¬ (tok S.A s).kind = 3)) (c2 : Hid (isB S.A [(ByteArray.mk #[115, 117, 109])] s = false)) :
    Calls Tryz.prog 153 #[.pointer (some ⟨P, 0, none⟩), .int .i64 first, .string sign] w (NEnd w P tv lv S s (term S.A first sign s)) := by
  have f0 := Lib.hid (FIn.start h)
  have hP := lt_of_block h.box
  have hm0 : term S.A first sign s = (node 21 first (sign) [(missing 1 s), (missing 1 s), (cell S.A s).1] (cell S.A s).2, (cell S.A s).2) := by
    unfold term
    simp only [c1.out, c2.out, if_true, if_false, Bool.false_eq_true, Bool.true_eq_false, reduceIte, Nat.reduceEqDiff]
  have hm := Lib.hid hm0
  clear hm0
  have nc1 : (((tok S.A s).kind : Int) == 3) = false := by have := c1.out; simp; omega
  generalize term S.A first sign s = m at *
  have h1 := Lib.hid (fun (W : World) (lvq : Value) (q : PIn W P tv lvq S s) => missing_walk q 1)
  have h2 := Lib.hid (fun (W : World) (lvq : Value) (q : PIn W P tv lvq S s) => token_lit q)
  have h3 := Lib.hid (fun (W : World) (lvq : Value) (q : PIn W P tv lvq S s) => missing_walk q 1)
  have h4 := Lib.hid (fun (W : World) (lvq : Value) (q : PIn W P tv lvq S s) => opt_no q (ByteArray.mk #[115, 117, 109]) c2.out)
  have h5 := Lib.hid (fun (W : World) (lvq : Value) (q : PIn W P tv lvq S s) => cell_walk q)
  generalize cell S.A s = k5 at *
  obtain ⟨kk5, s5⟩ := k5
  clear h
  go_enter Tryz.func153, Tryz.ntmps153
  go_wp2_with (first
    | (go_at_call 63; refine ((f5.out.box1 nks5 rfl).callNode (by repeat (first | exact Below.refl _ _ | apply bl_drew | apply bl_alloc)) 21 first h1st sign rfl (by simp) rfl (by simp)).mono ?_; rintro e w6 ⟨rfl, g⟩; have f6 := Lib.hid g; clear g; obtain ⟨z0, z1, z2, z3, z4, z5⟩ := f6.out.fin.cells)
    | (go_at_call 156; refine (f4.out.callN (by repeat (first | exact Below.refl _ _ | apply bl_drew | apply bl_alloc)) (h5.out _ _)).mono ?_; rintro e w5 ⟨lv5, nk5, nt5, na5, ne5, nao5, ncap5, nks5, rfl, g⟩; have f5 := Lib.hid g; clear g; obtain ⟨y00, y01, y02, y03, y04, y05, y06⟩ := f5.out.bx 0 rfl; obtain ⟨y10, y11, y12, y13, y14, y15, y16⟩ := f5.out.bx 1 rfl)
    | (go_at_call 123; refine ((f3.out.box1 nks3 rfl).callS (by repeat (first | exact Below.refl _ _ | apply bl_drew | apply bl_alloc)) (h4.out _ _)).mono ?_; rintro e w4 ⟨lv4, rfl, g⟩; have f4 := Lib.hid g; clear g)
    | (go_at_call 122; refine (f2.out.callN (by repeat (first | exact Below.refl _ _ | apply bl_drew | apply bl_alloc)) (h3.out _ _)).mono ?_; rintro e w3 ⟨lv3, nk3, nt3, na3, ne3, nao3, ncap3, nks3, rfl, g⟩; have f3 := Lib.hid g; clear g)
    | (go_at_call 60; refine ((f1.out.box1 nks1 rfl).callB (by repeat (first | exact Below.refl _ _ | apply bl_drew | apply bl_alloc)) (h2.out _ _)).mono ?_; rintro e w2 ⟨rfl, g⟩; have f2 := Lib.hid g; clear g)
    | (go_at_call 122; refine (f0.out.callN (by repeat (first | exact Below.refl _ _ | apply bl_drew | apply bl_alloc)) (h1.out _ _)).mono ?_; rintro e w1 ⟨lv1, nk1, nt1, na1, ne1, nao1, ncap1, nks1, rfl, g⟩; have f1 := Lib.hid g; clear g))
  refine bodyPost_ret (v := .agg #[.int .i64 21, .string sign, .int .i64 (S.at_ first s5.at_), .int .i64 (S.last s5.at_), .slice _ 3 3]) (by simp [results, Tryz.results153, go_sem, z0, z1, z2, z3, z4] <;> rfl) rfl ?_
  rw [hm.out]
  exact f6.out.end_ (kept5 _ _ _ _ _ _ _) 21 first sign
theorem term_walk {w : World} {P : Nat} {tv lv : Value} {S : Src} {s : Ps} (h : PIn w P tv lv S s) (first : Nat) (h1st : first ≤ s.at_) (sign : ByteArray) :
    Calls Tryz.prog 153 #[.pointer (some ⟨P, 0, none⟩), .int .i64 first, .string sign] w (NEnd w P tv lv S s (term S.A first sign s)) := by
  by_cases q1 : (tok S.A s).kind = 3
  · skip
    cases q2 : isB S.A [(ByteArray.mk #[115, 117, 109])] (demand S.A (ByteArray.mk #[42]) (number S.A s).2).2 with
    | true =>
      exact term_walk_1 h first h1st sign (Lib.hid q1) (Lib.hid q2)
    | false =>
      exact term_walk_2 h first h1st sign (Lib.hid q1) (Lib.hid q2)
  · skip
    cases q2 : isB S.A [(ByteArray.mk #[115, 117, 109])] s with
    | true =>
      exact term_walk_3 h first h1st sign (Lib.hid q1) (Lib.hid q2)
    | false =>
      exact term_walk_4 h first h1st sign (Lib.hid q1) (Lib.hid q2)
end Go.Proofs.YthggagophcnkfaaGreatDoor.px
