/- The walks of the reference parser's declaration, keyword by keyword (one). The walks of the reference parser's declaration, keyword by keyword (two). The walks of the reference parser's declaration, keyword by keyword (three). The walk of the reference parser's declaration where there is one. -/
import Derived.Test.YthggagophcnkfaaGreatDoorM27
import Derived.Test.YthggagophcnkfaaGreatDoorM28
namespace Go.Proofs.YthggagophcnkfaaGreatDoor.py
open Go.RowKit Go.Proofs.YthggagophcnkfaaGreatDoor.agg Go.Proofs.YthggagophcnkfaaGreatDoor.sx Go.Proofs.YthggagophcnkfaaGreatDoor.px
set_option linter.unusedSimpArgs false
set_option linter.unusedVariables false
set_option maxRecDepth 100000 in
set_option maxHeartbeats 2000000 in
theorem decl_sort {w : World} {P : Nat} {tv lv : Value} {S : Src} {s : Ps} (h : PIn w P tv lv S s) (c1 : Hid (declares S.A s = true)) (c2 : Hid ((next S.A s).1 = (ByteArray.mk #[115, 111, 114, 116]))) :
 Calls Tryz.prog 35 #[.pointer (some ⟨P, 0, none⟩)] w (NEnd w P tv lv S { s with at_ := s.at_ + 1 } (declaration S.A s)) := by
 have f0 := Lib.hid (FIn.start h)
 have cat := h.cell.2.2.1
 have cla := h.cell.2.2.2.1
 have hP := lt_of_block h.box
 have hm0 : declaration S.A s = (node 3 s.at_ ((name S.A (next S.A s).2).1) [(number S.A (name S.A (next S.A s).2).2).1] (demand S.A (ByteArray.mk #[59]) (number S.A (name S.A (next S.A s).2).2).2).2, (demand S.A (ByteArray.mk #[59]) (number S.A (name S.A (next S.A s).2).2).2).2) := by
  rw [declaration]
  simp (decide := true) only [c1.out, c2.out, if_true, if_false, Bool.false_eq_true, Bool.true_eq_false, reduceIte, Nat.reduceEqDiff]
 have hm := Lib.hid hm0
 clear hm0
 generalize declaration S.A s = m at *
 have h1 := Lib.hid (fun (W : World) (lvq : Value) (q : PIn W P tv lvq S s) => next_is q (isB_kind (show isB S.A declWords s = true from c1.out)) (ByteArray.mk #[115, 111, 114, 116]) c2.out)
 have hnx1 : Hid ((next S.A s).2.at_ = s.at_ + 1) := rfl
 generalize (next S.A s).2 = s1 at *
 have h2 := Lib.hid (fun (W : World) (lvq : Value) (q : PIn W P tv lvq S s1) => name_walk q)
 generalize (name S.A s1).1 = x2 at *
 generalize (name S.A s1).2 = s2 at *
 have h3 := Lib.hid (fun (W : World) (lvq : Value) (q : PIn W P tv lvq S s2) => number_walk q)
 generalize number S.A s2 = k3 at *
 obtain ⟨kk3, s3⟩ := k3
 have h4 := Lib.hid (fun (W : World) (lvq : Value) (q : PIn W P tv lvq S s3) => expect_walk q (ByteArray.mk #[59]) (by decide))
 generalize (demand S.A (ByteArray.mk #[59]) s3).2 = s4 at *
 clear h
 go_enter Tryz.func35, Tryz.ntmps35
 go_upto_region 1 with fail
 go_region
 go_wp2_with (first
  | (go_at_call 38; refine ((EIn.toRow (ao := some ⟨gr3, 0, none⟩) (n := 1) (cap := cap3) e4.out (by simp)).callNode (by repeat (first | exact Below.refl _ _ | apply bl_drew | apply bl_alloc)) 3 s.at_ (Nat.le_succ _) x2).mono ?_; rintro e w5 ⟨rfl, g⟩; have f5 := Lib.hid g; clear g; obtain ⟨z0, z1, z2, z3, z4, z5⟩ := f5.out.fin.cells)
  | (go_at_call 83; refine (e3.out.callS (by repeat (first | exact Below.refl _ _ | apply bl_drew | apply bl_alloc)) (h4.out _ _)).mono ?_; rintro e w4 ⟨lv4, rfl, g⟩; have e4 := Lib.hid g; clear g)
  | (at_builtin; refine wpList_app p3.out rfl (.tmp 46) (.tmp 49) rfl rfl rfl (by simp only [List.length_nil, List.length_append, List.length_cons]; omega) ?_; intro gr3 cap3 v3 e; have e3 := Lib.hid e; clear e)
  | (go_at_call 81; refine ((FIn.collect0 f2.out).callN (by repeat (first | exact Below.refl _ _ | apply bl_drew | apply bl_alloc)) (h3.out _ _)).mono ?_; rintro e w3 ⟨lv3, nk3, nt3, na3, ne3, nao3, ncap3, nks3, rfl, g, hmm3⟩; have p3 := Lib.hid g; clear g)
  | (go_at_call 80; refine (f1.out.callS (by repeat (first | exact Below.refl _ _ | apply bl_drew | apply bl_alloc)) (h2.out _ _)).mono ?_; rintro e w2 ⟨lv2, rfl, g⟩; have f2 := Lib.hid g; clear g)
  | (go_at_call 37; refine (f0.out.callS (by repeat (first | exact Below.refl _ _ | apply bl_drew | apply bl_alloc)) (h1.out _ _)).mono ?_; rintro e w1 ⟨lv1, rfl, g⟩; have f1 := Lib.hid (g.rebase (s1 := { s with at_ := s.at_ + 1 }) (by have := hnx1.out; simp only; omega)); clear g))
 refine bodyPost_ret (v := .agg #[.int .i64 3, .string x2, .int .i64 (S.at_ s.at_ s4.at_), .int .i64 (S.last s4.at_), .slice (some ⟨gr3, 0, none⟩) 1 cap3]) (by simp [results, Tryz.results35, go_sem, z0, z1, z2, z3, z4] <;> rfl) rfl ?_
 rw [hm.out]
 exact f5.out.end_ (kept5 _ _ _ _ _ _ _) 3 s.at_ x2
set_option maxRecDepth 100000 in
set_option maxHeartbeats 2000000 in
theorem decl_relation {w : World} {P : Nat} {tv lv : Value} {S : Src} {s : Ps} (h : PIn w P tv lv S s) (c1 : Hid (declares S.A s = true)) (c2 : Hid ((next S.A s).1 = (ByteArray.mk #[114, 101, 108, 97, 116, 105, 111, 110]))) :
 Calls Tryz.prog 35 #[.pointer (some ⟨P, 0, none⟩)] w (NEnd w P tv lv S { s with at_ := s.at_ + 1 } (declaration S.A s)) := by
 have f0 := Lib.hid (FIn.start h)
 have cat := h.cell.2.2.1
 have cla := h.cell.2.2.2.1
 have hP := lt_of_block h.box
 have hm0 : declaration S.A s = (node 4 s.at_ ((name S.A (next S.A s).2).1) [(columns S.A (name S.A (next S.A s).2).2).1] (demand S.A (ByteArray.mk #[59]) (columns S.A (name S.A (next S.A s).2).2).2).2, (demand S.A (ByteArray.mk #[59]) (columns S.A (name S.A (next S.A s).2).2).2).2) := by
  rw [declaration]
  simp (decide := true) only [c1.out, c2.out, if_true, if_false, Bool.false_eq_true, Bool.true_eq_false, reduceIte, Nat.reduceEqDiff]
 have hm := Lib.hid hm0
 clear hm0
 generalize declaration S.A s = m at *
 have h1 := Lib.hid (fun (W : World) (lvq : Value) (q : PIn W P tv lvq S s) => next_is q (isB_kind (show isB S.A declWords s = true from c1.out)) (ByteArray.mk #[114, 101, 108, 97, 116, 105, 111, 110]) c2.out)
 have hnx1 : Hid ((next S.A s).2.at_ = s.at_ + 1) := rfl
 generalize (next S.A s).2 = s1 at *
 have h2 := Lib.hid (fun (W : World) (lvq : Value) (q : PIn W P tv lvq S s1) => name_walk q)
 generalize (name S.A s1).1 = x2 at *
 generalize (name S.A s1).2 = s2 at *
 have h3 := Lib.hid (fun (W : World) (lvq : Value) (q : PIn W P tv lvq S s2) => columns_walk q)
 generalize columns S.A s2 = k3 at *
 obtain ⟨kk3, s3⟩ := k3
 have h4 := Lib.hid (fun (W : World) (lvq : Value) (q : PIn W P tv lvq S s3) => expect_walk q (ByteArray.mk #[59]) (by decide))
 generalize (demand S.A (ByteArray.mk #[59]) s3).2 = s4 at *
 clear h
 go_enter Tryz.func35, Tryz.ntmps35
 go_upto_region 1 with fail
 go_region
 go_wp2_with (first
  | (go_at_call 38; refine ((EIn.toRow (ao := some ⟨gr3, 0, none⟩) (n := 1) (cap := cap3) e4.out (by simp)).callNode (by repeat (first | exact Below.refl _ _ | apply bl_drew | apply bl_alloc)) 4 s.at_ (Nat.le_succ _) x2).mono ?_; rintro e w5 ⟨rfl, g⟩; have f5 := Lib.hid g; clear g; obtain ⟨z0, z1, z2, z3, z4, z5⟩ := f5.out.fin.cells)
  | (go_at_call 83; refine (e3.out.callS (by repeat (first | exact Below.refl _ _ | apply bl_drew | apply bl_alloc)) (h4.out _ _)).mono ?_; rintro e w4 ⟨lv4, rfl, g⟩; have e4 := Lib.hid g; clear g)
  | (at_builtin; refine wpList_app p3.out rfl (.tmp 53) (.tmp 56) rfl rfl rfl (by simp only [List.length_nil, List.length_append, List.length_cons]; omega) ?_; intro gr3 cap3 v3 e; have e3 := Lib.hid e; clear e)
  | (go_at_call 82; refine ((FIn.collect0 f2.out).callN (by repeat (first | exact Below.refl _ _ | apply bl_drew | apply bl_alloc)) (h3.out _ _)).mono ?_; rintro e w3 ⟨lv3, nk3, nt3, na3, ne3, nao3, ncap3, nks3, rfl, g, hmm3⟩; have p3 := Lib.hid g; clear g)
  | (go_at_call 80; refine (f1.out.callS (by repeat (first | exact Below.refl _ _ | apply bl_drew | apply bl_alloc)) (h2.out _ _)).mono ?_; rintro e w2 ⟨lv2, rfl, g⟩; have f2 := Lib.hid g; clear g)
  | (go_at_call 37; refine (f0.out.callS (by repeat (first | exact Below.refl _ _ | apply bl_drew | apply bl_alloc)) (h1.out _ _)).mono ?_; rintro e w1 ⟨lv1, rfl, g⟩; have f1 := Lib.hid (g.rebase (s1 := { s with at_ := s.at_ + 1 }) (by have := hnx1.out; simp only; omega)); clear g))
 refine bodyPost_ret (v := .agg #[.int .i64 4, .string x2, .int .i64 (S.at_ s.at_ s4.at_), .int .i64 (S.last s4.at_), .slice (some ⟨gr3, 0, none⟩) 1 cap3]) (by simp [results, Tryz.results35, go_sem, z0, z1, z2, z3, z4] <;> rfl) rfl ?_
 rw [hm.out]
 exact f5.out.end_ (kept5 _ _ _ _ _ _ _) 4 s.at_ x2
set_option maxRecDepth 100000 in
set_option maxHeartbeats 2000000 in
theorem decl_invariant {w : World} {P : Nat} {tv lv : Value} {S : Src} {s : Ps} (h : PIn w P tv lv S s) (c1 : Hid (declares S.A s = true)) (c2 : Hid ((next S.A s).1 = (ByteArray.mk #[105, 110, 118, 97, 114, 105, 97, 110, 116]))) :
 Calls Tryz.prog 35 #[.pointer (some ⟨P, 0, none⟩)] w (NEnd w P tv lv S { s with at_ := s.at_ + 1 } (declaration S.A s)) := by
 have f0 := Lib.hid (FIn.start h)
 have cat := h.cell.2.2.1
 have cla := h.cell.2.2.2.1
 have hP := lt_of_block h.box
 have hm0 : declaration S.A s = (node 8 s.at_ ((name S.A (next S.A s).2).1) [(px.part S.A (demand S.A (ByteArray.mk #[58]) (name S.A (next S.A s).2).2).2).1] (demand S.A (ByteArray.mk #[59]) (px.part S.A (demand S.A (ByteArray.mk #[58]) (name S.A (next S.A s).2).2).2).2).2, (demand S.A (ByteArray.mk #[59]) (px.part S.A (demand S.A (ByteArray.mk #[58]) (name S.A (next S.A s).2).2).2).2).2) := by
  rw [declaration]
  simp (decide := true) only [c1.out, c2.out, if_true, if_false, Bool.false_eq_true, Bool.true_eq_false, reduceIte, Nat.reduceEqDiff]
 have hm := Lib.hid hm0
 clear hm0
 generalize declaration S.A s = m at *
 have h1 := Lib.hid (fun (W : World) (lvq : Value) (q : PIn W P tv lvq S s) => next_is q (isB_kind (show isB S.A declWords s = true from c1.out)) (ByteArray.mk #[105, 110, 118, 97, 114, 105, 97, 110, 116]) c2.out)
 have hnx1 : Hid ((next S.A s).2.at_ = s.at_ + 1) := rfl
 generalize (next S.A s).2 = s1 at *
 have h2 := Lib.hid (fun (W : World) (lvq : Value) (q : PIn W P tv lvq S s1) => name_walk q)
 generalize (name S.A s1).1 = x2 at *
 generalize (name S.A s1).2 = s2 at *
 have h3 := Lib.hid (fun (W : World) (lvq : Value) (q : PIn W P tv lvq S s2) => expect_walk q (ByteArray.mk #[58]) (by decide))
 generalize (demand S.A (ByteArray.mk #[58]) s2).2 = s3 at *
 have h4 := Lib.hid (fun (W : World) (lvq : Value) (q : PIn W P tv lvq S s3) => part_walk q)
 generalize px.part S.A s3 = k4 at *
 obtain ⟨kk4, s4⟩ := k4
 have h5 := Lib.hid (fun (W : World) (lvq : Value) (q : PIn W P tv lvq S s4) => expect_walk q (ByteArray.mk #[59]) (by decide))
 generalize (demand S.A (ByteArray.mk #[59]) s4).2 = s5 at *
 clear h
 go_enter Tryz.func35, Tryz.ntmps35
 go_upto_region 1 with fail
 go_region
 go_wp2_with (first
  | (go_at_call 38; refine ((EIn.toRow (ao := some ⟨gr4, 0, none⟩) (n := 1) (cap := cap4) e5.out (by simp)).callNode (by repeat (first | exact Below.refl _ _ | apply bl_drew | apply bl_alloc)) 8 s.at_ (Nat.le_succ _) x2).mono ?_; rintro e w6 ⟨rfl, g⟩; have f6 := Lib.hid g; clear g; obtain ⟨z0, z1, z2, z3, z4, z5⟩ := f6.out.fin.cells)
  | (go_at_call 83; refine (e4.out.callS (by repeat (first | exact Below.refl _ _ | apply bl_drew | apply bl_alloc)) (h5.out _ _)).mono ?_; rintro e w5 ⟨lv5, rfl, g⟩; have e5 := Lib.hid g; clear g)
  | (at_builtin; refine wpList_app p4.out rfl (.tmp 107) (.tmp 110) rfl rfl rfl (by simp only [List.length_nil, List.length_append, List.length_cons]; omega) ?_; intro gr4 cap4 v4 e; have e4 := Lib.hid e; clear e)
  | (go_at_call 86; refine (e3.out.callN (by repeat (first | exact Below.refl _ _ | apply bl_drew | apply bl_alloc)) (h4.out _ _)).mono ?_; rintro e w4 ⟨lv4, nk4, nt4, na4, ne4, nao4, ncap4, nks4, rfl, g, hmm4⟩; have p4 := Lib.hid g; clear g)
  | (go_at_call 83; refine ((FIn.collect0 f2.out).callS (by repeat (first | exact Below.refl _ _ | apply bl_drew | apply bl_alloc)) (h3.out _ _)).mono ?_; rintro e w3 ⟨lv3, rfl, g⟩; have e3 := Lib.hid g; clear g)
  | (go_at_call 80; refine (f1.out.callS (by repeat (first | exact Below.refl _ _ | apply bl_drew | apply bl_alloc)) (h2.out _ _)).mono ?_; rintro e w2 ⟨lv2, rfl, g⟩; have f2 := Lib.hid g; clear g)
  | (go_at_call 37; refine (f0.out.callS (by repeat (first | exact Below.refl _ _ | apply bl_drew | apply bl_alloc)) (h1.out _ _)).mono ?_; rintro e w1 ⟨lv1, rfl, g⟩; have f1 := Lib.hid (g.rebase (s1 := { s with at_ := s.at_ + 1 }) (by have := hnx1.out; simp only; omega)); clear g))
 refine bodyPost_ret (v := .agg #[.int .i64 8, .string x2, .int .i64 (S.at_ s.at_ s5.at_), .int .i64 (S.last s5.at_), .slice (some ⟨gr4, 0, none⟩) 1 cap4]) (by simp [results, Tryz.results35, go_sem, z0, z1, z2, z3, z4] <;> rfl) rfl ?_
 rw [hm.out]
 exact f6.out.end_ (kept5 _ _ _ _ _ _ _) 8 s.at_ x2
set_option maxRecDepth 100000 in
set_option maxHeartbeats 2000000 in
theorem decl_counter {w : World} {P : Nat} {tv lv : Value} {S : Src} {s : Ps} (h : PIn w P tv lv S s) (c1 : Hid (declares S.A s = true)) (c2 : Hid ((next S.A s).1 = (ByteArray.mk #[99, 111, 117, 110, 116, 101, 114]))) :
 Calls Tryz.prog 35 #[.pointer (some ⟨P, 0, none⟩)] w (NEnd w P tv lv S { s with at_ := s.at_ + 1 } (declaration S.A s)) := by
 have f0 := Lib.hid (FIn.start h)
 have cat := h.cell.2.2.1
 have cla := h.cell.2.2.2.1
 have hP := lt_of_block h.box
 have hm0 : declaration S.A s = (node 5 s.at_ ((name S.A (next S.A s).2).1) [(columns S.A (name S.A (next S.A s).2).2).1, (limits S.A (demand S.A (ByteArray.mk #[105, 110]) (columns S.A (name S.A (next S.A s).2).2).2).2).1] (demand S.A (ByteArray.mk #[59]) (limits S.A (demand S.A (ByteArray.mk #[105, 110]) (columns S.A (name S.A (next S.A s).2).2).2).2).2).2, (demand S.A (ByteArray.mk #[59]) (limits S.A (demand S.A (ByteArray.mk #[105, 110]) (columns S.A (name S.A (next S.A s).2).2).2).2).2).2) := by
  rw [declaration]
  simp (decide := true) only [c1.out, c2.out, if_true, if_false, Bool.false_eq_true, Bool.true_eq_false, reduceIte, Nat.reduceEqDiff]
 have hm := Lib.hid hm0
 clear hm0
 generalize declaration S.A s = m at *
 have h1 := Lib.hid (fun (W : World) (lvq : Value) (q : PIn W P tv lvq S s) => next_is q (isB_kind (show isB S.A declWords s = true from c1.out)) (ByteArray.mk #[99, 111, 117, 110, 116, 101, 114]) c2.out)
 have hnx1 : Hid ((next S.A s).2.at_ = s.at_ + 1) := rfl
 generalize (next S.A s).2 = s1 at *
 have h2 := Lib.hid (fun (W : World) (lvq : Value) (q : PIn W P tv lvq S s1) => name_walk q)
 generalize (name S.A s1).1 = x2 at *
 generalize (name S.A s1).2 = s2 at *
 have h3 := Lib.hid (fun (W : World) (lvq : Value) (q : PIn W P tv lvq S s2) => columns_walk q)
 generalize columns S.A s2 = k3 at *
 obtain ⟨kk3, s3⟩ := k3
 have h4 := Lib.hid (fun (W : World) (lvq : Value) (q : PIn W P tv lvq S s3) => expect_walk q (ByteArray.mk #[105, 110]) (by decide))
 generalize (demand S.A (ByteArray.mk #[105, 110]) s3).2 = s4 at *
 have h5 := Lib.hid (fun (W : World) (lvq : Value) (q : PIn W P tv lvq S s4) => limits_walk q)
 generalize limits S.A s4 = k5 at *
 obtain ⟨kk5, s5⟩ := k5
 have h6 := Lib.hid (fun (W : World) (lvq : Value) (q : PIn W P tv lvq S s5) => expect_walk q (ByteArray.mk #[59]) (by decide))
 generalize (demand S.A (ByteArray.mk #[59]) s5).2 = s6 at *
 clear h
 go_enter Tryz.func35, Tryz.ntmps35
 go_upto_region 1 with fail
 go_region
 go_wp2_with (first
  | (go_at_call 38; refine ((EIn.toRow (ao := some ⟨gr5, 0, none⟩) (n := 2) (cap := cap5) e6.out (by simp)).callNode (by repeat (first | exact Below.refl _ _ | apply bl_drew | apply bl_alloc)) 5 s.at_ (Nat.le_succ _) x2).mono ?_; rintro e w7 ⟨rfl, g⟩; have f7 := Lib.hid g; clear g; obtain ⟨z0, z1, z2, z3, z4, z5⟩ := f7.out.fin.cells)
  | (go_at_call 83; refine (e5.out.callS (by repeat (first | exact Below.refl _ _ | apply bl_drew | apply bl_alloc)) (h6.out _ _)).mono ?_; rintro e w6 ⟨lv6, rfl, g⟩; have e6 := Lib.hid g; clear g)
  | (at_builtin; refine wpList_app p5.out rfl (.tmp 67) (.tmp 70) rfl rfl rfl (by simp only [List.length_nil, List.length_append, List.length_cons]; omega) ?_; intro gr5 cap5 v5 e; have e5 := Lib.hid e; clear e)
  | (go_at_call 84; refine (e4.out.callN (by repeat (first | exact Below.refl _ _ | apply bl_drew | apply bl_alloc)) (h5.out _ _)).mono ?_; rintro e w5 ⟨lv5, nk5, nt5, na5, ne5, nao5, ncap5, nks5, rfl, g, hmm5⟩; have p5 := Lib.hid g; clear g)
  | (go_at_call 83; refine (e3.out.callS (by repeat (first | exact Below.refl _ _ | apply bl_drew | apply bl_alloc)) (h4.out _ _)).mono ?_; rintro e w4 ⟨lv4, rfl, g⟩; have e4 := Lib.hid g; clear g)
  | (at_builtin; refine wpList_app p3.out rfl (.tmp 60) (.tmp 63) rfl rfl rfl (by simp only [List.length_nil, List.length_append, List.length_cons]; omega) ?_; intro gr3 cap3 v3 e; have e3 := Lib.hid e; clear e)
  | (go_at_call 82; refine ((FIn.collect0 f2.out).callN (by repeat (first | exact Below.refl _ _ | apply bl_drew | apply bl_alloc)) (h3.out _ _)).mono ?_; rintro e w3 ⟨lv3, nk3, nt3, na3, ne3, nao3, ncap3, nks3, rfl, g, hmm3⟩; have p3 := Lib.hid g; clear g)
  | (go_at_call 80; refine (f1.out.callS (by repeat (first | exact Below.refl _ _ | apply bl_drew | apply bl_alloc)) (h2.out _ _)).mono ?_; rintro e w2 ⟨lv2, rfl, g⟩; have f2 := Lib.hid g; clear g)
  | (go_at_call 37; refine (f0.out.callS (by repeat (first | exact Below.refl _ _ | apply bl_drew | apply bl_alloc)) (h1.out _ _)).mono ?_; rintro e w1 ⟨lv1, rfl, g⟩; have f1 := Lib.hid (g.rebase (s1 := { s with at_ := s.at_ + 1 }) (by have := hnx1.out; simp only; omega)); clear g))
 refine bodyPost_ret (v := .agg #[.int .i64 5, .string x2, .int .i64 (S.at_ s.at_ s6.at_), .int .i64 (S.last s6.at_), .slice (some ⟨gr5, 0, none⟩) 2 cap5]) (by simp [results, Tryz.results35, go_sem, z0, z1, z2, z3, z4] <;> rfl) rfl ?_
 rw [hm.out]
 exact f7.out.end_ (kept5 _ _ _ _ _ _ _) 5 s.at_ x2
end Go.Proofs.YthggagophcnkfaaGreatDoor.py
namespace Go.Proofs.YthggagophcnkfaaGreatDoor.py
open Go.RowKit Go.Proofs.YthggagophcnkfaaGreatDoor.agg Go.Proofs.YthggagophcnkfaaGreatDoor.sx Go.Proofs.YthggagophcnkfaaGreatDoor.px
set_option linter.unusedSimpArgs false
set_option linter.unusedVariables false
set_option maxRecDepth 100000 in
set_option maxHeartbeats 2000000 in
theorem decl_set {w : World} {P : Nat} {tv lv : Value} {S : Src} {s : Ps} (h : PIn w P tv lv S s) (c1 : Hid (declares S.A s = true)) (c2 : Hid ((next S.A s).1 = (ByteArray.mk #[115, 101, 116]))) :
 Calls Tryz.prog 35 #[.pointer (some ⟨P, 0, none⟩)] w (NEnd w P tv lv S { s with at_ := s.at_ + 1 } (declaration S.A s)) := by
 have f0 := Lib.hid (FIn.start h)
 have cat := h.cell.2.2.1
 have cla := h.cell.2.2.2.1
 have hP := lt_of_block h.box
 have hm0 : declaration S.A s = (node 6 s.at_ ((name S.A (next S.A s).2).1) [(columns S.A (name S.A (next S.A s).2).2).1, (chosen S.A [(ByteArray.mk #[97, 100, 100, 119, 105, 110, 115]), (ByteArray.mk #[114, 101, 109, 111, 118, 101, 119, 105, 110, 115])] (columns S.A (name S.A (next S.A s).2).2).2).1] (demand S.A (ByteArray.mk #[59]) (chosen S.A [(ByteArray.mk #[97, 100, 100, 119, 105, 110, 115]), (ByteArray.mk #[114, 101, 109, 111, 118, 101, 119, 105, 110, 115])] (columns S.A (name S.A (next S.A s).2).2).2).2).2, (demand S.A (ByteArray.mk #[59]) (chosen S.A [(ByteArray.mk #[97, 100, 100, 119, 105, 110, 115]), (ByteArray.mk #[114, 101, 109, 111, 118, 101, 119, 105, 110, 115])] (columns S.A (name S.A (next S.A s).2).2).2).2).2) := by
  rw [declaration]
  simp (decide := true) only [c1.out, c2.out, if_true, if_false, Bool.false_eq_true, Bool.true_eq_false, reduceIte, Nat.reduceEqDiff]
 have hm := Lib.hid hm0
 clear hm0
 generalize declaration S.A s = m at *
 have h1 := Lib.hid (fun (W : World) (lvq : Value) (q : PIn W P tv lvq S s) => next_is q (isB_kind (show isB S.A declWords s = true from c1.out)) (ByteArray.mk #[115, 101, 116]) c2.out)
 have hnx1 : Hid ((next S.A s).2.at_ = s.at_ + 1) := rfl
 generalize (next S.A s).2 = s1 at *
 have h2 := Lib.hid (fun (W : World) (lvq : Value) (q : PIn W P tv lvq S s1) => name_walk q)
 generalize (name S.A s1).1 = x2 at *
 generalize (name S.A s1).2 = s2 at *
 have h3 := Lib.hid (fun (W : World) (lvq : Value) (q : PIn W P tv lvq S s2) => columns_walk q)
 generalize columns S.A s2 = k3 at *
 obtain ⟨kk3, s3⟩ := k3
 have h4 := Lib.hid (fun (W : World) (lvq : Value) (q : PIn W P tv lvq S s3) => chosen_walk q (ByteArray.mk #[97, 100, 100, 119, 105, 110, 115]) (ByteArray.mk #[114, 101, 109, 111, 118, 101, 119, 105, 110, 115]) (by decide))
 generalize chosen S.A [(ByteArray.mk #[97, 100, 100, 119, 105, 110, 115]), (ByteArray.mk #[114, 101, 109, 111, 118, 101, 119, 105, 110, 115])] s3 = k4 at *
 obtain ⟨kk4, s4⟩ := k4
 have h5 := Lib.hid (fun (W : World) (lvq : Value) (q : PIn W P tv lvq S s4) => expect_walk q (ByteArray.mk #[59]) (by decide))
 generalize (demand S.A (ByteArray.mk #[59]) s4).2 = s5 at *
 clear h
 go_enter Tryz.func35, Tryz.ntmps35
 go_upto_region 1 with fail
 go_region
 go_wp2_with (first
  | (go_at_call 38; refine ((EIn.toRow (ao := some ⟨gr4, 0, none⟩) (n := 2) (cap := cap4) e5.out (by simp)).callNode (by repeat (first | exact Below.refl _ _ | apply bl_drew | apply bl_alloc)) 6 s.at_ (Nat.le_succ _) x2).mono ?_; rintro e w6 ⟨rfl, g⟩; have f6 := Lib.hid g; clear g; obtain ⟨z0, z1, z2, z3, z4, z5⟩ := f6.out.fin.cells)
  | (go_at_call 83; refine (e4.out.callS (by repeat (first | exact Below.refl _ _ | apply bl_drew | apply bl_alloc)) (h5.out _ _)).mono ?_; rintro e w5 ⟨lv5, rfl, g⟩; have e5 := Lib.hid g; clear g)
  | (at_builtin; refine wpList_app p4.out rfl (.tmp 79) (.tmp 82) rfl rfl rfl (by simp only [List.length_nil, List.length_append, List.length_cons]; omega) ?_; intro gr4 cap4 v4 e; have e4 := Lib.hid e; clear e)
  | (go_at_call 85; refine (e3.out.callN (by repeat (first | exact Below.refl _ _ | apply bl_drew | apply bl_alloc)) (h4.out _ _)).mono ?_; rintro e w4 ⟨lv4, nk4, nt4, na4, ne4, nao4, ncap4, nks4, rfl, g, hmm4⟩; have p4 := Lib.hid g; clear g)
  | (at_builtin; refine wpList_app p3.out rfl (.tmp 74) (.tmp 77) rfl rfl rfl (by simp only [List.length_nil, List.length_append, List.length_cons]; omega) ?_; intro gr3 cap3 v3 e; have e3 := Lib.hid e; clear e)
  | (go_at_call 82; refine ((FIn.collect0 f2.out).callN (by repeat (first | exact Below.refl _ _ | apply bl_drew | apply bl_alloc)) (h3.out _ _)).mono ?_; rintro e w3 ⟨lv3, nk3, nt3, na3, ne3, nao3, ncap3, nks3, rfl, g, hmm3⟩; have p3 := Lib.hid g; clear g)
  | (go_at_call 80; refine (f1.out.callS (by repeat (first | exact Below.refl _ _ | apply bl_drew | apply bl_alloc)) (h2.out _ _)).mono ?_; rintro e w2 ⟨lv2, rfl, g⟩; have f2 := Lib.hid g; clear g)
  | (go_at_call 37; refine (f0.out.callS (by repeat (first | exact Below.refl _ _ | apply bl_drew | apply bl_alloc)) (h1.out _ _)).mono ?_; rintro e w1 ⟨lv1, rfl, g⟩; have f1 := Lib.hid (g.rebase (s1 := { s with at_ := s.at_ + 1 }) (by have := hnx1.out; simp only; omega)); clear g))
 refine bodyPost_ret (v := .agg #[.int .i64 6, .string x2, .int .i64 (S.at_ s.at_ s5.at_), .int .i64 (S.last s5.at_), .slice (some ⟨gr4, 0, none⟩) 2 cap4]) (by simp [results, Tryz.results35, go_sem, z0, z1, z2, z3, z4] <;> rfl) rfl ?_
 rw [hm.out]
 exact f6.out.end_ (kept5 _ _ _ _ _ _ _) 6 s.at_ x2
set_option maxRecDepth 100000 in
set_option maxHeartbeats 2000000 in
theorem decl_register {w : World} {P : Nat} {tv lv : Value} {S : Src} {s : Ps} (h : PIn w P tv lv S s) (c1 : Hid (declares S.A s = true)) (c2 : Hid ((next S.A s).1 = (ByteArray.mk #[114, 101, 103, 105, 115, 116, 101, 114]))) :
 Calls Tryz.prog 35 #[.pointer (some ⟨P, 0, none⟩)] w (NEnd w P tv lv S { s with at_ := s.at_ + 1 } (declaration S.A s)) := by
 have f0 := Lib.hid (FIn.start h)
 have cat := h.cell.2.2.1
 have cla := h.cell.2.2.2.1
 have hP := lt_of_block h.box
 have hm0 : declaration S.A s = (node 7 s.at_ ((name S.A (next S.A s).2).1) [(columns S.A (name S.A (next S.A s).2).2).1, (limits S.A (demand S.A (ByteArray.mk #[105, 110]) (columns S.A (name S.A (next S.A s).2).2).2).2).1, (chosen S.A [(ByteArray.mk #[108, 97, 115, 116]), (ByteArray.mk #[109, 117, 108, 116, 105])] (limits S.A (demand S.A (ByteArray.mk #[105, 110]) (columns S.A (name S.A (next S.A s).2).2).2).2).2).1] (demand S.A (ByteArray.mk #[59]) (chosen S.A [(ByteArray.mk #[108, 97, 115, 116]), (ByteArray.mk #[109, 117, 108, 116, 105])] (limits S.A (demand S.A (ByteArray.mk #[105, 110]) (columns S.A (name S.A (next S.A s).2).2).2).2).2).2).2, (demand S.A (ByteArray.mk #[59]) (chosen S.A [(ByteArray.mk #[108, 97, 115, 116]), (ByteArray.mk #[109, 117, 108, 116, 105])] (limits S.A (demand S.A (ByteArray.mk #[105, 110]) (columns S.A (name S.A (next S.A s).2).2).2).2).2).2).2) := by
  rw [declaration]
  simp (decide := true) only [c1.out, c2.out, if_true, if_false, Bool.false_eq_true, Bool.true_eq_false, reduceIte, Nat.reduceEqDiff]
 have hm := Lib.hid hm0
 clear hm0
 generalize declaration S.A s = m at *
 have h1 := Lib.hid (fun (W : World) (lvq : Value) (q : PIn W P tv lvq S s) => next_is q (isB_kind (show isB S.A declWords s = true from c1.out)) (ByteArray.mk #[114, 101, 103, 105, 115, 116, 101, 114]) c2.out)
 have hnx1 : Hid ((next S.A s).2.at_ = s.at_ + 1) := rfl
 generalize (next S.A s).2 = s1 at *
 have h2 := Lib.hid (fun (W : World) (lvq : Value) (q : PIn W P tv lvq S s1) => name_walk q)
 generalize (name S.A s1).1 = x2 at *
 generalize (name S.A s1).2 = s2 at *
 have h3 := Lib.hid (fun (W : World) (lvq : Value) (q : PIn W P tv lvq S s2) => columns_walk q)
 generalize columns S.A s2 = k3 at *
 obtain ⟨kk3, s3⟩ := k3
 have h4 := Lib.hid (fun (W : World) (lvq : Value) (q : PIn W P tv lvq S s3) => expect_walk q (ByteArray.mk #[105, 110]) (by decide))
 generalize (demand S.A (ByteArray.mk #[105, 110]) s3).2 = s4 at *
 have h5 := Lib.hid (fun (W : World) (lvq : Value) (q : PIn W P tv lvq S s4) => limits_walk q)
 generalize limits S.A s4 = k5 at *
 obtain ⟨kk5, s5⟩ := k5
 have h6 := Lib.hid (fun (W : World) (lvq : Value) (q : PIn W P tv lvq S s5) => chosen_walk q (ByteArray.mk #[108, 97, 115, 116]) (ByteArray.mk #[109, 117, 108, 116, 105]) (by decide))
 generalize chosen S.A [(ByteArray.mk #[108, 97, 115, 116]), (ByteArray.mk #[109, 117, 108, 116, 105])] s5 = k6 at *
 obtain ⟨kk6, s6⟩ := k6
 have h7 := Lib.hid (fun (W : World) (lvq : Value) (q : PIn W P tv lvq S s6) => expect_walk q (ByteArray.mk #[59]) (by decide))
 generalize (demand S.A (ByteArray.mk #[59]) s6).2 = s7 at *
 clear h
 go_enter Tryz.func35, Tryz.ntmps35
 go_upto_region 1 with fail
 go_region
 go_wp2_with (first
  | (go_at_call 38; refine ((EIn.toRow (ao := some ⟨gr6, 0, none⟩) (n := 3) (cap := cap6) e7.out (by simp)).callNode (by repeat (first | exact Below.refl _ _ | apply bl_drew | apply bl_alloc)) 7 s.at_ (Nat.le_succ _) x2).mono ?_; rintro e w8 ⟨rfl, g⟩; have f8 := Lib.hid g; clear g; obtain ⟨z0, z1, z2, z3, z4, z5⟩ := f8.out.fin.cells)
  | (go_at_call 83; refine (e6.out.callS (by repeat (first | exact Below.refl _ _ | apply bl_drew | apply bl_alloc)) (h7.out _ _)).mono ?_; rintro e w7 ⟨lv7, rfl, g⟩; have e7 := Lib.hid g; clear g)
  | (at_builtin; refine wpList_app p6.out rfl (.tmp 98) (.tmp 101) rfl rfl rfl (by simp only [List.length_nil, List.length_append, List.length_cons]; omega) ?_; intro gr6 cap6 v6 e; have e6 := Lib.hid e; clear e)
  | (go_at_call 85; refine (e5.out.callN (by repeat (first | exact Below.refl _ _ | apply bl_drew | apply bl_alloc)) (h6.out _ _)).mono ?_; rintro e w6 ⟨lv6, nk6, nt6, na6, ne6, nao6, ncap6, nks6, rfl, g, hmm6⟩; have p6 := Lib.hid g; clear g)
  | (at_builtin; refine wpList_app p5.out rfl (.tmp 93) (.tmp 96) rfl rfl rfl (by simp only [List.length_nil, List.length_append, List.length_cons]; omega) ?_; intro gr5 cap5 v5 e; have e5 := Lib.hid e; clear e)
  | (go_at_call 84; refine (e4.out.callN (by repeat (first | exact Below.refl _ _ | apply bl_drew | apply bl_alloc)) (h5.out _ _)).mono ?_; rintro e w5 ⟨lv5, nk5, nt5, na5, ne5, nao5, ncap5, nks5, rfl, g, hmm5⟩; have p5 := Lib.hid g; clear g)
  | (go_at_call 83; refine (e3.out.callS (by repeat (first | exact Below.refl _ _ | apply bl_drew | apply bl_alloc)) (h4.out _ _)).mono ?_; rintro e w4 ⟨lv4, rfl, g⟩; have e4 := Lib.hid g; clear g)
  | (at_builtin; refine wpList_app p3.out rfl (.tmp 86) (.tmp 89) rfl rfl rfl (by simp only [List.length_nil, List.length_append, List.length_cons]; omega) ?_; intro gr3 cap3 v3 e; have e3 := Lib.hid e; clear e)
  | (go_at_call 82; refine ((FIn.collect0 f2.out).callN (by repeat (first | exact Below.refl _ _ | apply bl_drew | apply bl_alloc)) (h3.out _ _)).mono ?_; rintro e w3 ⟨lv3, nk3, nt3, na3, ne3, nao3, ncap3, nks3, rfl, g, hmm3⟩; have p3 := Lib.hid g; clear g)
  | (go_at_call 80; refine (f1.out.callS (by repeat (first | exact Below.refl _ _ | apply bl_drew | apply bl_alloc)) (h2.out _ _)).mono ?_; rintro e w2 ⟨lv2, rfl, g⟩; have f2 := Lib.hid g; clear g)
  | (go_at_call 37; refine (f0.out.callS (by repeat (first | exact Below.refl _ _ | apply bl_drew | apply bl_alloc)) (h1.out _ _)).mono ?_; rintro e w1 ⟨lv1, rfl, g⟩; have f1 := Lib.hid (g.rebase (s1 := { s with at_ := s.at_ + 1 }) (by have := hnx1.out; simp only; omega)); clear g))
 refine bodyPost_ret (v := .agg #[.int .i64 7, .string x2, .int .i64 (S.at_ s.at_ s7.at_), .int .i64 (S.last s7.at_), .slice (some ⟨gr6, 0, none⟩) 3 cap6]) (by simp [results, Tryz.results35, go_sem, z0, z1, z2, z3, z4] <;> rfl) rfl ?_
 rw [hm.out]
 exact f8.out.end_ (kept5 _ _ _ _ _ _ _) 7 s.at_ x2
end Go.Proofs.YthggagophcnkfaaGreatDoor.py
namespace Go.Proofs.YthggagophcnkfaaGreatDoor.py
open Go.RowKit Go.Proofs.YthggagophcnkfaaGreatDoor.agg Go.Proofs.YthggagophcnkfaaGreatDoor.sx Go.Proofs.YthggagophcnkfaaGreatDoor.px
set_option linter.unusedSimpArgs false
set_option linter.unusedVariables false
set_option maxRecDepth 100000 in
set_option maxHeartbeats 2000000 in
theorem decl_operation {w : World} {P : Nat} {tv lv : Value} {S : Src} {s : Ps} (h : PIn w P tv lv S s) (c1 : Hid (declares S.A s = true)) (c2 : Hid ((next S.A s).1 = (ByteArray.mk #[111, 112, 101, 114, 97, 116, 105, 111, 110]))) :
 Calls Tryz.prog 35 #[.pointer (some ⟨P, 0, none⟩)] w (NEnd w P tv lv S { s with at_ := s.at_ + 1 } (declaration S.A s)) := by
 have f0 := Lib.hid (FIn.start h)
 have cat := h.cell.2.2.1
 have cla := h.cell.2.2.2.1
 have hP := lt_of_block h.box
 have hm0 : declaration S.A s = (node 9 s.at_ ((name S.A (next S.A s).2).1) [(list1 S.A 23 (parameter S.A) (name S.A (next S.A s).2).2).1, (maybe S.A (ByteArray.mk #[111, 114, 100, 101, 114, 101, 100]) (list1 S.A 23 (parameter S.A) (name S.A (next S.A s).2).2).2).1, (block S.A (statement S.A) (maybe S.A (ByteArray.mk #[111, 114, 100, 101, 114, 101, 100]) (list1 S.A 23 (parameter S.A) (name S.A (next S.A s).2).2).2).2).1] (block S.A (statement S.A) (maybe S.A (ByteArray.mk #[111, 114, 100, 101, 114, 101, 100]) (list1 S.A 23 (parameter S.A) (name S.A (next S.A s).2).2).2).2).2, (block S.A (statement S.A) (maybe S.A (ByteArray.mk #[111, 114, 100, 101, 114, 101, 100]) (list1 S.A 23 (parameter S.A) (name S.A (next S.A s).2).2).2).2).2) := by
  rw [declaration]
  simp (decide := true) only [c1.out, c2.out, if_true, if_false, Bool.false_eq_true, Bool.true_eq_false, reduceIte, Nat.reduceEqDiff]
 have hm := Lib.hid hm0
 clear hm0
 generalize declaration S.A s = m at *
 have h1 := Lib.hid (fun (W : World) (lvq : Value) (q : PIn W P tv lvq S s) => next_is q (isB_kind (show isB S.A declWords s = true from c1.out)) (ByteArray.mk #[111, 112, 101, 114, 97, 116, 105, 111, 110]) c2.out)
 have hnx1 : Hid ((next S.A s).2.at_ = s.at_ + 1) := rfl
 generalize (next S.A s).2 = s1 at *
 have h2 := Lib.hid (fun (W : World) (lvq : Value) (q : PIn W P tv lvq S s1) => name_walk q)
 generalize (name S.A s1).1 = x2 at *
 generalize (name S.A s1).2 = s2 at *
 have h3 := Lib.hid (fun (W : World) (lvq : Value) (q : PIn W P tv lvq S s2) => parameters_walk q)
 generalize list1 S.A 23 (parameter S.A) s2 = k3 at *
 obtain ⟨kk3, s3⟩ := k3
 have h4 := Lib.hid (fun (W : World) (lvq : Value) (q : PIn W P tv lvq S s3) => maybe_walk q (ByteArray.mk #[111, 114, 100, 101, 114, 101, 100]))
 generalize maybe S.A (ByteArray.mk #[111, 114, 100, 101, 114, 101, 100]) s3 = k4 at *
 obtain ⟨kk4, s4⟩ := k4
 have h5 := Lib.hid (fun (W : World) (lvq : Value) (q : PIn W P tv lvq S s4) => block_walk q (statement S.A) (S.L.length + 1) (statement_all P tv S) (by omega))
 generalize block S.A (statement S.A) s4 = k5 at *
 obtain ⟨kk5, s5⟩ := k5
 clear h
 go_enter Tryz.func35, Tryz.ntmps35
 go_upto_region 1 with fail
 go_region
 go_wp2_with (first
  | (go_at_call 38; refine ((EIn.toRow (ao := some ⟨gr5, 0, none⟩) (n := 3) (cap := cap5) e5.out (by simp)).callNode (by repeat (first | exact Below.refl _ _ | apply bl_drew | apply bl_alloc)) 9 s.at_ (Nat.le_succ _) x2).mono ?_; rintro e w6 ⟨rfl, g⟩; have f6 := Lib.hid g; clear g; obtain ⟨z0, z1, z2, z3, z4, z5⟩ := f6.out.fin.cells)
  | (at_builtin; refine wpList_app p5.out rfl (.tmp 33) (.tmp 36) rfl rfl rfl (by simp only [List.length_nil, List.length_append, List.length_cons]; omega) ?_; intro gr5 cap5 v5 e; have e5 := Lib.hid e; clear e)
  | (go_at_call 88; refine (e4.out.callN (by repeat (first | exact Below.refl _ _ | apply bl_drew | apply bl_alloc)) (h5.out _ _)).mono ?_; rintro e w5 ⟨lv5, nk5, nt5, na5, ne5, nao5, ncap5, nks5, rfl, g, hmm5⟩; have p5 := Lib.hid g; clear g)
  | (at_builtin; refine wpList_app p4.out rfl (.tmp 28) (.tmp 31) rfl rfl rfl (by simp only [List.length_nil, List.length_append, List.length_cons]; omega) ?_; intro gr4 cap4 v4 e; have e4 := Lib.hid e; clear e)
  | (go_at_call 87; refine (e3.out.callN (by repeat (first | exact Below.refl _ _ | apply bl_drew | apply bl_alloc)) (h4.out _ _)).mono ?_; rintro e w4 ⟨lv4, nk4, nt4, na4, ne4, nao4, ncap4, nks4, rfl, g, hmm4⟩; have p4 := Lib.hid g; clear g)
  | (at_builtin; refine wpList_app p3.out rfl (.tmp 23) (.tmp 26) rfl rfl rfl (by simp only [List.length_nil, List.length_append, List.length_cons]; omega) ?_; intro gr3 cap3 v3 e; have e3 := Lib.hid e; clear e)
  | (go_at_call 82; refine ((FIn.collect0 f2.out).callN (by repeat (first | exact Below.refl _ _ | apply bl_drew | apply bl_alloc)) (h3.out _ _)).mono ?_; rintro e w3 ⟨lv3, nk3, nt3, na3, ne3, nao3, ncap3, nks3, rfl, g, hmm3⟩; have p3 := Lib.hid g; clear g)
  | (go_at_call 80; refine (f1.out.callS (by repeat (first | exact Below.refl _ _ | apply bl_drew | apply bl_alloc)) (h2.out _ _)).mono ?_; rintro e w2 ⟨lv2, rfl, g⟩; have f2 := Lib.hid g; clear g)
  | (go_at_call 37; refine (f0.out.callS (by repeat (first | exact Below.refl _ _ | apply bl_drew | apply bl_alloc)) (h1.out _ _)).mono ?_; rintro e w1 ⟨lv1, rfl, g⟩; have f1 := Lib.hid (g.rebase (s1 := { s with at_ := s.at_ + 1 }) (by have := hnx1.out; simp only; omega)); clear g))
 refine bodyPost_ret (v := .agg #[.int .i64 9, .string x2, .int .i64 (S.at_ s.at_ s5.at_), .int .i64 (S.last s5.at_), .slice (some ⟨gr5, 0, none⟩) 3 cap5]) (by simp [results, Tryz.results35, go_sem, z0, z1, z2, z3, z4] <;> rfl) rfl ?_
 rw [hm.out]
 exact f6.out.end_ (kept5 _ _ _ _ _ _ _) 9 s.at_ x2
end Go.Proofs.YthggagophcnkfaaGreatDoor.py
namespace Go.Proofs.YthggagophcnkfaaGreatDoor.py
open Go.RowKit Go.Proofs.YthggagophcnkfaaGreatDoor.agg Go.Proofs.YthggagophcnkfaaGreatDoor.sx Go.Proofs.YthggagophcnkfaaGreatDoor.px
set_option linter.unusedSimpArgs false
set_option linter.unusedVariables false
theorem declaration_walk {w : World} {P : Nat} {tv lv : Value} {S : Src} {s : Ps} (h : PIn w P tv lv S s) (hs : declares S.A s = true) :
 Calls Tryz.prog 35 #[.pointer (some ⟨P, 0, none⟩)] w (NEnd w P tv lv S { s with at_ := s.at_ + 1 } (declaration S.A s)) := by
 have hw := isB_word (show isB S.A declWords s = true from hs)
 simp only [declWords, List.mem_cons, List.not_mem_nil, or_false] at hw
 rcases hw with e | e | e | e | e | e | e
 ·exact decl_sort h (Lib.hid hs) (Lib.hid e)
 ·exact decl_relation h (Lib.hid hs) (Lib.hid e)
 ·exact decl_counter h (Lib.hid hs) (Lib.hid e)
 ·exact decl_set h (Lib.hid hs) (Lib.hid e)
 ·exact decl_register h (Lib.hid hs) (Lib.hid e)
 ·exact decl_invariant h (Lib.hid hs) (Lib.hid e)
 ·exact decl_operation h (Lib.hid hs) (Lib.hid e)
end Go.Proofs.YthggagophcnkfaaGreatDoor.py
