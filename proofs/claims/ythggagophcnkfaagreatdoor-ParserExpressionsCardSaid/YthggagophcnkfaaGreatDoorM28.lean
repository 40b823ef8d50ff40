/- The walks of the reference parser's statement, keyword by keyword (one). The walks of the reference parser's statement, keyword by keyword (two). The walks of the reference parser's statement, keyword by keyword (three). The walk of the reference parser's statement. -/
import Derived.Test.YthggagophcnkfaaGreatDoorM27
import Derived.Test.YthggagophcnkfaaGreatDoorM9
namespace Go.Proofs.YthggagophcnkfaaGreatDoor.py
open Go.RowKit Go.Proofs.YthggagophcnkfaaGreatDoor.agg Go.Proofs.YthggagophcnkfaaGreatDoor.sx Go.Proofs.YthggagophcnkfaaGreatDoor.px
set_option linter.unusedSimpArgs false
set_option linter.unusedVariables false
set_option maxRecDepth 100000 in
set_option maxHeartbeats 2000000 in
theorem stmt_require {w : World} {P : Nat} {tv lv : Value} {S : Src} {s : Ps} (h : PIn w P tv lv S s) (n : Nat) (hst : StM P tv S (stmt S.A n) n) (hn : S.L.length < s.at_ + (n + 1)) (c1 : Hid (states S.A s = true)) (c2 : Hid ((next S.A s).1 = (ByteArray.mk #[114, 101, 113, 117, 105, 114, 101]))) :
 Calls Tryz.prog 139 #[.pointer (some ⟨P, 0, none⟩)] w (NEnd w P tv lv S { s with at_ := s.at_ + 1 } (stmt S.A (n + 1) s)) := by
 have f0 := Lib.hid (FIn.start h)
 have cat := h.cell.2.2.1
 have cla := h.cell.2.2.2.1
 have hP := lt_of_block h.box
 have hst2 := Lib.hid hst
 clear hst
 have hm0 : stmt S.A (n + 1) s = (node 26 s.at_ (⟨#[]⟩) [(expression S.A (next S.A s).2).1] (demand S.A (ByteArray.mk #[59]) (expression S.A (next S.A s).2).2).2, (demand S.A (ByteArray.mk #[59]) (expression S.A (next S.A s).2).2).2) := by
  rw [stmt]
  simp (decide := true) only [c1.out, c2.out, if_true, if_false, Bool.false_eq_true, Bool.true_eq_false, reduceIte, Nat.reduceEqDiff]
 have hm := Lib.hid hm0
 clear hm0
 generalize stmt S.A (n + 1) s = m at *
 have h3 := Lib.hid (fun (W : World) (lvq : Value) (q : PIn W P tv lvq S s) => next_is q (isB_kind (show isB S.A stmtWords s = true from c1.out)) (ByteArray.mk #[114, 101, 113, 117, 105, 114, 101]) c2.out)
 have hnx3 : Hid ((next S.A s).2.at_ = s.at_ + 1) := rfl
 generalize (next S.A s).2 = s3 at *
 have h4 := Lib.hid (fun (W : World) (lvq : Value) (q : PIn W P tv lvq S s3) => expression_all q)
 generalize expression S.A s3 = k4 at *
 obtain ⟨kk4, s4⟩ := k4
 have h5 := Lib.hid (fun (W : World) (lvq : Value) (q : PIn W P tv lvq S s4) => expect_walk q (ByteArray.mk #[59]) (by decide))
 generalize (demand S.A (ByteArray.mk #[59]) s4).2 = s5 at *
 clear h
 go_enter Tryz.func139, Tryz.ntmps139
 go_upto_region 1 with fail
 go_region
 go_wp2_with (first
  | (go_at_call 38; refine ((EIn.toRow (ao := some ⟨gr4, 0, none⟩) (n := 1) (cap := cap4) e5.out (by simp)).callNode (by repeat (first | exact Below.refl _ _ | apply bl_drew | apply bl_alloc)) 26 s.at_ (Nat.le_succ _) ⟨#[]⟩).mono ?_; rintro e w6 ⟨rfl, g⟩; have f6 := Lib.hid g; clear g; obtain ⟨z0, z1, z2, z3, z4, z5⟩ := f6.out.fin.cells)
  | (go_at_call 83; refine (e4.out.callS (by repeat (first | exact Below.refl _ _ | apply bl_drew | apply bl_alloc)) (h5.out _ _)).mono ?_; rintro e w5 ⟨lv5, rfl, g⟩; have e5 := Lib.hid g; clear g)
  | (at_builtin; refine wpList_app p4.out rfl (.tmp 87) (.tmp 90) rfl rfl rfl (by simp only [List.length_nil, List.length_append, List.length_cons]; omega) ?_; intro gr4 cap4 v4 e; have e4 := Lib.hid e; clear e)
  | (go_at_call 45; refine (e3.out.callN (by repeat (first | exact Below.refl _ _ | apply bl_drew | apply bl_alloc)) (h4.out _ _)).mono ?_; rintro e w4 ⟨lv4, nk4, nt4, na4, ne4, nao4, ncap4, nks4, rfl, g, hmm4⟩; have p4 := Lib.hid g; clear g)
  | (go_at_call 37; refine ((FIn.collect0 f2.out).callS (by repeat (first | exact Below.refl _ _ | apply bl_drew | apply bl_alloc)) (h3.out _ _)).mono ?_; rintro e w3 ⟨lv3, rfl, g⟩; have e3 := Lib.hid (g.rebase (s1 := { s with at_ := s.at_ + 1 }) (by have := hnx3.out; simp only; omega)); clear g)
  | (go_at_call 33; refine (f1.out.callIsS hs1.out true (show isB S.A stmtWords s = true from c1.out) (by decide)).mono ?_; rintro e w2 ⟨rfl, g⟩; have f2 := Lib.hid g; clear g)
  | (go_at_call 162; refine (f0.out.callWs (by repeat (first | exact Below.refl _ _ | apply bl_drew | apply bl_alloc)) rpstatements_ok).mono ?_; rintro e w1 ⟨ow, nw, cw, rfl, hs, g⟩; have f1 := Lib.hid g; have hs1 := Lib.hid hs; clear g hs))
 refine bodyPost_ret (v := .agg #[.int .i64 26, .string ⟨#[]⟩, .int .i64 (S.at_ s.at_ s5.at_), .int .i64 (S.last s5.at_), .slice (some ⟨gr4, 0, none⟩) 1 cap4]) (by simp [results, Tryz.results139, go_sem, z0, z1, z2, z3, z4] <;> rfl) rfl ?_
 rw [hm.out]
 exact f6.out.end_ (kept5 _ _ _ _ _ _ _) 26 s.at_ ⟨#[]⟩
set_option maxRecDepth 100000 in
set_option maxHeartbeats 2000000 in
theorem stmt_insert {w : World} {P : Nat} {tv lv : Value} {S : Src} {s : Ps} (h : PIn w P tv lv S s) (n : Nat) (hst : StM P tv S (stmt S.A n) n) (hn : S.L.length < s.at_ + (n + 1)) (c1 : Hid (states S.A s = true)) (c2 : Hid ((next S.A s).1 = (ByteArray.mk #[105, 110, 115, 101, 114, 116]))) :
 Calls Tryz.prog 139 #[.pointer (some ⟨P, 0, none⟩)] w (NEnd w P tv lv S { s with at_ := s.at_ + 1 } (stmt S.A (n + 1) s)) := by
 have f0 := Lib.hid (FIn.start h)
 have cat := h.cell.2.2.1
 have cla := h.cell.2.2.2.1
 have hP := lt_of_block h.box
 have hst2 := Lib.hid hst
 clear hst
 have hm0 : stmt S.A (n + 1) s = (node 28 s.at_ (⟨#[]⟩) [(cell S.A (next S.A s).2).1] (demand S.A (ByteArray.mk #[59]) (cell S.A (next S.A s).2).2).2, (demand S.A (ByteArray.mk #[59]) (cell S.A (next S.A s).2).2).2) := by
  rw [stmt]
  simp (decide := true) only [c1.out, c2.out, if_true, if_false, Bool.false_eq_true, Bool.true_eq_false, reduceIte, Nat.reduceEqDiff]
 have hm := Lib.hid hm0
 clear hm0
 generalize stmt S.A (n + 1) s = m at *
 have h3 := Lib.hid (fun (W : World) (lvq : Value) (q : PIn W P tv lvq S s) => next_is q (isB_kind (show isB S.A stmtWords s = true from c1.out)) (ByteArray.mk #[105, 110, 115, 101, 114, 116]) c2.out)
 have hnx3 : Hid ((next S.A s).2.at_ = s.at_ + 1) := rfl
 generalize (next S.A s).2 = s3 at *
 have h4 := Lib.hid (fun (W : World) (lvq : Value) (q : PIn W P tv lvq S s3) => cell_walk q)
 generalize cell S.A s3 = k4 at *
 obtain ⟨kk4, s4⟩ := k4
 have h5 := Lib.hid (fun (W : World) (lvq : Value) (q : PIn W P tv lvq S s4) => expect_walk q (ByteArray.mk #[59]) (by decide))
 generalize (demand S.A (ByteArray.mk #[59]) s4).2 = s5 at *
 clear h
 go_enter Tryz.func139, Tryz.ntmps139
 go_upto_region 1 with fail
 go_region
 go_wp2_with (first
  | (go_at_call 38; refine ((EIn.toRow (ao := some ⟨gr4, 0, none⟩) (n := 1) (cap := cap4) e5.out (by simp)).callNode (by repeat (first | exact Below.refl _ _ | apply bl_drew | apply bl_alloc)) 28 s.at_ (Nat.le_succ _) ⟨#[]⟩).mono ?_; rintro e w6 ⟨rfl, g⟩; have f6 := Lib.hid g; clear g; obtain ⟨z0, z1, z2, z3, z4, z5⟩ := f6.out.fin.cells)
  | (go_at_call 83; refine (e4.out.callS (by repeat (first | exact Below.refl _ _ | apply bl_drew | apply bl_alloc)) (h5.out _ _)).mono ?_; rintro e w5 ⟨lv5, rfl, g⟩; have e5 := Lib.hid g; clear g)
  | (at_builtin; refine wpList_app p4.out rfl (.tmp 106) (.tmp 109) rfl rfl rfl (by simp only [List.length_nil, List.length_append, List.length_cons]; omega) ?_; intro gr4 cap4 v4 e; have e4 := Lib.hid e; clear e)
  | (go_at_call 163; refine (e3.out.callN (by repeat (first | exact Below.refl _ _ | apply bl_drew | apply bl_alloc)) (h4.out _ _)).mono ?_; rintro e w4 ⟨lv4, nk4, nt4, na4, ne4, nao4, ncap4, nks4, rfl, g, hmm4⟩; have p4 := Lib.hid g; clear g)
  | (go_at_call 37; refine ((FIn.collect0 f2.out).callS (by repeat (first | exact Below.refl _ _ | apply bl_drew | apply bl_alloc)) (h3.out _ _)).mono ?_; rintro e w3 ⟨lv3, rfl, g⟩; have e3 := Lib.hid (g.rebase (s1 := { s with at_ := s.at_ + 1 }) (by have := hnx3.out; simp only; omega)); clear g)
  | (go_at_call 33; refine (f1.out.callIsS hs1.out true (show isB S.A stmtWords s = true from c1.out) (by decide)).mono ?_; rintro e w2 ⟨rfl, g⟩; have f2 := Lib.hid g; clear g)
  | (go_at_call 162; refine (f0.out.callWs (by repeat (first | exact Below.refl _ _ | apply bl_drew | apply bl_alloc)) rpstatements_ok).mono ?_; rintro e w1 ⟨ow, nw, cw, rfl, hs, g⟩; have f1 := Lib.hid g; have hs1 := Lib.hid hs; clear g hs))
 refine bodyPost_ret (v := .agg #[.int .i64 28, .string ⟨#[]⟩, .int .i64 (S.at_ s.at_ s5.at_), .int .i64 (S.last s5.at_), .slice (some ⟨gr4, 0, none⟩) 1 cap4]) (by simp [results, Tryz.results139, go_sem, z0, z1, z2, z3, z4] <;> rfl) rfl ?_
 rw [hm.out]
 exact f6.out.end_ (kept5 _ _ _ _ _ _ _) 28 s.at_ ⟨#[]⟩
set_option maxRecDepth 100000 in
set_option maxHeartbeats 2000000 in
theorem stmt_delete {w : World} {P : Nat} {tv lv : Value} {S : Src} {s : Ps} (h : PIn w P tv lv S s) (n : Nat) (hst : StM P tv S (stmt S.A n) n) (hn : S.L.length < s.at_ + (n + 1)) (c1 : Hid (states S.A s = true)) (c2 : Hid ((next S.A s).1 = (ByteArray.mk #[100, 101, 108, 101, 116, 101]))) :
 Calls Tryz.prog 139 #[.pointer (some ⟨P, 0, none⟩)] w (NEnd w P tv lv S { s with at_ := s.at_ + 1 } (stmt S.A (n + 1) s)) := by
 have f0 := Lib.hid (FIn.start h)
 have cat := h.cell.2.2.1
 have cla := h.cell.2.2.2.1
 have hP := lt_of_block h.box
 have hst2 := Lib.hid hst
 clear hst
 have hm0 : stmt S.A (n + 1) s = (node 29 s.at_ (⟨#[]⟩) [(cell S.A (next S.A s).2).1] (demand S.A (ByteArray.mk #[59]) (cell S.A (next S.A s).2).2).2, (demand S.A (ByteArray.mk #[59]) (cell S.A (next S.A s).2).2).2) := by
  rw [stmt]
  simp (decide := true) only [c1.out, c2.out, if_true, if_false, Bool.false_eq_true, Bool.true_eq_false, reduceIte, Nat.reduceEqDiff]
 have hm := Lib.hid hm0
 clear hm0
 generalize stmt S.A (n + 1) s = m at *
 have h3 := Lib.hid (fun (W : World) (lvq : Value) (q : PIn W P tv lvq S s) => next_is q (isB_kind (show isB S.A stmtWords s = true from c1.out)) (ByteArray.mk #[100, 101, 108, 101, 116, 101]) c2.out)
 have hnx3 : Hid ((next S.A s).2.at_ = s.at_ + 1) := rfl
 generalize (next S.A s).2 = s3 at *
 have h4 := Lib.hid (fun (W : World) (lvq : Value) (q : PIn W P tv lvq S s3) => cell_walk q)
 generalize cell S.A s3 = k4 at *
 obtain ⟨kk4, s4⟩ := k4
 have h5 := Lib.hid (fun (W : World) (lvq : Value) (q : PIn W P tv lvq S s4) => expect_walk q (ByteArray.mk #[59]) (by decide))
 generalize (demand S.A (ByteArray.mk #[59]) s4).2 = s5 at *
 clear h
 go_enter Tryz.func139, Tryz.ntmps139
 go_upto_region 1 with fail
 go_region
 go_wp2_with (first
  | (go_at_call 38; refine ((EIn.toRow (ao := some ⟨gr4, 0, none⟩) (n := 1) (cap := cap4) e5.out (by simp)).callNode (by repeat (first | exact Below.refl _ _ | apply bl_drew | apply bl_alloc)) 29 s.at_ (Nat.le_succ _) ⟨#[]⟩).mono ?_; rintro e w6 ⟨rfl, g⟩; have f6 := Lib.hid g; clear g; obtain ⟨z0, z1, z2, z3, z4, z5⟩ := f6.out.fin.cells)
  | (go_at_call 83; refine (e4.out.callS (by repeat (first | exact Below.refl _ _ | apply bl_drew | apply bl_alloc)) (h5.out _ _)).mono ?_; rintro e w5 ⟨lv5, rfl, g⟩; have e5 := Lib.hid g; clear g)
  | (at_builtin; refine wpList_app p4.out rfl (.tmp 113) (.tmp 116) rfl rfl rfl (by simp only [List.length_nil, List.length_append, List.length_cons]; omega) ?_; intro gr4 cap4 v4 e; have e4 := Lib.hid e; clear e)
  | (go_at_call 163; refine (e3.out.callN (by repeat (first | exact Below.refl _ _ | apply bl_drew | apply bl_alloc)) (h4.out _ _)).mono ?_; rintro e w4 ⟨lv4, nk4, nt4, na4, ne4, nao4, ncap4, nks4, rfl, g, hmm4⟩; have p4 := Lib.hid g; clear g)
  | (go_at_call 37; refine ((FIn.collect0 f2.out).callS (by repeat (first | exact Below.refl _ _ | apply bl_drew | apply bl_alloc)) (h3.out _ _)).mono ?_; rintro e w3 ⟨lv3, rfl, g⟩; have e3 := Lib.hid (g.rebase (s1 := { s with at_ := s.at_ + 1 }) (by have := hnx3.out; simp only; omega)); clear g)
  | (go_at_call 33; refine (f1.out.callIsS hs1.out true (show isB S.A stmtWords s = true from c1.out) (by decide)).mono ?_; rintro e w2 ⟨rfl, g⟩; have f2 := Lib.hid g; clear g)
  | (go_at_call 162; refine (f0.out.callWs (by repeat (first | exact Below.refl _ _ | apply bl_drew | apply bl_alloc)) rpstatements_ok).mono ?_; rintro e w1 ⟨ow, nw, cw, rfl, hs, g⟩; have f1 := Lib.hid g; have hs1 := Lib.hid hs; clear g hs))
 refine bodyPost_ret (v := .agg #[.int .i64 29, .string ⟨#[]⟩, .int .i64 (S.at_ s.at_ s5.at_), .int .i64 (S.last s5.at_), .slice (some ⟨gr4, 0, none⟩) 1 cap4]) (by simp [results, Tryz.results139, go_sem, z0, z1, z2, z3, z4] <;> rfl) rfl ?_
 rw [hm.out]
 exact f6.out.end_ (kept5 _ _ _ _ _ _ _) 29 s.at_ ⟨#[]⟩
set_option maxRecDepth 100000 in
set_option maxHeartbeats 2000000 in
theorem stmt_put {w : World} {P : Nat} {tv lv : Value} {S : Src} {s : Ps} (h : PIn w P tv lv S s) (n : Nat) (hst : StM P tv S (stmt S.A n) n) (hn : S.L.length < s.at_ + (n + 1)) (c1 : Hid (states S.A s = true)) (c2 : Hid ((next S.A s).1 = (ByteArray.mk #[112, 117, 116]))) :
 Calls Tryz.prog 139 #[.pointer (some ⟨P, 0, none⟩)] w (NEnd w P tv lv S { s with at_ := s.at_ + 1 } (stmt S.A (n + 1) s)) := by
 have f0 := Lib.hid (FIn.start h)
 have cat := h.cell.2.2.1
 have cla := h.cell.2.2.2.1
 have hP := lt_of_block h.box
 have hst2 := Lib.hid hst
 clear hst
 have hm0 : stmt S.A (n + 1) s = (node 31 s.at_ (⟨#[]⟩) [(cell S.A (next S.A s).2).1] (demand S.A (ByteArray.mk #[59]) (cell S.A (next S.A s).2).2).2, (demand S.A (ByteArray.mk #[59]) (cell S.A (next S.A s).2).2).2) := by
  rw [stmt]
  simp (decide := true) only [c1.out, c2.out, if_true, if_false, Bool.false_eq_true, Bool.true_eq_false, reduceIte, Nat.reduceEqDiff]
 have hm := Lib.hid hm0
 clear hm0
 generalize stmt S.A (n + 1) s = m at *
 have h3 := Lib.hid (fun (W : World) (lvq : Value) (q : PIn W P tv lvq S s) => next_is q (isB_kind (show isB S.A stmtWords s = true from c1.out)) (ByteArray.mk #[112, 117, 116]) c2.out)
 have hnx3 : Hid ((next S.A s).2.at_ = s.at_ + 1) := rfl
 generalize (next S.A s).2 = s3 at *
 have h4 := Lib.hid (fun (W : World) (lvq : Value) (q : PIn W P tv lvq S s3) => cell_walk q)
 generalize cell S.A s3 = k4 at *
 obtain ⟨kk4, s4⟩ := k4
 have h5 := Lib.hid (fun (W : World) (lvq : Value) (q : PIn W P tv lvq S s4) => expect_walk q (ByteArray.mk #[59]) (by decide))
 generalize (demand S.A (ByteArray.mk #[59]) s4).2 = s5 at *
 clear h
 go_enter Tryz.func139, Tryz.ntmps139
 go_upto_region 1 with fail
 go_region
 go_wp2_with (first
  | (go_at_call 38; refine ((EIn.toRow (ao := some ⟨gr4, 0, none⟩) (n := 1) (cap := cap4) e5.out (by simp)).callNode (by repeat (first | exact Below.refl _ _ | apply bl_drew | apply bl_alloc)) 31 s.at_ (Nat.le_succ _) ⟨#[]⟩).mono ?_; rintro e w6 ⟨rfl, g⟩; have f6 := Lib.hid g; clear g; obtain ⟨z0, z1, z2, z3, z4, z5⟩ := f6.out.fin.cells)
  | (go_at_call 83; refine (e4.out.callS (by repeat (first | exact Below.refl _ _ | apply bl_drew | apply bl_alloc)) (h5.out _ _)).mono ?_; rintro e w5 ⟨lv5, rfl, g⟩; have e5 := Lib.hid g; clear g)
  | (at_builtin; refine wpList_app p4.out rfl (.tmp 120) (.tmp 123) rfl rfl rfl (by simp only [List.length_nil, List.length_append, List.length_cons]; omega) ?_; intro gr4 cap4 v4 e; have e4 := Lib.hid e; clear e)
  | (go_at_call 163; refine (e3.out.callN (by repeat (first | exact Below.refl _ _ | apply bl_drew | apply bl_alloc)) (h4.out _ _)).mono ?_; rintro e w4 ⟨lv4, nk4, nt4, na4, ne4, nao4, ncap4, nks4, rfl, g, hmm4⟩; have p4 := Lib.hid g; clear g)
  | (go_at_call 37; refine ((FIn.collect0 f2.out).callS (by repeat (first | exact Below.refl _ _ | apply bl_drew | apply bl_alloc)) (h3.out _ _)).mono ?_; rintro e w3 ⟨lv3, rfl, g⟩; have e3 := Lib.hid (g.rebase (s1 := { s with at_ := s.at_ + 1 }) (by have := hnx3.out; simp only; omega)); clear g)
  | (go_at_call 33; refine (f1.out.callIsS hs1.out true (show isB S.A stmtWords s = true from c1.out) (by decide)).mono ?_; rintro e w2 ⟨rfl, g⟩; have f2 := Lib.hid g; clear g)
  | (go_at_call 162; refine (f0.out.callWs (by repeat (first | exact Below.refl _ _ | apply bl_drew | apply bl_alloc)) rpstatements_ok).mono ?_; rintro e w1 ⟨ow, nw, cw, rfl, hs, g⟩; have f1 := Lib.hid g; have hs1 := Lib.hid hs; clear g hs))
 refine bodyPost_ret (v := .agg #[.int .i64 31, .string ⟨#[]⟩, .int .i64 (S.at_ s.at_ s5.at_), .int .i64 (S.last s5.at_), .slice (some ⟨gr4, 0, none⟩) 1 cap4]) (by simp [results, Tryz.results139, go_sem, z0, z1, z2, z3, z4] <;> rfl) rfl ?_
 rw [hm.out]
 exact f6.out.end_ (kept5 _ _ _ _ _ _ _) 31 s.at_ ⟨#[]⟩
set_option maxRecDepth 100000 in
set_option maxHeartbeats 2000000 in
theorem stmt_drop {w : World} {P : Nat} {tv lv : Value} {S : Src} {s : Ps} (h : PIn w P tv lv S s) (n : Nat) (hst : StM P tv S (stmt S.A n) n) (hn : S.L.length < s.at_ + (n + 1)) (c1 : Hid (states S.A s = true)) (c2 : Hid ((next S.A s).1 = (ByteArray.mk #[100, 114, 111, 112]))) :
 Calls Tryz.prog 139 #[.pointer (some ⟨P, 0, none⟩)] w (NEnd w P tv lv S { s with at_ := s.at_ + 1 } (stmt S.A (n + 1) s)) := by
 have f0 := Lib.hid (FIn.start h)
 have cat := h.cell.2.2.1
 have cla := h.cell.2.2.2.1
 have hP := lt_of_block h.box
 have hst2 := Lib.hid hst
 clear hst
 have hm0 : stmt S.A (n + 1) s = (node 32 s.at_ (⟨#[]⟩) [(cell S.A (next S.A s).2).1] (demand S.A (ByteArray.mk #[59]) (cell S.A (next S.A s).2).2).2, (demand S.A (ByteArray.mk #[59]) (cell S.A (next S.A s).2).2).2) := by
  rw [stmt]
  simp (decide := true) only [c1.out, c2.out, if_true, if_false, Bool.false_eq_true, Bool.true_eq_false, reduceIte, Nat.reduceEqDiff]
 have hm := Lib.hid hm0
 clear hm0
 generalize stmt S.A (n + 1) s = m at *
 have h3 := Lib.hid (fun (W : World) (lvq : Value) (q : PIn W P tv lvq S s) => next_is q (isB_kind (show isB S.A stmtWords s = true from c1.out)) (ByteArray.mk #[100, 114, 111, 112]) c2.out)
 have hnx3 : Hid ((next S.A s).2.at_ = s.at_ + 1) := rfl
 generalize (next S.A s).2 = s3 at *
 have h4 := Lib.hid (fun (W : World) (lvq : Value) (q : PIn W P tv lvq S s3) => cell_walk q)
 generalize cell S.A s3 = k4 at *
 obtain ⟨kk4, s4⟩ := k4
 have h5 := Lib.hid (fun (W : World) (lvq : Value) (q : PIn W P tv lvq S s4) => expect_walk q (ByteArray.mk #[59]) (by decide))
 generalize (demand S.A (ByteArray.mk #[59]) s4).2 = s5 at *
 clear h
 go_enter Tryz.func139, Tryz.ntmps139
 go_upto_region 1 with fail
 go_region
 go_wp2_with (first
  | (go_at_call 38; refine ((EIn.toRow (ao := some ⟨gr4, 0, none⟩) (n := 1) (cap := cap4) e5.out (by simp)).callNode (by repeat (first | exact Below.refl _ _ | apply bl_drew | apply bl_alloc)) 32 s.at_ (Nat.le_succ _) ⟨#[]⟩).mono ?_; rintro e w6 ⟨rfl, g⟩; have f6 := Lib.hid g; clear g; obtain ⟨z0, z1, z2, z3, z4, z5⟩ := f6.out.fin.cells)
  | (go_at_call 83; refine (e4.out.callS (by repeat (first | exact Below.refl _ _ | apply bl_drew | apply bl_alloc)) (h5.out _ _)).mono ?_; rintro e w5 ⟨lv5, rfl, g⟩; have e5 := Lib.hid g; clear g)
  | (at_builtin; refine wpList_app p4.out rfl (.tmp 127) (.tmp 130) rfl rfl rfl (by simp only [List.length_nil, List.length_append, List.length_cons]; omega) ?_; intro gr4 cap4 v4 e; have e4 := Lib.hid e; clear e)
  | (go_at_call 163; refine (e3.out.callN (by repeat (first | exact Below.refl _ _ | apply bl_drew | apply bl_alloc)) (h4.out _ _)).mono ?_; rintro e w4 ⟨lv4, nk4, nt4, na4, ne4, nao4, ncap4, nks4, rfl, g, hmm4⟩; have p4 := Lib.hid g; clear g)
  | (go_at_call 37; refine ((FIn.collect0 f2.out).callS (by repeat (first | exact Below.refl _ _ | apply bl_drew | apply bl_alloc)) (h3.out _ _)).mono ?_; rintro e w3 ⟨lv3, rfl, g⟩; have e3 := Lib.hid (g.rebase (s1 := { s with at_ := s.at_ + 1 }) (by have := hnx3.out; simp only; omega)); clear g)
  | (go_at_call 33; refine (f1.out.callIsS hs1.out true (show isB S.A stmtWords s = true from c1.out) (by decide)).mono ?_; rintro e w2 ⟨rfl, g⟩; have f2 := Lib.hid g; clear g)
  | (go_at_call 162; refine (f0.out.callWs (by repeat (first | exact Below.refl _ _ | apply bl_drew | apply bl_alloc)) rpstatements_ok).mono ?_; rintro e w1 ⟨ow, nw, cw, rfl, hs, g⟩; have f1 := Lib.hid g; have hs1 := Lib.hid hs; clear g hs))
 refine bodyPost_ret (v := .agg #[.int .i64 32, .string ⟨#[]⟩, .int .i64 (S.at_ s.at_ s5.at_), .int .i64 (S.last s5.at_), .slice (some ⟨gr4, 0, none⟩) 1 cap4]) (by simp [results, Tryz.results139, go_sem, z0, z1, z2, z3, z4] <;> rfl) rfl ?_
 rw [hm.out]
 exact f6.out.end_ (kept5 _ _ _ _ _ _ _) 32 s.at_ ⟨#[]⟩
end Go.Proofs.YthggagophcnkfaaGreatDoor.py
namespace Go.Proofs.YthggagophcnkfaaGreatDoor.py
open Go.RowKit Go.Proofs.YthggagophcnkfaaGreatDoor.agg Go.Proofs.YthggagophcnkfaaGreatDoor.sx Go.Proofs.YthggagophcnkfaaGreatDoor.px
set_option linter.unusedSimpArgs false
set_option linter.unusedVariables false
set_option maxRecDepth 100000 in
set_option maxHeartbeats 2000000 in
theorem stmt_hold {w : World} {P : Nat} {tv lv : Value} {S : Src} {s : Ps} (h : PIn w P tv lv S s) (n : Nat) (hst : StM P tv S (stmt S.A n) n) (hn : S.L.length < s.at_ + (n + 1)) (c1 : Hid (states S.A s = true)) (c2 : Hid ((next S.A s).1 = (ByteArray.mk #[104, 111, 108, 100]))) :
 Calls Tryz.prog 139 #[.pointer (some ⟨P, 0, none⟩)] w (NEnd w P tv lv S { s with at_ := s.at_ + 1 } (stmt S.A (n + 1) s)) := by
 have f0 := Lib.hid (FIn.start h)
 have cat := h.cell.2.2.1
 have cla := h.cell.2.2.2.1
 have hP := lt_of_block h.box
 have hst2 := Lib.hid hst
 clear hst
 have hm0 : stmt S.A (n + 1) s = (node 27 s.at_ (⟨#[]⟩) [(total S.A (next S.A s).2).1, (bound S.A (expression S.A) (total S.A (next S.A s).2).2).1] (demand S.A (ByteArray.mk #[59]) (bound S.A (expression S.A) (total S.A (next S.A s).2).2).2).2, (demand S.A (ByteArray.mk #[59]) (bound S.A (expression S.A) (total S.A (next S.A s).2).2).2).2) := by
  rw [stmt]
  simp (decide := true) only [c1.out, c2.out, if_true, if_false, Bool.false_eq_true, Bool.true_eq_false, reduceIte, Nat.reduceEqDiff]
 have hm := Lib.hid hm0
 clear hm0
 generalize stmt S.A (n + 1) s = m at *
 have h3 := Lib.hid (fun (W : World) (lvq : Value) (q : PIn W P tv lvq S s) => next_is q (isB_kind (show isB S.A stmtWords s = true from c1.out)) (ByteArray.mk #[104, 111, 108, 100]) c2.out)
 have hnx3 : Hid ((next S.A s).2.at_ = s.at_ + 1) := rfl
 generalize (next S.A s).2 = s3 at *
 have h4 := Lib.hid (fun (W : World) (lvq : Value) (q : PIn W P tv lvq S s3) => total_walk q)
 generalize total S.A s3 = k4 at *
 obtain ⟨kk4, s4⟩ := k4
 have h5 := Lib.hid (fun (W : World) (lvq : Value) (q : PIn W P tv lvq S s4) => bound_ex_walk q (expression S.A) (fun _ _ _ q => expression_all q))
 generalize bound S.A (expression S.A) s4 = k5 at *
 obtain ⟨kk5, s5⟩ := k5
 have h6 := Lib.hid (fun (W : World) (lvq : Value) (q : PIn W P tv lvq S s5) => expect_walk q (ByteArray.mk #[59]) (by decide))
 generalize (demand S.A (ByteArray.mk #[59]) s5).2 = s6 at *
 clear h
 go_enter Tryz.func139, Tryz.ntmps139
 go_upto_region 1 with fail
 go_region
 go_wp2_with (first
  | (go_at_call 38; refine ((EIn.toRow (ao := some ⟨gr5, 0, none⟩) (n := 2) (cap := cap5) e6.out (by simp)).callNode (by repeat (first | exact Below.refl _ _ | apply bl_drew | apply bl_alloc)) 27 s.at_ (Nat.le_succ _) ⟨#[]⟩).mono ?_; rintro e w7 ⟨rfl, g⟩; have f7 := Lib.hid g; clear g; obtain ⟨z0, z1, z2, z3, z4, z5⟩ := f7.out.fin.cells)
  | (go_at_call 83; refine (e5.out.callS (by repeat (first | exact Below.refl _ _ | apply bl_drew | apply bl_alloc)) (h6.out _ _)).mono ?_; rintro e w6 ⟨lv6, rfl, g⟩; have e6 := Lib.hid g; clear g)
  | (at_builtin; refine wpList_app p5.out rfl (.tmp 99) (.tmp 102) rfl rfl rfl (by simp only [List.length_nil, List.length_append, List.length_cons]; omega) ?_; intro gr5 cap5 v5 e; have e5 := Lib.hid e; clear e)
  | (go_at_call 137; refine (e4.out.callN (by repeat (first | exact Below.refl _ _ | apply bl_drew | apply bl_alloc)) (h5.out _ _)).mono ?_; rintro e w5 ⟨lv5, nk5, nt5, na5, ne5, nao5, ncap5, nks5, rfl, g, hmm5⟩; have p5 := Lib.hid g; clear g)
  | (at_builtin; refine wpList_app p4.out rfl (.tmp 94) (.tmp 97) rfl rfl rfl (by simp only [List.length_nil, List.length_append, List.length_cons]; omega) ?_; intro gr4 cap4 v4 e; have e4 := Lib.hid e; clear e)
  | (go_at_call 138; refine (e3.out.callN (by repeat (first | exact Below.refl _ _ | apply bl_drew | apply bl_alloc)) (h4.out _ _)).mono ?_; rintro e w4 ⟨lv4, nk4, nt4, na4, ne4, nao4, ncap4, nks4, rfl, g, hmm4⟩; have p4 := Lib.hid g; clear g)
  | (go_at_call 37; refine ((FIn.collect0 f2.out).callS (by repeat (first | exact Below.refl _ _ | apply bl_drew | apply bl_alloc)) (h3.out _ _)).mono ?_; rintro e w3 ⟨lv3, rfl, g⟩; have e3 := Lib.hid (g.rebase (s1 := { s with at_ := s.at_ + 1 }) (by have := hnx3.out; simp only; omega)); clear g)
  | (go_at_call 33; refine (f1.out.callIsS hs1.out true (show isB S.A stmtWords s = true from c1.out) (by decide)).mono ?_; rintro e w2 ⟨rfl, g⟩; have f2 := Lib.hid g; clear g)
  | (go_at_call 162; refine (f0.out.callWs (by repeat (first | exact Below.refl _ _ | apply bl_drew | apply bl_alloc)) rpstatements_ok).mono ?_; rintro e w1 ⟨ow, nw, cw, rfl, hs, g⟩; have f1 := Lib.hid g; have hs1 := Lib.hid hs; clear g hs))
 refine bodyPost_ret (v := .agg #[.int .i64 27, .string ⟨#[]⟩, .int .i64 (S.at_ s.at_ s6.at_), .int .i64 (S.last s6.at_), .slice (some ⟨gr5, 0, none⟩) 2 cap5]) (by simp [results, Tryz.results139, go_sem, z0, z1, z2, z3, z4] <;> rfl) rfl ?_
 rw [hm.out]
 exact f7.out.end_ (kept5 _ _ _ _ _ _ _) 27 s.at_ ⟨#[]⟩
set_option maxRecDepth 100000 in
set_option maxHeartbeats 2000000 in
theorem stmt_add {w : World} {P : Nat} {tv lv : Value} {S : Src} {s : Ps} (h : PIn w P tv lv S s) (n : Nat) (hst : StM P tv S (stmt S.A n) n) (hn : S.L.length < s.at_ + (n + 1)) (c1 : Hid (states S.A s = true)) (c2 : Hid ((next S.A s).1 = (ByteArray.mk #[97, 100, 100]))) :
 Calls Tryz.prog 139 #[.pointer (some ⟨P, 0, none⟩)] w (NEnd w P tv lv S { s with at_ := s.at_ + 1 } (stmt S.A (n + 1) s)) := by
 have f0 := Lib.hid (FIn.start h)
 have cat := h.cell.2.2.1
 have cla := h.cell.2.2.2.1
 have hP := lt_of_block h.box
 have hst2 := Lib.hid hst
 clear hst
 have hm0 : stmt S.A (n + 1) s = (node 30 s.at_ (⟨#[]⟩) [(expression S.A (next S.A s).2).1, (cell S.A (demand S.A (ByteArray.mk #[116, 111]) (expression S.A (next S.A s).2).2).2).1] (demand S.A (ByteArray.mk #[59]) (cell S.A (demand S.A (ByteArray.mk #[116, 111]) (expression S.A (next S.A s).2).2).2).2).2, (demand S.A (ByteArray.mk #[59]) (cell S.A (demand S.A (ByteArray.mk #[116, 111]) (expression S.A (next S.A s).2).2).2).2).2) := by
  rw [stmt]
  simp (decide := true) only [c1.out, c2.out, if_true, if_false, Bool.false_eq_true, Bool.true_eq_false, reduceIte, Nat.reduceEqDiff]
 have hm := Lib.hid hm0
 clear hm0
 generalize stmt S.A (n + 1) s = m at *
 have h3 := Lib.hid (fun (W : World) (lvq : Value) (q : PIn W P tv lvq S s) => next_is q (isB_kind (show isB S.A stmtWords s = true from c1.out)) (ByteArray.mk #[97, 100, 100]) c2.out)
 have hnx3 : Hid ((next S.A s).2.at_ = s.at_ + 1) := rfl
 generalize (next S.A s).2 = s3 at *
 have h4 := Lib.hid (fun (W : World) (lvq : Value) (q : PIn W P tv lvq S s3) => expression_all q)
 generalize expression S.A s3 = k4 at *
 obtain ⟨kk4, s4⟩ := k4
 have h5 := Lib.hid (fun (W : World) (lvq : Value) (q : PIn W P tv lvq S s4) => expect_walk q (ByteArray.mk #[116, 111]) (by decide))
 generalize (demand S.A (ByteArray.mk #[116, 111]) s4).2 = s5 at *
 have h6 := Lib.hid (fun (W : World) (lvq : Value) (q : PIn W P tv lvq S s5) => cell_walk q)
 generalize cell S.A s5 = k6 at *
 obtain ⟨kk6, s6⟩ := k6
 have h7 := Lib.hid (fun (W : World) (lvq : Value) (q : PIn W P tv lvq S s6) => expect_walk q (ByteArray.mk #[59]) (by decide))
 generalize (demand S.A (ByteArray.mk #[59]) s6).2 = s7 at *
 clear h
 go_enter Tryz.func139, Tryz.ntmps139
 go_upto_region 1 with fail
 go_region
 go_wp2_with (first
  | (go_at_call 38; refine ((EIn.toRow (ao := some ⟨gr6, 0, none⟩) (n := 2) (cap := cap6) e7.out (by simp)).callNode (by repeat (first | exact Below.refl _ _ | apply bl_drew | apply bl_alloc)) 30 s.at_ (Nat.le_succ _) ⟨#[]⟩).mono ?_; rintro e w8 ⟨rfl, g⟩; have f8 := Lib.hid g; clear g; obtain ⟨z0, z1, z2, z3, z4, z5⟩ := f8.out.fin.cells)
  | (go_at_call 83; refine (e6.out.callS (by repeat (first | exact Below.refl _ _ | apply bl_drew | apply bl_alloc)) (h7.out _ _)).mono ?_; rintro e w7 ⟨lv7, rfl, g⟩; have e7 := Lib.hid g; clear g)
  | (at_builtin; refine wpList_app p6.out rfl (.tmp 141) (.tmp 144) rfl rfl rfl (by simp only [List.length_nil, List.length_append, List.length_cons]; omega) ?_; intro gr6 cap6 v6 e; have e6 := Lib.hid e; clear e)
  | (go_at_call 163; refine (e5.out.callN (by repeat (first | exact Below.refl _ _ | apply bl_drew | apply bl_alloc)) (h6.out _ _)).mono ?_; rintro e w6 ⟨lv6, nk6, nt6, na6, ne6, nao6, ncap6, nks6, rfl, g, hmm6⟩; have p6 := Lib.hid g; clear g)
  | (go_at_call 83; refine (e4.out.callS (by repeat (first | exact Below.refl _ _ | apply bl_drew | apply bl_alloc)) (h5.out _ _)).mono ?_; rintro e w5 ⟨lv5, rfl, g⟩; have e5 := Lib.hid g; clear g)
  | (at_builtin; refine wpList_app p4.out rfl (.tmp 134) (.tmp 137) rfl rfl rfl (by simp only [List.length_nil, List.length_append, List.length_cons]; omega) ?_; intro gr4 cap4 v4 e; have e4 := Lib.hid e; clear e)
  | (go_at_call 45; refine (e3.out.callN (by repeat (first | exact Below.refl _ _ | apply bl_drew | apply bl_alloc)) (h4.out _ _)).mono ?_; rintro e w4 ⟨lv4, nk4, nt4, na4, ne4, nao4, ncap4, nks4, rfl, g, hmm4⟩; have p4 := Lib.hid g; clear g)
  | (go_at_call 37; refine ((FIn.collect0 f2.out).callS (by repeat (first | exact Below.refl _ _ | apply bl_drew | apply bl_alloc)) (h3.out _ _)).mono ?_; rintro e w3 ⟨lv3, rfl, g⟩; have e3 := Lib.hid (g.rebase (s1 := { s with at_ := s.at_ + 1 }) (by have := hnx3.out; simp only; omega)); clear g)
  | (go_at_call 33; refine (f1.out.callIsS hs1.out true (show isB S.A stmtWords s = true from c1.out) (by decide)).mono ?_; rintro e w2 ⟨rfl, g⟩; have f2 := Lib.hid g; clear g)
  | (go_at_call 162; refine (f0.out.callWs (by repeat (first | exact Below.refl _ _ | apply bl_drew | apply bl_alloc)) rpstatements_ok).mono ?_; rintro e w1 ⟨ow, nw, cw, rfl, hs, g⟩; have f1 := Lib.hid g; have hs1 := Lib.hid hs; clear g hs))
 refine bodyPost_ret (v := .agg #[.int .i64 30, .string ⟨#[]⟩, .int .i64 (S.at_ s.at_ s7.at_), .int .i64 (S.last s7.at_), .slice (some ⟨gr6, 0, none⟩) 2 cap6]) (by simp [results, Tryz.results139, go_sem, z0, z1, z2, z3, z4] <;> rfl) rfl ?_
 rw [hm.out]
 exact f8.out.end_ (kept5 _ _ _ _ _ _ _) 30 s.at_ ⟨#[]⟩
set_option maxRecDepth 100000 in
set_option maxHeartbeats 2000000 in
theorem stmt_assign {w : World} {P : Nat} {tv lv : Value} {S : Src} {s : Ps} (h : PIn w P tv lv S s) (n : Nat) (hst : StM P tv S (stmt S.A n) n) (hn : S.L.length < s.at_ + (n + 1)) (c1 : Hid (states S.A s = true)) (c2 : Hid ((next S.A s).1 = (ByteArray.mk #[97, 115, 115, 105, 103, 110]))) :
 Calls Tryz.prog 139 #[.pointer (some ⟨P, 0, none⟩)] w (NEnd w P tv lv S { s with at_ := s.at_ + 1 } (stmt S.A (n + 1) s)) := by
 have f0 := Lib.hid (FIn.start h)
 have cat := h.cell.2.2.1
 have cla := h.cell.2.2.2.1
 have hP := lt_of_block h.box
 have hst2 := Lib.hid hst
 clear hst
 have hm0 : stmt S.A (n + 1) s = (node 33 s.at_ (⟨#[]⟩) [(cell S.A (next S.A s).2).1, (expression S.A (demand S.A (ByteArray.mk #[61]) (cell S.A (next S.A s).2).2).2).1] (demand S.A (ByteArray.mk #[59]) (expression S.A (demand S.A (ByteArray.mk #[61]) (cell S.A (next S.A s).2).2).2).2).2, (demand S.A (ByteArray.mk #[59]) (expression S.A (demand S.A (ByteArray.mk #[61]) (cell S.A (next S.A s).2).2).2).2).2) := by
  rw [stmt]
  simp (decide := true) only [c1.out, c2.out, if_true, if_false, Bool.false_eq_true, Bool.true_eq_false, reduceIte, Nat.reduceEqDiff]
 have hm := Lib.hid hm0
 clear hm0
 generalize stmt S.A (n + 1) s = m at *
 have h3 := Lib.hid (fun (W : World) (lvq : Value) (q : PIn W P tv lvq S s) => next_is q (isB_kind (show isB S.A stmtWords s = true from c1.out)) (ByteArray.mk #[97, 115, 115, 105, 103, 110]) c2.out)
 have hnx3 : Hid ((next S.A s).2.at_ = s.at_ + 1) := rfl
 generalize (next S.A s).2 = s3 at *
 have h4 := Lib.hid (fun (W : World) (lvq : Value) (q : PIn W P tv lvq S s3) => cell_walk q)
 generalize cell S.A s3 = k4 at *
 obtain ⟨kk4, s4⟩ := k4
 have h5 := Lib.hid (fun (W : World) (lvq : Value) (q : PIn W P tv lvq S s4) => expect_walk q (ByteArray.mk #[61]) (by decide))
 generalize (demand S.A (ByteArray.mk #[61]) s4).2 = s5 at *
 have h6 := Lib.hid (fun (W : World) (lvq : Value) (q : PIn W P tv lvq S s5) => expression_all q)
 generalize expression S.A s5 = k6 at *
 obtain ⟨kk6, s6⟩ := k6
 have h7 := Lib.hid (fun (W : World) (lvq : Value) (q : PIn W P tv lvq S s6) => expect_walk q (ByteArray.mk #[59]) (by decide))
 generalize (demand S.A (ByteArray.mk #[59]) s6).2 = s7 at *
 clear h
 go_enter Tryz.func139, Tryz.ntmps139
 go_upto_region 1 with fail
 go_region
 go_wp2_with (first
  | (go_at_call 38; refine ((EIn.toRow (ao := some ⟨gr6, 0, none⟩) (n := 2) (cap := cap6) e7.out (by simp)).callNode (by repeat (first | exact Below.refl _ _ | apply bl_drew | apply bl_alloc)) 33 s.at_ (Nat.le_succ _) ⟨#[]⟩).mono ?_; rintro e w8 ⟨rfl, g⟩; have f8 := Lib.hid g; clear g; obtain ⟨z0, z1, z2, z3, z4, z5⟩ := f8.out.fin.cells)
  | (go_at_call 83; refine (e6.out.callS (by repeat (first | exact Below.refl _ _ | apply bl_drew | apply bl_alloc)) (h7.out _ _)).mono ?_; rintro e w7 ⟨lv7, rfl, g⟩; have e7 := Lib.hid g; clear g)
  | (at_builtin; refine wpList_app p6.out rfl (.tmp 155) (.tmp 158) rfl rfl rfl (by simp only [List.length_nil, List.length_append, List.length_cons]; omega) ?_; intro gr6 cap6 v6 e; have e6 := Lib.hid e; clear e)
  | (go_at_call 45; refine (e5.out.callN (by repeat (first | exact Below.refl _ _ | apply bl_drew | apply bl_alloc)) (h6.out _ _)).mono ?_; rintro e w6 ⟨lv6, nk6, nt6, na6, ne6, nao6, ncap6, nks6, rfl, g, hmm6⟩; have p6 := Lib.hid g; clear g)
  | (go_at_call 83; refine (e4.out.callS (by repeat (first | exact Below.refl _ _ | apply bl_drew | apply bl_alloc)) (h5.out _ _)).mono ?_; rintro e w5 ⟨lv5, rfl, g⟩; have e5 := Lib.hid g; clear g)
  | (at_builtin; refine wpList_app p4.out rfl (.tmp 148) (.tmp 151) rfl rfl rfl (by simp only [List.length_nil, List.length_append, List.length_cons]; omega) ?_; intro gr4 cap4 v4 e; have e4 := Lib.hid e; clear e)
  | (go_at_call 163; refine (e3.out.callN (by repeat (first | exact Below.refl _ _ | apply bl_drew | apply bl_alloc)) (h4.out _ _)).mono ?_; rintro e w4 ⟨lv4, nk4, nt4, na4, ne4, nao4, ncap4, nks4, rfl, g, hmm4⟩; have p4 := Lib.hid g; clear g)
  | (go_at_call 37; refine ((FIn.collect0 f2.out).callS (by repeat (first | exact Below.refl _ _ | apply bl_drew | apply bl_alloc)) (h3.out _ _)).mono ?_; rintro e w3 ⟨lv3, rfl, g⟩; have e3 := Lib.hid (g.rebase (s1 := { s with at_ := s.at_ + 1 }) (by have := hnx3.out; simp only; omega)); clear g)
  | (go_at_call 33; refine (f1.out.callIsS hs1.out true (show isB S.A stmtWords s = true from c1.out) (by decide)).mono ?_; rintro e w2 ⟨rfl, g⟩; have f2 := Lib.hid g; clear g)
  | (go_at_call 162; refine (f0.out.callWs (by repeat (first | exact Below.refl _ _ | apply bl_drew | apply bl_alloc)) rpstatements_ok).mono ?_; rintro e w1 ⟨ow, nw, cw, rfl, hs, g⟩; have f1 := Lib.hid g; have hs1 := Lib.hid hs; clear g hs))
 refine bodyPost_ret (v := .agg #[.int .i64 33, .string ⟨#[]⟩, .int .i64 (S.at_ s.at_ s7.at_), .int .i64 (S.last s7.at_), .slice (some ⟨gr6, 0, none⟩) 2 cap6]) (by simp [results, Tryz.results139, go_sem, z0, z1, z2, z3, z4] <;> rfl) rfl ?_
 rw [hm.out]
 exact f8.out.end_ (kept5 _ _ _ _ _ _ _) 33 s.at_ ⟨#[]⟩
end Go.Proofs.YthggagophcnkfaaGreatDoor.py
namespace Go.Proofs.YthggagophcnkfaaGreatDoor.py
open Go.RowKit Go.Proofs.YthggagophcnkfaaGreatDoor.agg Go.Proofs.YthggagophcnkfaaGreatDoor.sx Go.Proofs.YthggagophcnkfaaGreatDoor.px
set_option linter.unusedSimpArgs false
set_option linter.unusedVariables false
set_option maxRecDepth 100000 in
set_option maxHeartbeats 2000000 in
theorem stmt_for1 {w : World} {P : Nat} {tv lv : Value} {S : Src} {s : Ps} (h : PIn w P tv lv S s) (n : Nat) (hst : StM P tv S (stmt S.A n) n) (hn : S.L.length < s.at_ + (n + 1)) (c1 : Hid (states S.A s = true)) (c2 : Hid ((next S.A s).1 = (ByteArray.mk #[102, 111, 114]))) (c3 : Hid (isB S.A [(ByteArray.mk #[119, 104, 101, 114, 101])] (column S.A (next S.A s).2).2 = true)) :
 Calls Tryz.prog 139 #[.pointer (some ⟨P, 0, none⟩)] w (NEnd w P tv lv S { s with at_ := s.at_ + 1 } (stmt S.A (n + 1) s)) := by
 have f0 := Lib.hid (FIn.start h)
 have cat := h.cell.2.2.1
 have cla := h.cell.2.2.2.1
 have hP := lt_of_block h.box
 have hst2 := Lib.hid hst
 clear hst
 have hm0 : stmt S.A (n + 1) s = (node 34 s.at_ (⟨#[]⟩) [(column S.A (next S.A s).2).1, (expression S.A (next S.A (column S.A (next S.A s).2).2).2).1, (block S.A (stmt S.A n) (expression S.A (next S.A (column S.A (next S.A s).2).2).2).2).1] (block S.A (stmt S.A n) (expression S.A (next S.A (column S.A (next S.A s).2).2).2).2).2, (block S.A (stmt S.A n) (expression S.A (next S.A (column S.A (next S.A s).2).2).2).2).2) := by
  rw [stmt]
  simp (decide := true) only [c1.out, c2.out, c3.out, if_true, if_false, Bool.false_eq_true, Bool.true_eq_false, reduceIte, Nat.reduceEqDiff]
 have hm := Lib.hid hm0
 clear hm0
 generalize stmt S.A (n + 1) s = m at *
 have h3 := Lib.hid (fun (W : World) (lvq : Value) (q : PIn W P tv lvq S s) => next_is q (isB_kind (show isB S.A stmtWords s = true from c1.out)) (ByteArray.mk #[102, 111, 114]) c2.out)
 have hnx3 : Hid ((next S.A s).2.at_ = s.at_ + 1) := rfl
 generalize (next S.A s).2 = s3 at *
 have h4 := Lib.hid (fun (W : World) (lvq : Value) (q : PIn W P tv lvq S s3) => column_walk q)
 generalize column S.A s3 = k4 at *
 obtain ⟨kk4, s4⟩ := k4
 have h5 := Lib.hid (fun (W : World) (lvq : Value) (q : PIn W P tv lvq S s4) => opt_yes q (ByteArray.mk #[119, 104, 101, 114, 101]) c3.out)
 generalize (next S.A s4).2 = s5 at *
 have h6 := Lib.hid (fun (W : World) (lvq : Value) (q : PIn W P tv lvq S s5) => expression_all q)
 generalize expression S.A s5 = k6 at *
 obtain ⟨kk6, s6⟩ := k6
 have h7 := Lib.hid (fun (W : World) (lvq : Value) (q : PIn W P tv lvq S s6) (hmo : s.at_ + 1 ≤ s6.at_) => block_walk q (stmt S.A n) n hst2.out (by omega))
 generalize block S.A (stmt S.A n) s6 = k7 at *
 obtain ⟨kk7, s7⟩ := k7
 clear h
 go_enter Tryz.func139, Tryz.ntmps139
 go_upto_region 1 with fail
 go_region
 go_wp2_with (first
  | (go_at_call 38; refine ((EIn.toRow (ao := some ⟨gr7, 0, none⟩) (n := 3) (cap := cap7) e7.out (by simp)).callNode (by repeat (first | exact Below.refl _ _ | apply bl_drew | apply bl_alloc)) 34 s.at_ (Nat.le_succ _) ⟨#[]⟩).mono ?_; rintro e w8 ⟨rfl, g⟩; have f8 := Lib.hid g; clear g; obtain ⟨z0, z1, z2, z3, z4, z5⟩ := f8.out.fin.cells)
  | (at_builtin; refine wpList_app p7.out rfl (.tmp 75) (.tmp 78) rfl rfl rfl (by simp only [List.length_nil, List.length_append, List.length_cons]; omega) ?_; intro gr7 cap7 v7 e; have e7 := Lib.hid e; clear e)
  | (go_at_call 88; refine (e6.out.callN (by repeat (first | exact Below.refl _ _ | apply bl_drew | apply bl_alloc)) (fun q => h7.out _ _ q e6.out.mono)).mono ?_; rintro e w7 ⟨lv7, nk7, nt7, na7, ne7, nao7, ncap7, nks7, rfl, g, hmm7⟩; have p7 := Lib.hid g; clear g)
  | (at_builtin; refine wpList_app p6.out rfl (.tmp 65) (.tmp 68) rfl rfl rfl (by simp only [List.length_nil, List.length_append, List.length_cons]; omega) ?_; intro gr6 cap6 v6 e; have e6 := Lib.hid e; clear e)
  | (go_at_call 45; refine (e5.out.callN (by repeat (first | exact Below.refl _ _ | apply bl_drew | apply bl_alloc)) (h6.out _ _)).mono ?_; rintro e w6 ⟨lv6, nk6, nt6, na6, ne6, nao6, ncap6, nks6, rfl, g, hmm6⟩; have p6 := Lib.hid g; clear g)
  | (go_at_call 96; refine (e4.out.callS (by repeat (first | exact Below.refl _ _ | apply bl_drew | apply bl_alloc)) (h5.out _ _)).mono ?_; rintro e w5 ⟨lv5, rfl, g⟩; have e5 := Lib.hid g; clear g)
  | (at_builtin; refine wpList_app p4.out rfl (.tmp 58) (.tmp 61) rfl rfl rfl (by simp only [List.length_nil, List.length_append, List.length_cons]; omega) ?_; intro gr4 cap4 v4 e; have e4 := Lib.hid e; clear e)
  | (go_at_call 164; refine (e3.out.callN (by repeat (first | exact Below.refl _ _ | apply bl_drew | apply bl_alloc)) (h4.out _ _)).mono ?_; rintro e w4 ⟨lv4, nk4, nt4, na4, ne4, nao4, ncap4, nks4, rfl, g, hmm4⟩; have p4 := Lib.hid g; clear g)
  | (go_at_call 37; refine ((FIn.collect0 f2.out).callS (by repeat (first | exact Below.refl _ _ | apply bl_drew | apply bl_alloc)) (h3.out _ _)).mono ?_; rintro e w3 ⟨lv3, rfl, g⟩; have e3 := Lib.hid (g.rebase (s1 := { s with at_ := s.at_ + 1 }) (by have := hnx3.out; simp only; omega)); clear g)
  | (go_at_call 33; refine (f1.out.callIsS hs1.out true (show isB S.A stmtWords s = true from c1.out) (by decide)).mono ?_; rintro e w2 ⟨rfl, g⟩; have f2 := Lib.hid g; clear g)
  | (go_at_call 162; refine (f0.out.callWs (by repeat (first | exact Below.refl _ _ | apply bl_drew | apply bl_alloc)) rpstatements_ok).mono ?_; rintro e w1 ⟨ow, nw, cw, rfl, hs, g⟩; have f1 := Lib.hid g; have hs1 := Lib.hid hs; clear g hs))
 refine bodyPost_ret (v := .agg #[.int .i64 34, .string ⟨#[]⟩, .int .i64 (S.at_ s.at_ s7.at_), .int .i64 (S.last s7.at_), .slice (some ⟨gr7, 0, none⟩) 3 cap7]) (by simp [results, Tryz.results139, go_sem, z0, z1, z2, z3, z4] <;> rfl) rfl ?_
 rw [hm.out]
 exact f8.out.end_ (kept5 _ _ _ _ _ _ _) 34 s.at_ ⟨#[]⟩
set_option maxRecDepth 100000 in
set_option maxHeartbeats 2000000 in
theorem stmt_for2 {w : World} {P : Nat} {tv lv : Value} {S : Src} {s : Ps} (h : PIn w P tv lv S s) (n : Nat) (hst : StM P tv S (stmt S.A n) n) (hn : S.L.length < s.at_ + (n + 1)) (c1 : Hid (states S.A s = true)) (c2 : Hid ((next S.A s).1 = (ByteArray.mk #[102, 111, 114]))) (c3 : Hid (isB S.A [(ByteArray.mk #[119, 104, 101, 114, 101])] (column S.A (next S.A s).2).2 = false)) :
 Calls Tryz.prog 139 #[.pointer (some ⟨P, 0, none⟩)] w (NEnd w P tv lv S { s with at_ := s.at_ + 1 } (stmt S.A (n + 1) s)) := by
 have f0 := Lib.hid (FIn.start h)
 have cat := h.cell.2.2.1
 have cla := h.cell.2.2.2.1
 have hP := lt_of_block h.box
 have hst2 := Lib.hid hst
 clear hst
 have hm0 : stmt S.A (n + 1) s = (node 34 s.at_ (⟨#[]⟩) [(column S.A (next S.A s).2).1, (missing 1 (column S.A (next S.A s).2).2), (block S.A (stmt S.A n) (column S.A (next S.A s).2).2).1] (block S.A (stmt S.A n) (column S.A (next S.A s).2).2).2, (block S.A (stmt S.A n) (column S.A (next S.A s).2).2).2) := by
  rw [stmt]
  simp (decide := true) only [c1.out, c2.out, c3.out, if_true, if_false, Bool.false_eq_true, Bool.true_eq_false, reduceIte, Nat.reduceEqDiff]
 have hm := Lib.hid hm0
 clear hm0
 generalize stmt S.A (n + 1) s = m at *
 have h3 := Lib.hid (fun (W : World) (lvq : Value) (q : PIn W P tv lvq S s) => next_is q (isB_kind (show isB S.A stmtWords s = true from c1.out)) (ByteArray.mk #[102, 111, 114]) c2.out)
 have hnx3 : Hid ((next S.A s).2.at_ = s.at_ + 1) := rfl
 generalize (next S.A s).2 = s3 at *
 have h4 := Lib.hid (fun (W : World) (lvq : Value) (q : PIn W P tv lvq S s3) => column_walk q)
 generalize column S.A s3 = k4 at *
 obtain ⟨kk4, s4⟩ := k4
 have h5 := Lib.hid (fun (W : World) (lvq : Value) (q : PIn W P tv lvq S s4) => opt_no q (ByteArray.mk #[119, 104, 101, 114, 101]) c3.out)
 have h6 := Lib.hid (fun (W : World) (lvq : Value) (q : PIn W P tv lvq S s4) => missing_walk q 1)
 have h7 := Lib.hid (fun (W : World) (lvq : Value) (q : PIn W P tv lvq S s4) (hmo : s.at_ + 1 ≤ s4.at_) => block_walk q (stmt S.A n) n hst2.out (by omega))
 generalize block S.A (stmt S.A n) s4 = k7 at *
 obtain ⟨kk7, s7⟩ := k7
 clear h
 go_enter Tryz.func139, Tryz.ntmps139
 go_upto_region 1 with fail
 go_region
 go_wp2_with (first
  | (go_at_call 38; refine ((EIn.toRow (ao := some ⟨gr7, 0, none⟩) (n := 3) (cap := cap7) e7.out (by simp)).callNode (by repeat (first | exact Below.refl _ _ | apply bl_drew | apply bl_alloc)) 34 s.at_ (Nat.le_succ _) ⟨#[]⟩).mono ?_; rintro e w8 ⟨rfl, g⟩; have f8 := Lib.hid g; clear g; obtain ⟨z0, z1, z2, z3, z4, z5⟩ := f8.out.fin.cells)
  | (at_builtin; refine wpList_app p7.out rfl (.tmp 75) (.tmp 78) rfl rfl rfl (by simp only [List.length_nil, List.length_append, List.length_cons]; omega) ?_; intro gr7 cap7 v7 e; have e7 := Lib.hid e; clear e)
  | (go_at_call 88; refine (e6.out.callN (by repeat (first | exact Below.refl _ _ | apply bl_drew | apply bl_alloc)) (fun q => h7.out _ _ q e6.out.mono)).mono ?_; rintro e w7 ⟨lv7, nk7, nt7, na7, ne7, nao7, ncap7, nks7, rfl, g, hmm7⟩; have p7 := Lib.hid g; clear g)
  | (at_builtin; refine wpList_app p6.out rfl (.tmp 70) (.tmp 73) rfl rfl rfl (by simp only [List.length_nil, List.length_append, List.length_cons]; omega) ?_; intro gr6 cap6 v6 e; have e6 := Lib.hid e; clear e)
  | (go_at_call 136; refine (e5.out.callN (by repeat (first | exact Below.refl _ _ | apply bl_drew | apply bl_alloc)) (h6.out _ _)).mono ?_; rintro e w6 ⟨lv6, nk6, nt6, na6, ne6, nao6, ncap6, nks6, rfl, g, hmm6⟩; have p6 := Lib.hid g; clear g)
  | (go_at_call 96; refine (e4.out.callS (by repeat (first | exact Below.refl _ _ | apply bl_drew | apply bl_alloc)) (h5.out _ _)).mono ?_; rintro e w5 ⟨lv5, rfl, g⟩; have e5 := Lib.hid g; clear g)
  | (at_builtin; refine wpList_app p4.out rfl (.tmp 58) (.tmp 61) rfl rfl rfl (by simp only [List.length_nil, List.length_append, List.length_cons]; omega) ?_; intro gr4 cap4 v4 e; have e4 := Lib.hid e; clear e)
  | (go_at_call 164; refine (e3.out.callN (by repeat (first | exact Below.refl _ _ | apply bl_drew | apply bl_alloc)) (h4.out _ _)).mono ?_; rintro e w4 ⟨lv4, nk4, nt4, na4, ne4, nao4, ncap4, nks4, rfl, g, hmm4⟩; have p4 := Lib.hid g; clear g)
  | (go_at_call 37; refine ((FIn.collect0 f2.out).callS (by repeat (first | exact Below.refl _ _ | apply bl_drew | apply bl_alloc)) (h3.out _ _)).mono ?_; rintro e w3 ⟨lv3, rfl, g⟩; have e3 := Lib.hid (g.rebase (s1 := { s with at_ := s.at_ + 1 }) (by have := hnx3.out; simp only; omega)); clear g)
  | (go_at_call 33; refine (f1.out.callIsS hs1.out true (show isB S.A stmtWords s = true from c1.out) (by decide)).mono ?_; rintro e w2 ⟨rfl, g⟩; have f2 := Lib.hid g; clear g)
  | (go_at_call 162; refine (f0.out.callWs (by repeat (first | exact Below.refl _ _ | apply bl_drew | apply bl_alloc)) rpstatements_ok).mono ?_; rintro e w1 ⟨ow, nw, cw, rfl, hs, g⟩; have f1 := Lib.hid g; have hs1 := Lib.hid hs; clear g hs))
 refine bodyPost_ret (v := .agg #[.int .i64 34, .string ⟨#[]⟩, .int .i64 (S.at_ s.at_ s7.at_), .int .i64 (S.last s7.at_), .slice (some ⟨gr7, 0, none⟩) 3 cap7]) (by simp [results, Tryz.results139, go_sem, z0, z1, z2, z3, z4] <;> rfl) rfl ?_
 rw [hm.out]
 exact f8.out.end_ (kept5 _ _ _ _ _ _ _) 34 s.at_ ⟨#[]⟩
end Go.Proofs.YthggagophcnkfaaGreatDoor.py
namespace Go.Proofs.YthggagophcnkfaaGreatDoor.py
open Go.RowKit Go.Proofs.YthggagophcnkfaaGreatDoor.agg Go.Proofs.YthggagophcnkfaaGreatDoor.sx Go.Proofs.YthggagophcnkfaaGreatDoor.px
set_option linter.unusedSimpArgs false
set_option linter.unusedVariables false
theorem stmt_all {P : Nat} {tv : Value} {S : Src} (n : Nat) : StM P tv S (stmt S.A n) n := by
 induction n with
 | zero => intro W lv s q hn; have := q.sok.lt; omega
 | succ n ih =>
  intro W lv s q hn he
  cases hs : states S.A s with
  | false => exact stmt_skipped q n he (Lib.hid hs)
  | true =>
   have hw := isB_word (show isB S.A stmtWords s = true from hs)
   simp only [stmtWords, List.mem_cons, List.not_mem_nil, or_false] at hw
   rcases hw with e | e | e | e | e | e | e | e | e
   ·exact stmt_require q n ih hn (Lib.hid hs) (Lib.hid e)
   ·exact stmt_hold q n ih hn (Lib.hid hs) (Lib.hid e)
   ·exact stmt_insert q n ih hn (Lib.hid hs) (Lib.hid e)
   ·exact stmt_delete q n ih hn (Lib.hid hs) (Lib.hid e)
   ·exact stmt_add q n ih hn (Lib.hid hs) (Lib.hid e)
   ·exact stmt_put q n ih hn (Lib.hid hs) (Lib.hid e)
   ·exact stmt_drop q n ih hn (Lib.hid hs) (Lib.hid e)
   ·exact stmt_assign q n ih hn (Lib.hid hs) (Lib.hid e)
   ·cases hc : isB S.A [(ByteArray.mk #[119, 104, 101, 114, 101])] (column S.A (next S.A s).2).2 with
    | true => exact stmt_for1 q n ih hn (Lib.hid hs) (Lib.hid e) (Lib.hid hc)
    | false => exact stmt_for2 q n ih hn (Lib.hid hs) (Lib.hid e) (Lib.hid hc)
theorem statement_all (P : Nat) (tv : Value) (S : Src) : StM P tv S (statement S.A) (S.L.length + 1) := by
 have h := stmt_all (P := P) (tv := tv) (S := S) (S.A.length + 1)
 unfold statement
 rw [Src.len] at h ⊢
 exact h
end Go.Proofs.YthggagophcnkfaaGreatDoor.py
