/- The walks of the parser's statement, keyword by keyword (one). The walks of the parser's statement, keyword by keyword (two). The walks of the parser's statement, keyword by keyword (three). -/
import Derived.Test.YthggagophcnkfaaGreatDoorM8
import Derived.Test.YthggagophcnkfaaGreatDoorTk
namespace Go.Proofs.YthggagophcnkfaaGreatDoor.px
open Go.RowKit Go.Proofs.YthggagophcnkfaaGreatDoor.agg Go.Proofs.YthggagophcnkfaaGreatDoor.sx
set_option linter.unusedSimpArgs false
set_option linter.unusedVariables false
set_option maxRecDepth 100000 in
set_option maxHeartbeats 2000000 in
theorem stmt_require {w : World} {P : Nat} {tv lv : Value} {S : Src} {s : Ps} (h : PIn w P tv lv S s) (n : Nat) (hst : StM P tv S (stmt S.A n) n) (hn : S.L.length < s.at_ + (n + 1)) (c1 : Hid (states S.A s = true)) (c2 : Hid ((next S.A s).1 = (ByteArray.mk #[114, 101, 113, 117, 105, 114, 101]))) :
 Calls Tryz.prog 130 #[.pointer (some ⟨P, 0, none⟩)] w (NEnd w P tv lv S { s with at_ := s.at_ + 1 } (stmt S.A (n + 1) s)) := by
 have f0 := Lib.hid (FIn.start h)
 have hP := lt_of_block h.box
 have hst2 := Lib.hid hst
 clear hst
 have hm0 : stmt S.A (n + 1) s = (node 26 s.at_ (⟨#[]⟩) [(expression S.A (next S.A s).2).1] (demand S.A (ByteArray.mk #[59]) (expression S.A (next S.A s).2).2).2, (demand S.A (ByteArray.mk #[59]) (expression S.A (next S.A s).2).2).2) := by
  rw [stmt]
  simp (decide := true) only [c1.out, c2.out, if_true, if_false, Bool.false_eq_true, Bool.true_eq_false, reduceIte, Nat.reduceEqDiff]
 have hm := Lib.hid hm0
 clear hm0
 generalize stmt S.A (n + 1) s = m at *
 have h1 := Lib.hid (fun (W : World) (lvq : Value) (q : PIn W P tv lvq S s) => states_b q c1.out)
 have h2 := Lib.hid (fun (W : World) (lvq : Value) (q : PIn W P tv lvq S s) => next_is q (isB_kind c1.out) (ByteArray.mk #[114, 101, 113, 117, 105, 114, 101]) c2.out)
 have hnx2 : Hid ((next S.A s).2.at_ = s.at_ + 1) := rfl
 generalize (next S.A s).2 = s2 at *
 have h3 := Lib.hid (fun (W : World) (lvq : Value) (q : PIn W P tv lvq S s2) => expression_all q)
 generalize expression S.A s2 = k3 at *
 obtain ⟨kk3, s3⟩ := k3
 have h4 := Lib.hid (fun (W : World) (lvq : Value) (q : PIn W P tv lvq S s3) => demand_walk q (ByteArray.mk #[59]) (by decide))
 generalize (demand S.A (ByteArray.mk #[59]) s3).1 = x4 at *
 generalize (demand S.A (ByteArray.mk #[59]) s3).2 = s4 at *
 clear h
 go_enter Tryz.func130, Tryz.ntmps130
 go_wp2_with (first
  | (go_at_call 63; refine (f4.out.callNode (by repeat (first | exact Below.refl _ _ | apply bl_drew | apply bl_alloc)) 26 s.at_ (Nat.le_succ _) ⟨#[]⟩).mono ?_; rintro e w5 ⟨rfl, g⟩; have f5 := Lib.hid g; clear g; obtain ⟨z0, z1, z2, z3, z4, z5⟩ := f5.out.fin.cells)
  | (go_at_call 67; refine (f3.out.callRowS rfl w3.heap.size 1 rfl rfl (by simp) (h4.out _ _)).mono ?_; rintro e w4 ⟨lv4, rfl, g⟩; have f4 := Lib.hid g; clear g)
  | (go_at_call 43; refine (f2.out.callN (by repeat (first | exact Below.refl _ _ | apply bl_drew | apply bl_alloc)) (h3.out _ _)).mono ?_; rintro e w3 ⟨lv3, nk3, nt3, na3, ne3, nao3, ncap3, nks3, rfl, g⟩; have f3 := Lib.hid g; clear g)
  | (go_at_call 62; refine (f1.out.callS (by repeat (first | exact Below.refl _ _ | apply bl_drew | apply bl_alloc)) (h2.out _ _)).mono ?_; rintro e w2 ⟨lv2, rfl, g⟩; have f2 := Lib.hid (g.rebase (s1 := { s with at_ := s.at_ + 1 }) (by have := hnx2.out; simp only; omega)); clear g)
  | (go_at_call 154; refine (f0.out.callB (by repeat (first | exact Below.refl _ _ | apply bl_drew | apply bl_alloc)) (h1.out _ _)).mono ?_; rintro e w1 ⟨rfl, g⟩; have f1 := Lib.hid g; clear g; obtain ⟨_, _, cat1, _⟩ := f1.out.pin.cell))
 refine bodyPost_ret (v := .agg #[.int .i64 26, .string ⟨#[]⟩, .int .i64 (S.at_ s.at_ s4.at_), .int .i64 (S.last s4.at_), .slice (some ⟨w3.heap.size, 0, none⟩) 1 1]) (by simp [results, Tryz.results130, go_sem, z0, z1, z2, z3, z4] <;> rfl) rfl ?_
 rw [hm.out]
 exact f5.out.end_ (kept5 _ _ _ _ _ _ _) 26 s.at_ ⟨#[]⟩
set_option maxRecDepth 100000 in
set_option maxHeartbeats 2000000 in
theorem stmt_insert {w : World} {P : Nat} {tv lv : Value} {S : Src} {s : Ps} (h : PIn w P tv lv S s) (n : Nat) (hst : StM P tv S (stmt S.A n) n) (hn : S.L.length < s.at_ + (n + 1)) (c1 : Hid (states S.A s = true)) (c2 : Hid ((next S.A s).1 = (ByteArray.mk #[105, 110, 115, 101, 114, 116]))) :
 Calls Tryz.prog 130 #[.pointer (some ⟨P, 0, none⟩)] w (NEnd w P tv lv S { s with at_ := s.at_ + 1 } (stmt S.A (n + 1) s)) := by
 have f0 := Lib.hid (FIn.start h)
 have hP := lt_of_block h.box
 have hst2 := Lib.hid hst
 clear hst
 have hm0 : stmt S.A (n + 1) s = (node 28 s.at_ (⟨#[]⟩) [(cell S.A (next S.A s).2).1] (demand S.A (ByteArray.mk #[59]) (cell S.A (next S.A s).2).2).2, (demand S.A (ByteArray.mk #[59]) (cell S.A (next S.A s).2).2).2) := by
  rw [stmt]
  simp (decide := true) only [c1.out, c2.out, if_true, if_false, Bool.false_eq_true, Bool.true_eq_false, reduceIte, Nat.reduceEqDiff]
 have hm := Lib.hid hm0
 clear hm0
 generalize stmt S.A (n + 1) s = m at *
 have h1 := Lib.hid (fun (W : World) (lvq : Value) (q : PIn W P tv lvq S s) => states_b q c1.out)
 have h2 := Lib.hid (fun (W : World) (lvq : Value) (q : PIn W P tv lvq S s) => next_is q (isB_kind c1.out) (ByteArray.mk #[105, 110, 115, 101, 114, 116]) c2.out)
 have hnx2 : Hid ((next S.A s).2.at_ = s.at_ + 1) := rfl
 generalize (next S.A s).2 = s2 at *
 have h3 := Lib.hid (fun (W : World) (lvq : Value) (q : PIn W P tv lvq S s2) => cell_walk q)
 generalize cell S.A s2 = k3 at *
 obtain ⟨kk3, s3⟩ := k3
 have h4 := Lib.hid (fun (W : World) (lvq : Value) (q : PIn W P tv lvq S s3) => demand_walk q (ByteArray.mk #[59]) (by decide))
 generalize (demand S.A (ByteArray.mk #[59]) s3).1 = x4 at *
 generalize (demand S.A (ByteArray.mk #[59]) s3).2 = s4 at *
 clear h
 go_enter Tryz.func130, Tryz.ntmps130
 go_wp2_with (first
  | (go_at_call 63; refine (f4.out.callNode (by repeat (first | exact Below.refl _ _ | apply bl_drew | apply bl_alloc)) 28 s.at_ (Nat.le_succ _) ⟨#[]⟩).mono ?_; rintro e w5 ⟨rfl, g⟩; have f5 := Lib.hid g; clear g; obtain ⟨z0, z1, z2, z3, z4, z5⟩ := f5.out.fin.cells)
  | (go_at_call 67; refine (f3.out.callRowS rfl w3.heap.size 1 rfl rfl (by simp) (h4.out _ _)).mono ?_; rintro e w4 ⟨lv4, rfl, g⟩; have f4 := Lib.hid g; clear g)
  | (go_at_call 156; refine (f2.out.callN (by repeat (first | exact Below.refl _ _ | apply bl_drew | apply bl_alloc)) (h3.out _ _)).mono ?_; rintro e w3 ⟨lv3, nk3, nt3, na3, ne3, nao3, ncap3, nks3, rfl, g⟩; have f3 := Lib.hid g; clear g)
  | (go_at_call 62; refine (f1.out.callS (by repeat (first | exact Below.refl _ _ | apply bl_drew | apply bl_alloc)) (h2.out _ _)).mono ?_; rintro e w2 ⟨lv2, rfl, g⟩; have f2 := Lib.hid (g.rebase (s1 := { s with at_ := s.at_ + 1 }) (by have := hnx2.out; simp only; omega)); clear g)
  | (go_at_call 154; refine (f0.out.callB (by repeat (first | exact Below.refl _ _ | apply bl_drew | apply bl_alloc)) (h1.out _ _)).mono ?_; rintro e w1 ⟨rfl, g⟩; have f1 := Lib.hid g; clear g; obtain ⟨_, _, cat1, _⟩ := f1.out.pin.cell))
 refine bodyPost_ret (v := .agg #[.int .i64 28, .string ⟨#[]⟩, .int .i64 (S.at_ s.at_ s4.at_), .int .i64 (S.last s4.at_), .slice (some ⟨w3.heap.size, 0, none⟩) 1 1]) (by simp [results, Tryz.results130, go_sem, z0, z1, z2, z3, z4] <;> rfl) rfl ?_
 rw [hm.out]
 exact f5.out.end_ (kept5 _ _ _ _ _ _ _) 28 s.at_ ⟨#[]⟩
set_option maxRecDepth 100000 in
set_option maxHeartbeats 2000000 in
theorem stmt_delete {w : World} {P : Nat} {tv lv : Value} {S : Src} {s : Ps} (h : PIn w P tv lv S s) (n : Nat) (hst : StM P tv S (stmt S.A n) n) (hn : S.L.length < s.at_ + (n + 1)) (c1 : Hid (states S.A s = true)) (c2 : Hid ((next S.A s).1 = (ByteArray.mk #[100, 101, 108, 101, 116, 101]))) :
 Calls Tryz.prog 130 #[.pointer (some ⟨P, 0, none⟩)] w (NEnd w P tv lv S { s with at_ := s.at_ + 1 } (stmt S.A (n + 1) s)) := by
 have f0 := Lib.hid (FIn.start h)
 have hP := lt_of_block h.box
 have hst2 := Lib.hid hst
 clear hst
 have hm0 : stmt S.A (n + 1) s = (node 29 s.at_ (⟨#[]⟩) [(cell S.A (next S.A s).2).1] (demand S.A (ByteArray.mk #[59]) (cell S.A (next S.A s).2).2).2, (demand S.A (ByteArray.mk #[59]) (cell S.A (next S.A s).2).2).2) := by
  rw [stmt]
  simp (decide := true) only [c1.out, c2.out, if_true, if_false, Bool.false_eq_true, Bool.true_eq_false, reduceIte, Nat.reduceEqDiff]
 have hm := Lib.hid hm0
 clear hm0
 generalize stmt S.A (n + 1) s = m at *
 have h1 := Lib.hid (fun (W : World) (lvq : Value) (q : PIn W P tv lvq S s) => states_b q c1.out)
 have h2 := Lib.hid (fun (W : World) (lvq : Value) (q : PIn W P tv lvq S s) => next_is q (isB_kind c1.out) (ByteArray.mk #[100, 101, 108, 101, 116, 101]) c2.out)
 have hnx2 : Hid ((next S.A s).2.at_ = s.at_ + 1) := rfl
 generalize (next S.A s).2 = s2 at *
 have h3 := Lib.hid (fun (W : World) (lvq : Value) (q : PIn W P tv lvq S s2) => cell_walk q)
 generalize cell S.A s2 = k3 at *
 obtain ⟨kk3, s3⟩ := k3
 have h4 := Lib.hid (fun (W : World) (lvq : Value) (q : PIn W P tv lvq S s3) => demand_walk q (ByteArray.mk #[59]) (by decide))
 generalize (demand S.A (ByteArray.mk #[59]) s3).1 = x4 at *
 generalize (demand S.A (ByteArray.mk #[59]) s3).2 = s4 at *
 clear h
 go_enter Tryz.func130, Tryz.ntmps130
 go_wp2_with (first
  | (go_at_call 63; refine (f4.out.callNode (by repeat (first | exact Below.refl _ _ | apply bl_drew | apply bl_alloc)) 29 s.at_ (Nat.le_succ _) ⟨#[]⟩).mono ?_; rintro e w5 ⟨rfl, g⟩; have f5 := Lib.hid g; clear g; obtain ⟨z0, z1, z2, z3, z4, z5⟩ := f5.out.fin.cells)
  | (go_at_call 67; refine (f3.out.callRowS rfl w3.heap.size 1 rfl rfl (by simp) (h4.out _ _)).mono ?_; rintro e w4 ⟨lv4, rfl, g⟩; have f4 := Lib.hid g; clear g)
  | (go_at_call 156; refine (f2.out.callN (by repeat (first | exact Below.refl _ _ | apply bl_drew | apply bl_alloc)) (h3.out _ _)).mono ?_; rintro e w3 ⟨lv3, nk3, nt3, na3, ne3, nao3, ncap3, nks3, rfl, g⟩; have f3 := Lib.hid g; clear g)
  | (go_at_call 62; refine (f1.out.callS (by repeat (first | exact Below.refl _ _ | apply bl_drew | apply bl_alloc)) (h2.out _ _)).mono ?_; rintro e w2 ⟨lv2, rfl, g⟩; have f2 := Lib.hid (g.rebase (s1 := { s with at_ := s.at_ + 1 }) (by have := hnx2.out; simp only; omega)); clear g)
  | (go_at_call 154; refine (f0.out.callB (by repeat (first | exact Below.refl _ _ | apply bl_drew | apply bl_alloc)) (h1.out _ _)).mono ?_; rintro e w1 ⟨rfl, g⟩; have f1 := Lib.hid g; clear g; obtain ⟨_, _, cat1, _⟩ := f1.out.pin.cell))
 refine bodyPost_ret (v := .agg #[.int .i64 29, .string ⟨#[]⟩, .int .i64 (S.at_ s.at_ s4.at_), .int .i64 (S.last s4.at_), .slice (some ⟨w3.heap.size, 0, none⟩) 1 1]) (by simp [results, Tryz.results130, go_sem, z0, z1, z2, z3, z4] <;> rfl) rfl ?_
 rw [hm.out]
 exact f5.out.end_ (kept5 _ _ _ _ _ _ _) 29 s.at_ ⟨#[]⟩
set_option maxRecDepth 100000 in
set_option maxHeartbeats 2000000 in
theorem stmt_put {w : World} {P : Nat} {tv lv : Value} {S : Src} {s : Ps} (h : PIn w P tv lv S s) (n : Nat) (hst : StM P tv S (stmt S.A n) n) (hn : S.L.length < s.at_ + (n + 1)) (c1 : Hid (states S.A s = true)) (c2 : Hid ((next S.A s).1 = (ByteArray.mk #[112, 117, 116]))) :
 Calls Tryz.prog 130 #[.pointer (some ⟨P, 0, none⟩)] w (NEnd w P tv lv S { s with at_ := s.at_ + 1 } (stmt S.A (n + 1) s)) := by
 have f0 := Lib.hid (FIn.start h)
 have hP := lt_of_block h.box
 have hst2 := Lib.hid hst
 clear hst
 have hm0 : stmt S.A (n + 1) s = (node 31 s.at_ (⟨#[]⟩) [(cell S.A (next S.A s).2).1] (demand S.A (ByteArray.mk #[59]) (cell S.A (next S.A s).2).2).2, (demand S.A (ByteArray.mk #[59]) (cell S.A (next S.A s).2).2).2) := by
  rw [stmt]
  simp (decide := true) only [c1.out, c2.out, if_true, if_false, Bool.false_eq_true, Bool.true_eq_false, reduceIte, Nat.reduceEqDiff]
 have hm := Lib.hid hm0
 clear hm0
 generalize stmt S.A (n + 1) s = m at *
 have h1 := Lib.hid (fun (W : World) (lvq : Value) (q : PIn W P tv lvq S s) => states_b q c1.out)
 have h2 := Lib.hid (fun (W : World) (lvq : Value) (q : PIn W P tv lvq S s) => next_is q (isB_kind c1.out) (ByteArray.mk #[112, 117, 116]) c2.out)
 have hnx2 : Hid ((next S.A s).2.at_ = s.at_ + 1) := rfl
 generalize (next S.A s).2 = s2 at *
 have h3 := Lib.hid (fun (W : World) (lvq : Value) (q : PIn W P tv lvq S s2) => cell_walk q)
 generalize cell S.A s2 = k3 at *
 obtain ⟨kk3, s3⟩ := k3
 have h4 := Lib.hid (fun (W : World) (lvq : Value) (q : PIn W P tv lvq S s3) => demand_walk q (ByteArray.mk #[59]) (by decide))
 generalize (demand S.A (ByteArray.mk #[59]) s3).1 = x4 at *
 generalize (demand S.A (ByteArray.mk #[59]) s3).2 = s4 at *
 clear h
 go_enter Tryz.func130, Tryz.ntmps130
 go_wp2_with (first
  | (go_at_call 63; refine (f4.out.callNode (by repeat (first | exact Below.refl _ _ | apply bl_drew | apply bl_alloc)) 31 s.at_ (Nat.le_succ _) ⟨#[]⟩).mono ?_; rintro e w5 ⟨rfl, g⟩; have f5 := Lib.hid g; clear g; obtain ⟨z0, z1, z2, z3, z4, z5⟩ := f5.out.fin.cells)
  | (go_at_call 67; refine (f3.out.callRowS rfl w3.heap.size 1 rfl rfl (by simp) (h4.out _ _)).mono ?_; rintro e w4 ⟨lv4, rfl, g⟩; have f4 := Lib.hid g; clear g)
  | (go_at_call 156; refine (f2.out.callN (by repeat (first | exact Below.refl _ _ | apply bl_drew | apply bl_alloc)) (h3.out _ _)).mono ?_; rintro e w3 ⟨lv3, nk3, nt3, na3, ne3, nao3, ncap3, nks3, rfl, g⟩; have f3 := Lib.hid g; clear g)
  | (go_at_call 62; refine (f1.out.callS (by repeat (first | exact Below.refl _ _ | apply bl_drew | apply bl_alloc)) (h2.out _ _)).mono ?_; rintro e w2 ⟨lv2, rfl, g⟩; have f2 := Lib.hid (g.rebase (s1 := { s with at_ := s.at_ + 1 }) (by have := hnx2.out; simp only; omega)); clear g)
  | (go_at_call 154; refine (f0.out.callB (by repeat (first | exact Below.refl _ _ | apply bl_drew | apply bl_alloc)) (h1.out _ _)).mono ?_; rintro e w1 ⟨rfl, g⟩; have f1 := Lib.hid g; clear g; obtain ⟨_, _, cat1, _⟩ := f1.out.pin.cell))
 refine bodyPost_ret (v := .agg #[.int .i64 31, .string ⟨#[]⟩, .int .i64 (S.at_ s.at_ s4.at_), .int .i64 (S.last s4.at_), .slice (some ⟨w3.heap.size, 0, none⟩) 1 1]) (by simp [results, Tryz.results130, go_sem, z0, z1, z2, z3, z4] <;> rfl) rfl ?_
 rw [hm.out]
 exact f5.out.end_ (kept5 _ _ _ _ _ _ _) 31 s.at_ ⟨#[]⟩
set_option maxRecDepth 100000 in
set_option maxHeartbeats 2000000 in
theorem stmt_drop {w : World} {P : Nat} {tv lv : Value} {S : Src} {s : Ps} (h : PIn w P tv lv S s) (n : Nat) (hst : StM P tv S (stmt S.A n) n) (hn : S.L.length < s.at_ + (n + 1)) (c1 : Hid (states S.A s = true)) (c2 : Hid ((next S.A s).1 = (ByteArray.mk #[100, 114, 111, 112]))) :
 Calls Tryz.prog 130 #[.pointer (some ⟨P, 0, none⟩)] w (NEnd w P tv lv S { s with at_ := s.at_ + 1 } (stmt S.A (n + 1) s)) := by
 have f0 := Lib.hid (FIn.start h)
 have hP := lt_of_block h.box
 have hst2 := Lib.hid hst
 clear hst
 have hm0 : stmt S.A (n + 1) s = (node 32 s.at_ (⟨#[]⟩) [(cell S.A (next S.A s).2).1] (demand S.A (ByteArray.mk #[59]) (cell S.A (next S.A s).2).2).2, (demand S.A (ByteArray.mk #[59]) (cell S.A (next S.A s).2).2).2) := by
  rw [stmt]
  simp (decide := true) only [c1.out, c2.out, if_true, if_false, Bool.false_eq_true, Bool.true_eq_false, reduceIte, Nat.reduceEqDiff]
 have hm := Lib.hid hm0
 clear hm0
 generalize stmt S.A (n + 1) s = m at *
 have h1 := Lib.hid (fun (W : World) (lvq : Value) (q : PIn W P tv lvq S s) => states_b q c1.out)
 have h2 := Lib.hid (fun (W : World) (lvq : Value) (q : PIn W P tv lvq S s) => next_is q (isB_kind c1.out) (ByteArray.mk #[100, 114, 111, 112]) c2.out)
 have hnx2 : Hid ((next S.A s).2.at_ = s.at_ + 1) := rfl
 generalize (next S.A s).2 = s2 at *
 have h3 := Lib.hid (fun (W : World) (lvq : Value) (q : PIn W P tv lvq S s2) => cell_walk q)
 generalize cell S.A s2 = k3 at *
 obtain ⟨kk3, s3⟩ := k3
 have h4 := Lib.hid (fun (W : World) (lvq : Value) (q : PIn W P tv lvq S s3) => demand_walk q (ByteArray.mk #[59]) (by decide))
 generalize (demand S.A (ByteArray.mk #[59]) s3).1 = x4 at *
 generalize (demand S.A (ByteArray.mk #[59]) s3).2 = s4 at *
 clear h
 go_enter Tryz.func130, Tryz.ntmps130
 go_wp2_with (first
  | (go_at_call 63; refine (f4.out.callNode (by repeat (first | exact Below.refl _ _ | apply bl_drew | apply bl_alloc)) 32 s.at_ (Nat.le_succ _) ⟨#[]⟩).mono ?_; rintro e w5 ⟨rfl, g⟩; have f5 := Lib.hid g; clear g; obtain ⟨z0, z1, z2, z3, z4, z5⟩ := f5.out.fin.cells)
  | (go_at_call 67; refine (f3.out.callRowS rfl w3.heap.size 1 rfl rfl (by simp) (h4.out _ _)).mono ?_; rintro e w4 ⟨lv4, rfl, g⟩; have f4 := Lib.hid g; clear g)
  | (go_at_call 156; refine (f2.out.callN (by repeat (first | exact Below.refl _ _ | apply bl_drew | apply bl_alloc)) (h3.out _ _)).mono ?_; rintro e w3 ⟨lv3, nk3, nt3, na3, ne3, nao3, ncap3, nks3, rfl, g⟩; have f3 := Lib.hid g; clear g)
  | (go_at_call 62; refine (f1.out.callS (by repeat (first | exact Below.refl _ _ | apply bl_drew | apply bl_alloc)) (h2.out _ _)).mono ?_; rintro e w2 ⟨lv2, rfl, g⟩; have f2 := Lib.hid (g.rebase (s1 := { s with at_ := s.at_ + 1 }) (by have := hnx2.out; simp only; omega)); clear g)
  | (go_at_call 154; refine (f0.out.callB (by repeat (first | exact Below.refl _ _ | apply bl_drew | apply bl_alloc)) (h1.out _ _)).mono ?_; rintro e w1 ⟨rfl, g⟩; have f1 := Lib.hid g; clear g; obtain ⟨_, _, cat1, _⟩ := f1.out.pin.cell))
 refine bodyPost_ret (v := .agg #[.int .i64 32, .string ⟨#[]⟩, .int .i64 (S.at_ s.at_ s4.at_), .int .i64 (S.last s4.at_), .slice (some ⟨w3.heap.size, 0, none⟩) 1 1]) (by simp [results, Tryz.results130, go_sem, z0, z1, z2, z3, z4] <;> rfl) rfl ?_
 rw [hm.out]
 exact f5.out.end_ (kept5 _ _ _ _ _ _ _) 32 s.at_ ⟨#[]⟩
end Go.Proofs.YthggagophcnkfaaGreatDoor.px
namespace Go.Proofs.YthggagophcnkfaaGreatDoor.px
open Go.RowKit Go.Proofs.YthggagophcnkfaaGreatDoor.agg Go.Proofs.YthggagophcnkfaaGreatDoor.sx
set_option linter.unusedSimpArgs false
set_option linter.unusedVariables false
set_option maxRecDepth 100000 in
set_option maxHeartbeats 2000000 in
theorem stmt_hold {w : World} {P : Nat} {tv lv : Value} {S : Src} {s : Ps} (h : PIn w P tv lv S s) (n : Nat) (hst : StM P tv S (stmt S.A n) n) (hn : S.L.length < s.at_ + (n + 1)) (c1 : Hid (states S.A s = true)) (c2 : Hid ((next S.A s).1 = (ByteArray.mk #[104, 111, 108, 100]))) :
 Calls Tryz.prog 130 #[.pointer (some ⟨P, 0, none⟩)] w (NEnd w P tv lv S { s with at_ := s.at_ + 1 } (stmt S.A (n + 1) s)) := by
 have f0 := Lib.hid (FIn.start h)
 have hP := lt_of_block h.box
 have hst2 := Lib.hid hst
 clear hst
 have hm0 : stmt S.A (n + 1) s = (node 27 s.at_ (⟨#[]⟩) [(total S.A (next S.A s).2).1, (bound S.A (expression S.A) (total S.A (next S.A s).2).2).1] (demand S.A (ByteArray.mk #[59]) (bound S.A (expression S.A) (total S.A (next S.A s).2).2).2).2, (demand S.A (ByteArray.mk #[59]) (bound S.A (expression S.A) (total S.A (next S.A s).2).2).2).2) := by
  rw [stmt]
  simp (decide := true) only [c1.out, c2.out, if_true, if_false, Bool.false_eq_true, Bool.true_eq_false, reduceIte, Nat.reduceEqDiff]
 have hm := Lib.hid hm0
 clear hm0
 generalize stmt S.A (n + 1) s = m at *
 have h1 := Lib.hid (fun (W : World) (lvq : Value) (q : PIn W P tv lvq S s) => states_b q c1.out)
 have h2 := Lib.hid (fun (W : World) (lvq : Value) (q : PIn W P tv lvq S s) => next_is q (isB_kind c1.out) (ByteArray.mk #[104, 111, 108, 100]) c2.out)
 have hnx2 : Hid ((next S.A s).2.at_ = s.at_ + 1) := rfl
 generalize (next S.A s).2 = s2 at *
 have h3 := Lib.hid (fun (W : World) (lvq : Value) (q : PIn W P tv lvq S s2) => total_walk q)
 generalize total S.A s2 = k3 at *
 obtain ⟨kk3, s3⟩ := k3
 have h4 := Lib.hid (fun (W : World) (lvq : Value) (q : PIn W P tv lvq S s3) => bound_walk q 43 _ (fn_expression_all P tv S))
 generalize bound S.A (expression S.A) s3 = k4 at *
 obtain ⟨kk4, s4⟩ := k4
 have h5 := Lib.hid (fun (W : World) (lvq : Value) (q : PIn W P tv lvq S s4) => demand_walk q (ByteArray.mk #[59]) (by decide))
 generalize (demand S.A (ByteArray.mk #[59]) s4).1 = x5 at *
 generalize (demand S.A (ByteArray.mk #[59]) s4).2 = s5 at *
 clear h
 go_enter Tryz.func130, Tryz.ntmps130
 go_wp2_with (first
  | (go_at_call 128; refine (f2.out.callN (by repeat (first | exact Below.refl _ _ | apply bl_drew | apply bl_alloc)) (h3.out _ _)).mono ?_; rintro e w3 ⟨lv3, nk3, nt3, na3, ne3, nao3, ncap3, nks3, rfl, g⟩; have f3 := Lib.hid g; clear g)
  | (go_at_call 62; refine (f1.out.callS (by repeat (first | exact Below.refl _ _ | apply bl_drew | apply bl_alloc)) (h2.out _ _)).mono ?_; rintro e w2 ⟨lv2, rfl, g⟩; have f2 := Lib.hid (g.rebase (s1 := { s with at_ := s.at_ + 1 }) (by have := hnx2.out; simp only; omega)); clear g)
  | (go_at_call 154; refine (f0.out.callB (by repeat (first | exact Below.refl _ _ | apply bl_drew | apply bl_alloc)) (h1.out _ _)).mono ?_; rintro e w1 ⟨rfl, g⟩; have f1 := Lib.hid g; clear g; obtain ⟨_, _, cat1, _⟩ := f1.out.pin.cell))
 have fd := Lib.hid ((f3.out.box1 (k := nk3) (t := nt3) (a := na3) (e := ne3) (v := .slice nao3 nks3.length ncap3) nks3 rfl).below (Below.refl _ _).drew)
 refine wp_region_held_drew (S := fun u => u.heap[w3.heap.size]? = some (.cells #[.int .i64 nk3, .string nt3, .int .i64 na3, .int .i64 ne3, .slice nao3 nks3.length ncap3] 25 (0, 0))) (by kernel_rfl) ?hS (fun hHeld => ?_)
 case hS => exact (fd.out.boxes _ (List.mem_of_getElem? (i := 0) rfl)).1
 refine tk (i := 0) (v := .agg #[.int .i64 nk3, .string nt3, .int .i64 na3, .int .i64 ne3, .slice nao3 nks3.length ncap3]) (hy := yieldsIf_load_mid (by rfl) _ _ rfl _ _ rfl [.int .i64 nk3, .string nt3, .int .i64 na3, .int .i64 ne3, .slice nao3 nks3.length ncap3] _ (fun _ h => rangeAt_whole h) Tryz.underlying25 rfl info_nds) rfl hHeld ?_
 try simp only [Act.put, kA, kB, kC, kD, kE, kF]
 refine tk (i := 1) (v := .pointer (some ⟨P, 0, none⟩)) rfl hHeld ?_
 try simp only [Act.put, kA, kB, kC, kD, kE, kF]
 refine tk (i := 2) (v := .pointer (some ⟨P, 0, none⟩)) rfl hHeld ?_
 try simp only [Act.put, kA, kB, kC, kD, kE, kF]
 refine tk (i := 3) (v := .func (.func 43) #[.pointer (some ⟨P, 0, none⟩)] #[]) rfl hHeld ?_
 try simp only [Act.put, kA, kB, kC, kD, kE, kF]
 refine wpAnyH_ready (rs := [4]) (by kernel_rfl) (by simp) ?_
 refine AllReadyH.cons rfl (fun K hK => ?_) AllReadyH.nil
 rw [if_pos (by rfl)]
 go_simp
 go_at_call 127
 refine (fd.out.callN (Below.refl _ _) (h4.out _ _)).mono ?_
 rintro e w4 ⟨lv4, nk4, nt4, na4, ne4, nao4, ncap4, nks4, rfl, g⟩
 have f4 := Lib.hid g
 clear g
 refine hK.out _ _ (f4.out.boxes _ (List.mem_of_getElem? (i := 0) rfl)).1 (fun hHeld => ?_)
 clear hK K
 try simp only [Act.put, kA, kB, kC, kD, kE, kF]
 refine tk (i := 6) (v := .int .i64 27) rfl hHeld ?_
 try simp only [Act.put, kA, kB, kC, kD, kE, kF]
 refine wpAnyH_ready (rs := [5]) (by kernel_rfl) (by simp) ?_
 refine AllReadyH.cons rfl (fun K hK => ?_) AllReadyH.nil
 rw [if_pos (by rfl)]
 go_simp
 refine hK.out _ _ ((f4.out.below ((Below.refl _ _).alloc (Nat.le_refl _) _)).boxes _ (List.mem_of_getElem? (i := 0) rfl)).1 (fun hHeld => ?_)
 clear hK K
 try simp only [Act.put, kA, kB, kC, kD, kE, kF]
 refine tk (i := 7) (v := .slice (some ⟨w4.heap.size, 0, none⟩) 2 2) rfl hHeld ?_
 try simp only [Act.put, kA, kB, kC, kD, kE, kF]
 refine wpAnyH_done (by kernel_rfl) ?_ _
 clear hHeld
 go_wp2_with (first
  | (go_at_call 63; refine (f5.out.callNode (by repeat (first | exact Below.refl _ _ | apply bl_drew | apply bl_alloc)) 27 s.at_ (Nat.le_succ _) ⟨#[]⟩).mono ?_; rintro e w6 ⟨rfl, g⟩; have f6 := Lib.hid g; clear g; obtain ⟨z0, z1, z2, z3, z4, z5⟩ := f6.out.fin.cells)
  | (go_at_call 67; refine (f4.out.callRowS rfl w4.heap.size 2 rfl rfl (by simp) (h5.out _ _)).mono ?_; rintro e w5 ⟨lv5, rfl, g⟩; have f5 := Lib.hid g; clear g))
 refine bodyPost_ret (v := .agg #[.int .i64 27, .string ⟨#[]⟩, .int .i64 (S.at_ s.at_ s5.at_), .int .i64 (S.last s5.at_), .slice (some ⟨w4.heap.size, 0, none⟩) 2 2]) (by simp [results, Tryz.results130, go_sem, z0, z1, z2, z3, z4] <;> rfl) rfl ?_
 rw [hm.out]
 exact f6.out.end_ (kept5 _ _ _ _ _ _ _) 27 s.at_ ⟨#[]⟩
set_option maxRecDepth 100000 in
set_option maxHeartbeats 2000000 in
theorem stmt_add {w : World} {P : Nat} {tv lv : Value} {S : Src} {s : Ps} (h : PIn w P tv lv S s) (n : Nat) (hst : StM P tv S (stmt S.A n) n) (hn : S.L.length < s.at_ + (n + 1)) (c1 : Hid (states S.A s = true)) (c2 : Hid ((next S.A s).1 = (ByteArray.mk #[97, 100, 100]))) :
 Calls Tryz.prog 130 #[.pointer (some ⟨P, 0, none⟩)] w (NEnd w P tv lv S { s with at_ := s.at_ + 1 } (stmt S.A (n + 1) s)) := by
 have f0 := Lib.hid (FIn.start h)
 have hP := lt_of_block h.box
 have hst2 := Lib.hid hst
 clear hst
 have hm0 : stmt S.A (n + 1) s = (node 30 s.at_ (⟨#[]⟩) [(expression S.A (next S.A s).2).1, (cell S.A (demand S.A (ByteArray.mk #[116, 111]) (expression S.A (next S.A s).2).2).2).1] (demand S.A (ByteArray.mk #[59]) (cell S.A (demand S.A (ByteArray.mk #[116, 111]) (expression S.A (next S.A s).2).2).2).2).2, (demand S.A (ByteArray.mk #[59]) (cell S.A (demand S.A (ByteArray.mk #[116, 111]) (expression S.A (next S.A s).2).2).2).2).2) := by
  rw [stmt]
  simp (decide := true) only [c1.out, c2.out, if_true, if_false, Bool.false_eq_true, Bool.true_eq_false, reduceIte, Nat.reduceEqDiff]
 have hm := Lib.hid hm0
 clear hm0
 generalize stmt S.A (n + 1) s = m at *
 have h1 := Lib.hid (fun (W : World) (lvq : Value) (q : PIn W P tv lvq S s) => states_b q c1.out)
 have h2 := Lib.hid (fun (W : World) (lvq : Value) (q : PIn W P tv lvq S s) => next_is q (isB_kind c1.out) (ByteArray.mk #[97, 100, 100]) c2.out)
 have hnx2 : Hid ((next S.A s).2.at_ = s.at_ + 1) := rfl
 generalize (next S.A s).2 = s2 at *
 have h3 := Lib.hid (fun (W : World) (lvq : Value) (q : PIn W P tv lvq S s2) => expression_all q)
 generalize expression S.A s2 = k3 at *
 obtain ⟨kk3, s3⟩ := k3
 have h4 := Lib.hid (fun (W : World) (lvq : Value) (q : PIn W P tv lvq S s3) => demand_walk q (ByteArray.mk #[116, 111]) (by decide))
 generalize (demand S.A (ByteArray.mk #[116, 111]) s3).1 = x4 at *
 generalize (demand S.A (ByteArray.mk #[116, 111]) s3).2 = s4 at *
 have h5 := Lib.hid (fun (W : World) (lvq : Value) (q : PIn W P tv lvq S s4) => cell_walk q)
 generalize cell S.A s4 = k5 at *
 obtain ⟨kk5, s5⟩ := k5
 have h6 := Lib.hid (fun (W : World) (lvq : Value) (q : PIn W P tv lvq S s5) => demand_walk q (ByteArray.mk #[59]) (by decide))
 generalize (demand S.A (ByteArray.mk #[59]) s5).1 = x6 at *
 generalize (demand S.A (ByteArray.mk #[59]) s5).2 = s6 at *
 clear h
 go_enter Tryz.func130, Tryz.ntmps130
 go_wp2_with (first
  | (go_at_call 67; refine ((f3.out.box1 nks3 rfl).callS (by repeat (first | exact Below.refl _ _ | apply bl_drew | apply bl_alloc)) (h4.out _ _)).mono ?_; rintro e w4 ⟨lv4, rfl, g⟩; have f4 := Lib.hid g; clear g)
  | (go_at_call 43; refine (f2.out.callN (by repeat (first | exact Below.refl _ _ | apply bl_drew | apply bl_alloc)) (h3.out _ _)).mono ?_; rintro e w3 ⟨lv3, nk3, nt3, na3, ne3, nao3, ncap3, nks3, rfl, g⟩; have f3 := Lib.hid g; clear g)
  | (go_at_call 62; refine (f1.out.callS (by repeat (first | exact Below.refl _ _ | apply bl_drew | apply bl_alloc)) (h2.out _ _)).mono ?_; rintro e w2 ⟨lv2, rfl, g⟩; have f2 := Lib.hid (g.rebase (s1 := { s with at_ := s.at_ + 1 }) (by have := hnx2.out; simp only; omega)); clear g)
  | (go_at_call 154; refine (f0.out.callB (by repeat (first | exact Below.refl _ _ | apply bl_drew | apply bl_alloc)) (h1.out _ _)).mono ?_; rintro e w1 ⟨rfl, g⟩; have f1 := Lib.hid g; clear g; obtain ⟨_, _, cat1, _⟩ := f1.out.pin.cell))
 have fd := Lib.hid (f4.out.below (Below.refl _ _).drew)
 refine wp_region_held_drew (S := fun u => u.heap[w3.heap.size]? = some (.cells #[.int .i64 nk3, .string nt3, .int .i64 na3, .int .i64 ne3, .slice nao3 nks3.length ncap3] 25 (0, 0))) (by kernel_rfl) ?hS (fun hHeld => ?_)
 case hS => exact (fd.out.boxes _ (List.mem_of_getElem? (i := 0) rfl)).1
 refine tk (i := 0) (v := .agg #[.int .i64 nk3, .string nt3, .int .i64 na3, .int .i64 ne3, .slice nao3 nks3.length ncap3]) (hy := yieldsIf_load_mid (by rfl) _ _ rfl _ _ rfl [.int .i64 nk3, .string nt3, .int .i64 na3, .int .i64 ne3, .slice nao3 nks3.length ncap3] _ (fun _ h => rangeAt_whole h) Tryz.underlying25 rfl info_nds) rfl hHeld ?_
 try simp only [Act.put, kA, kB, kC, kD, kE, kF]
 refine tk (i := 1) (v := .pointer (some ⟨P, 0, none⟩)) rfl hHeld ?_
 try simp only [Act.put, kA, kB, kC, kD, kE, kF]
 refine wpAnyH_ready (rs := [2]) (by kernel_rfl) (by simp) ?_
 refine AllReadyH.cons rfl (fun K hK => ?_) AllReadyH.nil
 rw [if_pos (by rfl)]
 go_simp
 go_at_call 156
 refine (fd.out.callN (Below.refl _ _) (h5.out _ _)).mono ?_
 rintro e w5 ⟨lv5, nk5, nt5, na5, ne5, nao5, ncap5, nks5, rfl, g⟩
 have f5 := Lib.hid g
 clear g
 refine hK.out _ _ (f5.out.boxes _ (List.mem_of_getElem? (i := 0) rfl)).1 (fun hHeld => ?_)
 clear hK K
 try simp only [Act.put, kA, kB, kC, kD, kE, kF]
 refine tk (i := 4) (v := .int .i64 30) rfl hHeld ?_
 try simp only [Act.put, kA, kB, kC, kD, kE, kF]
 refine wpAnyH_ready (rs := [3]) (by kernel_rfl) (by simp) ?_
 refine AllReadyH.cons rfl (fun K hK => ?_) AllReadyH.nil
 rw [if_pos (by rfl)]
 go_simp
 refine hK.out _ _ ((f5.out.below ((Below.refl _ _).alloc (Nat.le_refl _) _)).boxes _ (List.mem_of_getElem? (i := 0) rfl)).1 (fun hHeld => ?_)
 clear hK K
 try simp only [Act.put, kA, kB, kC, kD, kE, kF]
 refine tk (i := 5) (v := .slice (some ⟨w5.heap.size, 0, none⟩) 2 2) rfl hHeld ?_
 try simp only [Act.put, kA, kB, kC, kD, kE, kF]
 refine wpAnyH_done (by kernel_rfl) ?_ _
 clear hHeld
 go_wp2_with (first
  | (go_at_call 63; refine (f6.out.callNode (by repeat (first | exact Below.refl _ _ | apply bl_drew | apply bl_alloc)) 30 s.at_ (Nat.le_succ _) ⟨#[]⟩).mono ?_; rintro e w7 ⟨rfl, g⟩; have f7 := Lib.hid g; clear g; obtain ⟨z0, z1, z2, z3, z4, z5⟩ := f7.out.fin.cells)
  | (go_at_call 67; refine (f5.out.callRowS rfl w5.heap.size 2 rfl rfl (by simp) (h6.out _ _)).mono ?_; rintro e w6 ⟨lv6, rfl, g⟩; have f6 := Lib.hid g; clear g))
 refine bodyPost_ret (v := .agg #[.int .i64 30, .string ⟨#[]⟩, .int .i64 (S.at_ s.at_ s6.at_), .int .i64 (S.last s6.at_), .slice (some ⟨w5.heap.size, 0, none⟩) 2 2]) (by simp [results, Tryz.results130, go_sem, z0, z1, z2, z3, z4] <;> rfl) rfl ?_
 rw [hm.out]
 exact f7.out.end_ (kept5 _ _ _ _ _ _ _) 30 s.at_ ⟨#[]⟩
set_option maxRecDepth 100000 in
set_option maxHeartbeats 2000000 in
theorem stmt_assign {w : World} {P : Nat} {tv lv : Value} {S : Src} {s : Ps} (h : PIn w P tv lv S s) (n : Nat) (hst : StM P tv S (stmt S.A n) n) (hn : S.L.length < s.at_ + (n + 1)) (c1 : Hid (states S.A s = true)) (c2 : Hid ((next S.A s).1 = (ByteArray.mk #[97, 115, 115, 105, 103, 110]))) :
 Calls Tryz.prog 130 #[.pointer (some ⟨P, 0, none⟩)] w (NEnd w P tv lv S { s with at_ := s.at_ + 1 } (stmt S.A (n + 1) s)) := by
 have f0 := Lib.hid (FIn.start h)
 have hP := lt_of_block h.box
 have hst2 := Lib.hid hst
 clear hst
 have hm0 : stmt S.A (n + 1) s = (node 33 s.at_ (⟨#[]⟩) [(cell S.A (next S.A s).2).1, (expression S.A (demand S.A (ByteArray.mk #[61]) (cell S.A (next S.A s).2).2).2).1] (demand S.A (ByteArray.mk #[59]) (expression S.A (demand S.A (ByteArray.mk #[61]) (cell S.A (next S.A s).2).2).2).2).2, (demand S.A (ByteArray.mk #[59]) (expression S.A (demand S.A (ByteArray.mk #[61]) (cell S.A (next S.A s).2).2).2).2).2) := by
  rw [stmt]
  simp (decide := true) only [c1.out, c2.out, if_true, if_false, Bool.false_eq_true, Bool.true_eq_false, reduceIte, Nat.reduceEqDiff]
 have hm := Lib.hid hm0
 clear hm0
 generalize stmt S.A (n + 1) s = m at *
 have h1 := Lib.hid (fun (W : World) (lvq : Value) (q : PIn W P tv lvq S s) => states_b q c1.out)
 have h2 := Lib.hid (fun (W : World) (lvq : Value) (q : PIn W P tv lvq S s) => next_is q (isB_kind c1.out) (ByteArray.mk #[97, 115, 115, 105, 103, 110]) c2.out)
 have hnx2 : Hid ((next S.A s).2.at_ = s.at_ + 1) := rfl
 generalize (next S.A s).2 = s2 at *
 have h3 := Lib.hid (fun (W : World) (lvq : Value) (q : PIn W P tv lvq S s2) => cell_walk q)
 generalize cell S.A s2 = k3 at *
 obtain ⟨kk3, s3⟩ := k3
 have h4 := Lib.hid (fun (W : World) (lvq : Value) (q : PIn W P tv lvq S s3) => demand_walk q (ByteArray.mk #[61]) (by decide))
 generalize (demand S.A (ByteArray.mk #[61]) s3).1 = x4 at *
 generalize (demand S.A (ByteArray.mk #[61]) s3).2 = s4 at *
 have h5 := Lib.hid (fun (W : World) (lvq : Value) (q : PIn W P tv lvq S s4) => expression_all q)
 generalize expression S.A s4 = k5 at *
 obtain ⟨kk5, s5⟩ := k5
 have h6 := Lib.hid (fun (W : World) (lvq : Value) (q : PIn W P tv lvq S s5) => demand_walk q (ByteArray.mk #[59]) (by decide))
 generalize (demand S.A (ByteArray.mk #[59]) s5).1 = x6 at *
 generalize (demand S.A (ByteArray.mk #[59]) s5).2 = s6 at *
 clear h
 go_enter Tryz.func130, Tryz.ntmps130
 go_wp2_with (first
  | (go_at_call 67; refine ((f3.out.box1 nks3 rfl).callS (by repeat (first | exact Below.refl _ _ | apply bl_drew | apply bl_alloc)) (h4.out _ _)).mono ?_; rintro e w4 ⟨lv4, rfl, g⟩; have f4 := Lib.hid g; clear g)
  | (go_at_call 156; refine (f2.out.callN (by repeat (first | exact Below.refl _ _ | apply bl_drew | apply bl_alloc)) (h3.out _ _)).mono ?_; rintro e w3 ⟨lv3, nk3, nt3, na3, ne3, nao3, ncap3, nks3, rfl, g⟩; have f3 := Lib.hid g; clear g)
  | (go_at_call 62; refine (f1.out.callS (by repeat (first | exact Below.refl _ _ | apply bl_drew | apply bl_alloc)) (h2.out _ _)).mono ?_; rintro e w2 ⟨lv2, rfl, g⟩; have f2 := Lib.hid (g.rebase (s1 := { s with at_ := s.at_ + 1 }) (by have := hnx2.out; simp only; omega)); clear g)
  | (go_at_call 154; refine (f0.out.callB (by repeat (first | exact Below.refl _ _ | apply bl_drew | apply bl_alloc)) (h1.out _ _)).mono ?_; rintro e w1 ⟨rfl, g⟩; have f1 := Lib.hid g; clear g; obtain ⟨_, _, cat1, _⟩ := f1.out.pin.cell))
 have fd := Lib.hid (f4.out.below (Below.refl _ _).drew)
 refine wp_region_held_drew (S := fun u => u.heap[w3.heap.size]? = some (.cells #[.int .i64 nk3, .string nt3, .int .i64 na3, .int .i64 ne3, .slice nao3 nks3.length ncap3] 25 (0, 0))) (by kernel_rfl) ?hS (fun hHeld => ?_)
 case hS => exact (fd.out.boxes _ (List.mem_of_getElem? (i := 0) rfl)).1
 refine tk (i := 0) (v := .agg #[.int .i64 nk3, .string nt3, .int .i64 na3, .int .i64 ne3, .slice nao3 nks3.length ncap3]) (hy := yieldsIf_load_mid (by rfl) _ _ rfl _ _ rfl [.int .i64 nk3, .string nt3, .int .i64 na3, .int .i64 ne3, .slice nao3 nks3.length ncap3] _ (fun _ h => rangeAt_whole h) Tryz.underlying25 rfl info_nds) rfl hHeld ?_
 try simp only [Act.put, kA, kB, kC, kD, kE, kF]
 refine tk (i := 1) (v := .pointer (some ⟨P, 0, none⟩)) rfl hHeld ?_
 try simp only [Act.put, kA, kB, kC, kD, kE, kF]
 refine wpAnyH_ready (rs := [2]) (by kernel_rfl) (by simp) ?_
 refine AllReadyH.cons rfl (fun K hK => ?_) AllReadyH.nil
 rw [if_pos (by rfl)]
 go_simp
 go_at_call 43
 refine (fd.out.callN (Below.refl _ _) (h5.out _ _)).mono ?_
 rintro e w5 ⟨lv5, nk5, nt5, na5, ne5, nao5, ncap5, nks5, rfl, g⟩
 have f5 := Lib.hid g
 clear g
 refine hK.out _ _ (f5.out.boxes _ (List.mem_of_getElem? (i := 0) rfl)).1 (fun hHeld => ?_)
 clear hK K
 try simp only [Act.put, kA, kB, kC, kD, kE, kF]
 refine tk (i := 4) (v := .int .i64 33) rfl hHeld ?_
 try simp only [Act.put, kA, kB, kC, kD, kE, kF]
 refine wpAnyH_ready (rs := [3]) (by kernel_rfl) (by simp) ?_
 refine AllReadyH.cons rfl (fun K hK => ?_) AllReadyH.nil
 rw [if_pos (by rfl)]
 go_simp
 refine hK.out _ _ ((f5.out.below ((Below.refl _ _).alloc (Nat.le_refl _) _)).boxes _ (List.mem_of_getElem? (i := 0) rfl)).1 (fun hHeld => ?_)
 clear hK K
 try simp only [Act.put, kA, kB, kC, kD, kE, kF]
 refine tk (i := 5) (v := .slice (some ⟨w5.heap.size, 0, none⟩) 2 2) rfl hHeld ?_
 try simp only [Act.put, kA, kB, kC, kD, kE, kF]
 refine wpAnyH_done (by kernel_rfl) ?_ _
 clear hHeld
 go_wp2_with (first
  | (go_at_call 63; refine (f6.out.callNode (by repeat (first | exact Below.refl _ _ | apply bl_drew | apply bl_alloc)) 33 s.at_ (Nat.le_succ _) ⟨#[]⟩).mono ?_; rintro e w7 ⟨rfl, g⟩; have f7 := Lib.hid g; clear g; obtain ⟨z0, z1, z2, z3, z4, z5⟩ := f7.out.fin.cells)
  | (go_at_call 67; refine (f5.out.callRowS rfl w5.heap.size 2 rfl rfl (by simp) (h6.out _ _)).mono ?_; rintro e w6 ⟨lv6, rfl, g⟩; have f6 := Lib.hid g; clear g))
 refine bodyPost_ret (v := .agg #[.int .i64 33, .string ⟨#[]⟩, .int .i64 (S.at_ s.at_ s6.at_), .int .i64 (S.last s6.at_), .slice (some ⟨w5.heap.size, 0, none⟩) 2 2]) (by simp [results, Tryz.results130, go_sem, z0, z1, z2, z3, z4] <;> rfl) rfl ?_
 rw [hm.out]
 exact f7.out.end_ (kept5 _ _ _ _ _ _ _) 33 s.at_ ⟨#[]⟩
end Go.Proofs.YthggagophcnkfaaGreatDoor.px
namespace Go.Proofs.YthggagophcnkfaaGreatDoor.px
open Go.RowKit Go.Proofs.YthggagophcnkfaaGreatDoor.agg Go.Proofs.YthggagophcnkfaaGreatDoor.sx
set_option linter.unusedSimpArgs false
set_option linter.unusedVariables false
set_option maxRecDepth 100000 in
set_option maxHeartbeats 2000000 in
theorem stmt_for1 {w : World} {P : Nat} {tv lv : Value} {S : Src} {s : Ps} (h : PIn w P tv lv S s) (n : Nat) (hst : StM P tv S (stmt S.A n) n) (hn : S.L.length < s.at_ + (n + 1)) (c1 : Hid (states S.A s = true)) (c2 : Hid ((next S.A s).1 = (ByteArray.mk #[102, 111, 114]))) (c3 : Hid (isB S.A [(ByteArray.mk #[119, 104, 101, 114, 101])] (column S.A (next S.A s).2).2 = true)) :
 Calls Tryz.prog 130 #[.pointer (some ⟨P, 0, none⟩)] w (NEnd w P tv lv S { s with at_ := s.at_ + 1 } (stmt S.A (n + 1) s)) := by
 have f0 := Lib.hid (FIn.start h)
 have hP := lt_of_block h.box
 have hst2 := Lib.hid hst
 clear hst
 have hm0 : stmt S.A (n + 1) s = (node 34 s.at_ (⟨#[]⟩) [(column S.A (next S.A s).2).1, (expression S.A (next S.A (column S.A (next S.A s).2).2).2).1, (block S.A (stmt S.A n) (expression S.A (next S.A (column S.A (next S.A s).2).2).2).2).1] (block S.A (stmt S.A n) (expression S.A (next S.A (column S.A (next S.A s).2).2).2).2).2, (block S.A (stmt S.A n) (expression S.A (next S.A (column S.A (next S.A s).2).2).2).2).2) := by
  rw [stmt]
  simp (decide := true) only [c1.out, c2.out, c3.out, if_true, if_false, Bool.false_eq_true, Bool.true_eq_false, reduceIte, Nat.reduceEqDiff]
 have hm := Lib.hid hm0
 clear hm0
 generalize stmt S.A (n + 1) s = m at *
 have h1 := Lib.hid (fun (W : World) (lvq : Value) (q : PIn W P tv lvq S s) => states_b q c1.out)
 have h2 := Lib.hid (fun (W : World) (lvq : Value) (q : PIn W P tv lvq S s) => next_is q (isB_kind c1.out) (ByteArray.mk #[102, 111, 114]) c2.out)
 have hnx2 : Hid ((next S.A s).2.at_ = s.at_ + 1) := rfl
 generalize (next S.A s).2 = s2 at *
 have h3 := Lib.hid (fun (W : World) (lvq : Value) (q : PIn W P tv lvq S s2) => column_walk q)
 generalize column S.A s2 = k3 at *
 obtain ⟨kk3, s3⟩ := k3
 have h4 := Lib.hid (fun (W : World) (lvq : Value) (q : PIn W P tv lvq S s3) => missing_walk q 1)
 have h5 := Lib.hid (fun (W : World) (lvq : Value) (q : PIn W P tv lvq S s3) => opt_yes q (ByteArray.mk #[119, 104, 101, 114, 101]) c3.out)
 generalize (next S.A s3).2 = s5 at *
 have h6 := Lib.hid (fun (W : World) (lvq : Value) (q : PIn W P tv lvq S s5) => expression_all q)
 generalize expression S.A s5 = k6 at *
 obtain ⟨kk6, s6⟩ := k6
 have h7 := Lib.hid (fun (W : World) (lvq : Value) (q : PIn W P tv lvq S s6) (hmo : s.at_ + 1 ≤ s6.at_) => block_walk q (stmt S.A n) n hst2.out (by have : s.at_ + 1 ≤ s6.at_ := hmo; omega))
 generalize block S.A (stmt S.A n) s6 = k7 at *
 obtain ⟨kk7, s7⟩ := k7
 clear h
 go_enter Tryz.func130, Tryz.ntmps130
 go_wp2_with (first
  | (go_at_call 63; refine ((f7.out.box1 nks7 rfl).callNode (by repeat (first | exact Below.refl _ _ | apply bl_drew | apply bl_alloc)) 34 s.at_ (Nat.le_succ _) ⟨#[]⟩ rfl (by simp) rfl (by simp)).mono ?_; rintro e w8 ⟨rfl, g⟩; have f8 := Lib.hid g; clear g; obtain ⟨z0, z1, z2, z3, z4, z5⟩ := f8.out.fin.cells)
  | (go_at_call 74; refine ((FIn.over (nks' := nks6) f6.out 1).callN (by repeat (first | exact Below.refl _ _ | apply bl_drew | apply bl_alloc)) (fun q => h7.out _ _ q f6.out.mono)).mono ?_; rintro e w7 ⟨lv7, nk7, nt7, na7, ne7, nao7, ncap7, nks7, rfl, g⟩; have f7 := Lib.hid g; clear g; obtain ⟨y00, y01, y02, y03, y04, y05, y06⟩ := f7.out.bx 0 rfl; obtain ⟨y10, y11, y12, y13, y14, y15, y16⟩ := f7.out.bx 1 rfl)
  | (go_at_call 43; refine (f5.out.callN (by repeat (first | exact Below.refl _ _ | apply bl_drew | apply bl_alloc)) (h6.out _ _)).mono ?_; rintro e w6 ⟨lv6, nk6, nt6, na6, ne6, nao6, ncap6, nks6, rfl, g⟩; have f6 := Lib.hid g; clear g; obtain ⟨y10, y11, y12, y13, y14, y15, y16⟩ := f6.out.bx 1 rfl)
  | (go_at_call 123; refine ((f4.out.box1 nks4 rfl).callS (by repeat (first | exact Below.refl _ _ | apply bl_drew | apply bl_alloc)) (h5.out _ _)).mono ?_; rintro e w5 ⟨lv5, rfl, g⟩; have f5 := Lib.hid g; clear g)
  | (go_at_call 122; refine ((f3.out.box1 nks3 rfl).callN (by repeat (first | exact Below.refl _ _ | apply bl_drew | apply bl_alloc)) (h4.out _ _)).mono ?_; rintro e w4 ⟨lv4, nk4, nt4, na4, ne4, nao4, ncap4, nks4, rfl, g⟩; have f4 := Lib.hid g; clear g)
  | (go_at_call 120; refine (f2.out.callN (by repeat (first | exact Below.refl _ _ | apply bl_drew | apply bl_alloc)) (h3.out _ _)).mono ?_; rintro e w3 ⟨lv3, nk3, nt3, na3, ne3, nao3, ncap3, nks3, rfl, g⟩; have f3 := Lib.hid g; clear g)
  | (go_at_call 62; refine (f1.out.callS (by repeat (first | exact Below.refl _ _ | apply bl_drew | apply bl_alloc)) (h2.out _ _)).mono ?_; rintro e w2 ⟨lv2, rfl, g⟩; have f2 := Lib.hid (g.rebase (s1 := { s with at_ := s.at_ + 1 }) (by have := hnx2.out; simp only; omega)); clear g)
  | (go_at_call 154; refine (f0.out.callB (by repeat (first | exact Below.refl _ _ | apply bl_drew | apply bl_alloc)) (h1.out _ _)).mono ?_; rintro e w1 ⟨rfl, g⟩; have f1 := Lib.hid g; clear g; obtain ⟨_, _, cat1, _⟩ := f1.out.pin.cell))
 refine bodyPost_ret (v := .agg #[.int .i64 34, .string ⟨#[]⟩, .int .i64 (S.at_ s.at_ s7.at_), .int .i64 (S.last s7.at_), .slice _ 3 3]) (by simp [results, Tryz.results130, go_sem, z0, z1, z2, z3, z4] <;> rfl) rfl ?_
 rw [hm.out]
 exact f8.out.end_ (kept5 _ _ _ _ _ _ _) 34 s.at_ ⟨#[]⟩
set_option maxRecDepth 100000 in
set_option maxHeartbeats 2000000 in
theorem stmt_for2 {w : World} {P : Nat} {tv lv : Value} {S : Src} {s : Ps} (h : PIn w P tv lv S s) (n : Nat) (hst : StM P tv S (stmt S.A n) n) (hn : S.L.length < s.at_ + (n + 1)) (c1 : Hid (states S.A s = true)) (c2 : Hid ((next S.A s).1 = (ByteArray.mk #[102, 111, 114]))) (c3 : Hid (isB S.A [(ByteArray.mk #[119, 104, 101, 114, 101])] (column S.A (next S.A s).2).2 = false)) :
 Calls Tryz.prog 130 #[.pointer (some ⟨P, 0, none⟩)] w (NEnd w P tv lv S { s with at_ := s.at_ + 1 } (stmt S.A (n + 1) s)) := by
 have f0 := Lib.hid (FIn.start h)
 have hP := lt_of_block h.box
 have hst2 := Lib.hid hst
 clear hst
 have hm0 : stmt S.A (n + 1) s = (node 34 s.at_ (⟨#[]⟩) [(column S.A (next S.A s).2).1, (missing 1 (column S.A (next S.A s).2).2), (block S.A (stmt S.A n) (column S.A (next S.A s).2).2).1] (block S.A (stmt S.A n) (column S.A (next S.A s).2).2).2, (block S.A (stmt S.A n) (column S.A (next S.A s).2).2).2) := by
  rw [stmt]
  simp (decide := true) only [c1.out, c2.out, c3.out, if_true, if_false, Bool.false_eq_true, Bool.true_eq_false, reduceIte, Nat.reduceEqDiff]
 have hm := Lib.hid hm0
 clear hm0
 generalize stmt S.A (n + 1) s = m at *
 have h1 := Lib.hid (fun (W : World) (lvq : Value) (q : PIn W P tv lvq S s) => states_b q c1.out)
 have h2 := Lib.hid (fun (W : World) (lvq : Value) (q : PIn W P tv lvq S s) => next_is q (isB_kind c1.out) (ByteArray.mk #[102, 111, 114]) c2.out)
 have hnx2 : Hid ((next S.A s).2.at_ = s.at_ + 1) := rfl
 generalize (next S.A s).2 = s2 at *
 have h3 := Lib.hid (fun (W : World) (lvq : Value) (q : PIn W P tv lvq S s2) => column_walk q)
 generalize column S.A s2 = k3 at *
 obtain ⟨kk3, s3⟩ := k3
 have h4 := Lib.hid (fun (W : World) (lvq : Value) (q : PIn W P tv lvq S s3) => missing_walk q 1)
 have h5 := Lib.hid (fun (W : World) (lvq : Value) (q : PIn W P tv lvq S s3) => opt_no q (ByteArray.mk #[119, 104, 101, 114, 101]) c3.out)
 have h6 := Lib.hid (fun (W : World) (lvq : Value) (q : PIn W P tv lvq S s3) (hmo : s.at_ + 1 ≤ s3.at_) => block_walk q (stmt S.A n) n hst2.out (by have : s.at_ + 1 ≤ s3.at_ := hmo; omega))
 generalize block S.A (stmt S.A n) s3 = k6 at *
 obtain ⟨kk6, s6⟩ := k6
 clear h
 go_enter Tryz.func130, Tryz.ntmps130
 go_wp2_with (first
  | (go_at_call 63; refine ((f6.out.box1 nks6 rfl).callNode (by repeat (first | exact Below.refl _ _ | apply bl_drew | apply bl_alloc)) 34 s.at_ (Nat.le_succ _) ⟨#[]⟩ rfl (by simp) rfl (by simp)).mono ?_; rintro e w7 ⟨rfl, g⟩; have f7 := Lib.hid g; clear g; obtain ⟨z0, z1, z2, z3, z4, z5⟩ := f7.out.fin.cells)
  | (go_at_call 74; refine (f5.out.callN (by repeat (first | exact Below.refl _ _ | apply bl_drew | apply bl_alloc)) (fun q => h6.out _ _ q f5.out.mono)).mono ?_; rintro e w6 ⟨lv6, nk6, nt6, na6, ne6, nao6, ncap6, nks6, rfl, g⟩; have f6 := Lib.hid g; clear g; obtain ⟨y00, y01, y02, y03, y04, y05, y06⟩ := f6.out.bx 0 rfl; obtain ⟨y10, y11, y12, y13, y14, y15, y16⟩ := f6.out.bx 1 rfl)
  | (go_at_call 123; refine ((f4.out.box1 nks4 rfl).callS (by repeat (first | exact Below.refl _ _ | apply bl_drew | apply bl_alloc)) (h5.out _ _)).mono ?_; rintro e w5 ⟨lv5, rfl, g⟩; have f5 := Lib.hid g; clear g)
  | (go_at_call 122; refine ((f3.out.box1 nks3 rfl).callN (by repeat (first | exact Below.refl _ _ | apply bl_drew | apply bl_alloc)) (h4.out _ _)).mono ?_; rintro e w4 ⟨lv4, nk4, nt4, na4, ne4, nao4, ncap4, nks4, rfl, g⟩; have f4 := Lib.hid g; clear g)
  | (go_at_call 120; refine (f2.out.callN (by repeat (first | exact Below.refl _ _ | apply bl_drew | apply bl_alloc)) (h3.out _ _)).mono ?_; rintro e w3 ⟨lv3, nk3, nt3, na3, ne3, nao3, ncap3, nks3, rfl, g⟩; have f3 := Lib.hid g; clear g)
  | (go_at_call 62; refine (f1.out.callS (by repeat (first | exact Below.refl _ _ | apply bl_drew | apply bl_alloc)) (h2.out _ _)).mono ?_; rintro e w2 ⟨lv2, rfl, g⟩; have f2 := Lib.hid (g.rebase (s1 := { s with at_ := s.at_ + 1 }) (by have := hnx2.out; simp only; omega)); clear g)
  | (go_at_call 154; refine (f0.out.callB (by repeat (first | exact Below.refl _ _ | apply bl_drew | apply bl_alloc)) (h1.out _ _)).mono ?_; rintro e w1 ⟨rfl, g⟩; have f1 := Lib.hid g; clear g; obtain ⟨_, _, cat1, _⟩ := f1.out.pin.cell))
 refine bodyPost_ret (v := .agg #[.int .i64 34, .string ⟨#[]⟩, .int .i64 (S.at_ s.at_ s6.at_), .int .i64 (S.last s6.at_), .slice _ 3 3]) (by simp [results, Tryz.results130, go_sem, z0, z1, z2, z3, z4] <;> rfl) rfl ?_
 rw [hm.out]
 exact f7.out.end_ (kept5 _ _ _ _ _ _ _) 34 s.at_ ⟨#[]⟩
end Go.Proofs.YthggagophcnkfaaGreatDoor.px
