/- The walks of the parser's statement, keyword by keyword (one). -/
import Derived.Test.YthggagophcnkfaaGreatDoorM8
namespace Go.Proofs.YthggagophcnkfaaGreatDoor.px
open Go.RowKit Go.Proofs.YthggagophcnkfaaGreatDoor.agg Go.Proofs.YthggagophcnkfaaGreatDoor.sx
set_option linter.unusedSimpArgs false
set_option linter.unusedVariables false

set_option maxRecDepth 100000 in
set_option maxHeartbeats 2000000 in
theorem stmt_require {w : World} {P : Nat} {tv lv : Value} {S : Src} {s : Ps} (h : PIn w P tv lv S s) (n : Nat) (hst : StM P tv S (stmt S.A n) n) (hn : S.L.length < s.at_ + (n + 1)) (c1 : Hid (states S.A s = true)) (c2 : Hid ((next S.A s).1 = (ByteArray.mk #[114, 101, 113, 117, 105, 114, 101]))) :
    Calls Tryz.prog 130 #[.pointer (some ⟨P, 0, none⟩)] w (NEnd w P tv lv S { s with at_ := s.at_ + 1 } (stmt S.A (n + 1) s)) := by
  have f0 := Lib.hid (FIn.start h)
  have hP := lt_of_block h.box
  have hst2 := Lib.hid hst
  clear hst
  have hm0 : stmt S.A (n + 1) s = (node 26 s.at_ (⟨#[]⟩) [(expression S.A (next S.A s).2).1] (demand S.A (ByteArray.mk #[59]) (expression S.A (next S.A s).2).2).2, (demand S.A (ByteArray.mk #[59]) (expression S.A (next S.A s).2).2).2) := by
    rw [stmt]
    simp (decide := true) only [c1.out, c2.out, if_true, if_false, Bool.false_eq_true, Bool.true_eq_false, reduceIte, Nat.reduceEqDiff]
  have hm := Lib.hid hm0
  clear hm0
  generalize stmt S.A (n + 1) s = m at *
  have h1 := Lib.hid (fun (W : World) (lvq : Value) (q : PIn W P tv lvq S s) => states_b q c1.out)
  have h2 := Lib.hid (fun (W : World) (lvq : Value) (q : PIn W P tv lvq S s) => next_is q (isB_kind c1.out) (ByteArray.mk #[114, 101, 113, 117, 105, 114, 101]) c2.out)
  have hnx2 : Hid ((next S.A s).2.at_ = s.at_ + 1) := rfl
  generalize (next S.A s).2 = s2 at *
  have h3 := Lib.hid (fun (W : World) (lvq : Value) (q : PIn W P tv lvq S s2) => expression_all q)
  generalize expression S.A s2 = k3 at *
  obtain ⟨kk3, s3⟩ := k3
  have h4 := Lib.hid (fun (W : World) (lvq : Value) (q : PIn W P tv lvq S s3) => demand_walk q (ByteArray.mk #[59]) (by decide))
  generalize (demand S.A (ByteArray.mk #[59]) s3).1 = x4 at *
  generalize (demand S.A (ByteArray.mk #[59]) s3).2 = s4 at *
  clear h
  go_enter Tryz.func130, Tryz.ntmps130
  go_wp2_with (first
    | (go_at_call 63; refine (f4.out.callNode (by repeat (first | exact Below.refl _ _ | apply bl_drew | apply bl_alloc)) 26 s.at_ (Nat.le_succ _) ⟨#[]⟩).mono ?_; rintro e w5 ⟨rfl, g⟩; have f5 := Lib.hid g; clear g; obtain ⟨z0, z1, z2, z3, z4, z5⟩ := f5.out.fin.cells)
    | (go_at_call 67; refine (f3.out.callRowS rfl w3.heap.size 1 rfl rfl (by simp) (h4.out _ _)).mono ?_; rintro e w4 ⟨lv4, rfl, g⟩; have f4 := Lib.hid g; clear g)
    | (go_at_call 43; refine (f2.out.callN (by repeat (first | exact Below.refl _ _ | apply bl_drew | apply bl_alloc)) (h3.out _ _)).mono ?_; rintro e w3 ⟨lv3, nk3, nt3, na3, ne3, nao3, ncap3, nks3, rfl, g⟩; have f3 := Lib.hid g; clear g)
    | (go_at_call 62; refine (f1.out.callS (by repeat (first | exact Below.refl _ _ | apply bl_drew | apply bl_alloc)) (h2.out _ _)).mono ?_; rintro e w2 ⟨lv2, rfl, g⟩; have f2 := Lib.hid (g.rebase (s1 := { s with at_ := s.at_ + 1 }) (by have := hnx2.out; simp only; omega)); clear g)
    | (go_at_call 154; refine (f0.out.callB (by repeat (first | exact Below.refl _ _ | apply bl_drew | apply bl_alloc)) (h1.out _ _)).mono ?_; rintro e w1 ⟨rfl, g⟩; have f1 := Lib.hid g; clear g; obtain ⟨_, _, cat1, _⟩ := f1.out.pin.cell))
  refine bodyPost_ret (v := .agg #[.int .i64 26, .string ⟨#[]⟩, .int .i64 (S.at_ s.at_ s4.at_), .int .i64 (S.last s4.at_), .slice (some ⟨w3.heap.size, 0, none⟩) 1 1]) (by simp [results, Tryz.results130, go_sem, z0, z1, z2, z3, z4] <;> rfl) rfl ?_
  rw [hm.out]
  exact f5.out.end_ (kept5 _ _ _ _ _ _ _) 26 s.at_ ⟨#[]⟩
set_option maxRecDepth 100000 in
set_option maxHeartbeats 2000000 in
theorem stmt_insert {w : World} {P : Nat} {tv lv : Value} {S : Src} {s : Ps} (h : PIn w P tv lv S s) (n : Nat) (hst : StM P tv S (stmt S.A n) n) (hn : S.L.length < s.at_ + (n + 1)) (c1 : Hid (states S.A s = true)) (c2 : Hid ((next S.A s).1 = (ByteArray.mk #[105, 110, 115, 101, 114, 116]))) :
    Calls Tryz.prog 130 #[.pointer (some ⟨P, 0, none⟩)] w (NEnd w P tv lv S { s with at_ := s.at_ + 1 } (stmt S.A (n + 1) s)) := by
  have f0 := Lib.hid (FIn.start h)
  have hP := lt_of_block h.box
  have hst2 := Lib.hid hst
  clear hst
  have hm0 : stmt S.A (n + 1) s = (node 28 s.at_ (⟨#[]⟩) [(cell S.A (next S.A s).2).1] (demand S.A (ByteArray.mk #[59]) (cell S.A (next S.A s).2).2).2, (demand S.A (ByteArray.mk #[59]) (cell S.A (next S.A s).2).2).2) := by
    rw [stmt]
    simp (decide := true) only [c1.out, c2.out, if_true, if_false, Bool.false_eq_true, Bool.true_eq_false, reduceIte, Nat.reduceEqDiff]
  have hm := Lib.hid hm0
  clear hm0
  generalize stmt S.A (n + 1) s = m at *
  have h1 := Lib.hid (fun (W : World) (lvq : Value) (q : PIn W P tv lvq S s) => states_b q c1.out)
  have h2 := Lib.hid (fun (W : World) (lvq : Value) (q : PIn W P tv lvq S s) => next_is q (isB_kind c1.out) (ByteArray.mk #[105, 110, 115, 101, 114, 116]) c2.out)
  have hnx2 : Hid ((next S.A s).2.at_ = s.at_ + 1) := rfl
  generalize (next S.A s).2 = s2 at *
  have h3 := Lib.hid (fun (W : World) (lvq : Value) (q : PIn W P tv lvq S s2) => cell_walk q)
  generalize cell S.A s2 = k3 at *
  obtain ⟨kk3, s3⟩ := k3
  have h4 := Lib.hid (fun (W : World) (lvq : Value) (q : PIn W P tv lvq S s3) => demand_walk q (ByteArray.mk #[59]) (by decide))
  generalize (demand S.A (ByteArray.mk #[59]) s3).1 = x4 at *
  generalize (demand S.A (ByteArray.mk #[59]) s3).2 = s4 at *
  clear h
  go_enter Tryz.func130, Tryz.ntmps130
  go_wp2_with (first
    | (go_at_call 63; refine (f4.out.callNode (by repeat (first | exact Below.refl _ _ | apply bl_drew | apply bl_alloc)) 28 s.at_ (Nat.le_succ _) ⟨#[]⟩).mono ?_; rintro e w5 ⟨rfl, g⟩; have f5 := Lib.hid g; clear g; obtain ⟨z0, z1, z2, z3, z4, z5⟩ := f5.out.fin.cells)
    | (go_at_call 67; refine (f3.out.callRowS rfl w3.heap.size 1 rfl rfl (by simp) (h4.out _ _)).mono ?_; rintro e w4 ⟨lv4, rfl, g⟩; have f4 := Lib.hid g; clear g)
    | (go_at_call 156; refine (f2.out.callN (by repeat (first | exact Below.refl _ _ | apply bl_drew | apply bl_alloc)) (h3.out _ _)).mono ?_; rintro e w3 ⟨lv3, nk3, nt3, na3, ne3, nao3, ncap3, nks3, rfl, g⟩; have f3 := Lib.hid g; clear g)
    | (go_at_call 62; refine (f1.out.callS (by repeat (first | exact Below.refl _ _ | apply bl_drew | apply bl_alloc)) (h2.out _ _)).mono ?_; rintro e w2 ⟨lv2, rfl, g⟩; have f2 := Lib.hid (g.rebase (s1 := { s with at_ := s.at_ + 1 }) (by have := hnx2.out; simp only; omega)); clear g)
    | (go_at_call 154; refine (f0.out.callB (by repeat (first | exact Below.refl _ _ | apply bl_drew | apply bl_alloc)) (h1.out _ _)).mono ?_; rintro e w1 ⟨rfl, g⟩; have f1 := Lib.hid g; clear g; obtain ⟨_, _, cat1, _⟩ := f1.out.pin.cell))
  refine bodyPost_ret (v := .agg #[.int .i64 28, .string ⟨#[]⟩, .int .i64 (S.at_ s.at_ s4.at_), .int .i64 (S.last s4.at_), .slice (some ⟨w3.heap.size, 0, none⟩) 1 1]) (by simp [results, Tryz.results130, go_sem, z0, z1, z2, z3, z4] <;> rfl) rfl ?_
  rw [hm.out]
  exact f5.out.end_ (kept5 _ _ _ _ _ _ _) 28 s.at_ ⟨#[]⟩
set_option maxRecDepth 100000 in
set_option maxHeartbeats 2000000 in
theorem stmt_delete {w : World} {P : Nat} {tv lv : Value} {S : Src} {s : Ps} (h : PIn w P tv lv S s) (n : Nat) (hst : StM P tv S (stmt S.A n) n) (hn : S.L.length < s.at_ + (n + 1)) (c1 : Hid (states S.A s = true)) (c2 : Hid ((next S.A s).1 = (ByteArray.mk #[100, 101, 108, 101, 116, 101]))) :
    Calls Tryz.prog 130 #[.pointer (some ⟨P, 0, none⟩)] w (NEnd w P tv lv S { s with at_ := s.at_ + 1 } (stmt S.A (n + 1) s)) := by
  have f0 := Lib.hid (FIn.start h)
  have hP := lt_of_block h.box
  have hst2 := Lib.hid hst
  clear hst
  have hm0 : stmt S.A (n + 1) s = (node 29 s.at_ (⟨#[]⟩) [(cell S.A (next S.A s).2).1] (demand S.A (ByteArray.mk #[59]) (cell S.A (next S.A s).2).2).2, (demand S.A (ByteArray.mk #[59]) (cell S.A (next S.A s).2).2).2) := by
    rw [stmt]
    simp (decide := true) only [c1.out, c2.out, if_true, if_false, Bool.false_eq_true, Bool.true_eq_false, reduceIte, Nat.reduceEqDiff]
  have hm := Lib.hid hm0
  clear hm0
  generalize stmt S.A (n + 1) s = m at *
  have h1 := Lib.hid (fun (W : World) (lvq : Value) (q : PIn W P tv lvq S s) => states_b q c1.out)
  have h2 := Lib.hid (fun (W : World) (lvq : Value) (q : PIn W P tv lvq S s) => next_is q (isB_kind c1.out) (ByteArray.mk #[100, 101, 108, 101, 116, 101]) c2.out)
  have hnx2 : Hid ((next S.A s).2.at_ = s.at_ + 1) := rfl
  generalize (next S.A s).2 = s2 at *
  have h3 := Lib.hid (fun (W : World) (lvq : Value) (q : PIn W P tv lvq S s2) => cell_walk q)
  generalize cell S.A s2 = k3 at *
  obtain ⟨kk3, s3⟩ := k3
  have h4 := Lib.hid (fun (W : World) (lvq : Value) (q : PIn W P tv lvq S s3) => demand_walk q (ByteArray.mk #[59]) (by decide))
  generalize (demand S.A (ByteArray.mk #[59]) s3).1 = x4 at *
  generalize (demand S.A (ByteArray.mk #[59]) s3).2 = s4 at *
  clear h
  go_enter Tryz.func130, Tryz.ntmps130
  go_wp2_with (first
    | (go_at_call 63; refine (f4.out.callNode (by repeat (first | exact Below.refl _ _ | apply bl_drew | apply bl_alloc)) 29 s.at_ (Nat.le_succ _) ⟨#[]⟩).mono ?_; rintro e w5 ⟨rfl, g⟩; have f5 := Lib.hid g; clear g; obtain ⟨z0, z1, z2, z3, z4, z5⟩ := f5.out.fin.cells)
    | (go_at_call 67; refine (f3.out.callRowS rfl w3.heap.size 1 rfl rfl (by simp) (h4.out _ _)).mono ?_; rintro e w4 ⟨lv4, rfl, g⟩; have f4 := Lib.hid g; clear g)
    | (go_at_call 156; refine (f2.out.callN (by repeat (first | exact Below.refl _ _ | apply bl_drew | apply bl_alloc)) (h3.out _ _)).mono ?_; rintro e w3 ⟨lv3, nk3, nt3, na3, ne3, nao3, ncap3, nks3, rfl, g⟩; have f3 := Lib.hid g; clear g)
    | (go_at_call 62; refine (f1.out.callS (by repeat (first | exact Below.refl _ _ | apply bl_drew | apply bl_alloc)) (h2.out _ _)).mono ?_; rintro e w2 ⟨lv2, rfl, g⟩; have f2 := Lib.hid (g.rebase (s1 := { s with at_ := s.at_ + 1 }) (by have := hnx2.out; simp only; omega)); clear g)
    | (go_at_call 154; refine (f0.out.callB (by repeat (first | exact Below.refl _ _ | apply bl_drew | apply bl_alloc)) (h1.out _ _)).mono ?_; rintro e w1 ⟨rfl, g⟩; have f1 := Lib.hid g; clear g; obtain ⟨_, _, cat1, _⟩ := f1.out.pin.cell))
  refine bodyPost_ret (v := .agg #[.int .i64 29, .string ⟨#[]⟩, .int .i64 (S.at_ s.at_ s4.at_), .int .i64 (S.last s4.at_), .slice (some ⟨w3.heap.size, 0, none⟩) 1 1]) (by simp [results, Tryz.results130, go_sem, z0, z1, z2, z3, z4] <;> rfl) rfl ?_
  rw [hm.out]
  exact f5.out.end_ (kept5 _ _ _ _ _ _ _) 29 s.at_ ⟨#[]⟩
set_option maxRecDepth 100000 in
set_option maxHeartbeats 2000000 in
theorem stmt_put {w : World} {P : Nat} {tv lv : Value} {S : Src} {s : Ps} (h : PIn w P tv lv S s) (n : Nat) (hst : StM P tv S (stmt S.A n) n) (hn : S.L.length < s.at_ + (n + 1)) (c1 : Hid (states S.A s = true)) (c2 : Hid ((next S.A s).1 = (ByteArray.mk #[112, 117, 116]))) :
    Calls Tryz.prog 130 #[.pointer (some ⟨P, 0, none⟩)] w (NEnd w P tv lv S { s with at_ := s.at_ + 1 } (stmt S.A (n + 1) s)) := by
  have f0 := Lib.hid (FIn.start h)
  have hP := lt_of_block h.box
  have hst2 := Lib.hid hst
  clear hst
  have hm0 : stmt S.A (n + 1) s = (node 31 s.at_ (⟨#[]⟩) [(cell S.A (next S.A s).2).1] (demand S.A (ByteArray.mk #[59]) (cell S.A (next S.A s).2).2).2, (demand S.A (ByteArray.mk #[59]) (cell S.A (next S.A s).2).2).2) := by
    rw [stmt]
    simp (decide := true) only [c1.out, c2.out, if_true, if_false, Bool.false_eq_true, Bool.true_eq_false, reduceIte, Nat.reduceEqDiff]
  have hm := Lib.hid hm0
  clear hm0
  generalize stmt S.A (n + 1) s = m at *
  have h1 := Lib.hid (fun (W : World) (lvq : Value) (q : PIn W P tv lvq S s) => states_b q c1.out)
  have h2 := Lib.hid (fun (W : World) (lvq : Value) (q : PIn W P tv lvq S s) => next_is q (isB_kind c1.out) (ByteArray.mk #[112, 117, 116]) c2.out)
  have hnx2 : Hid ((next S.A s).2.at_ = s.at_ + 1) := rfl
  generalize (next S.A s).2 = s2 at *
  have h3 := Lib.hid (fun (W : World) (lvq : Value) (q : PIn W P tv lvq S s2) => cell_walk q)
  generalize cell S.A s2 = k3 at *
  obtain ⟨kk3, s3⟩ := k3
  have h4 := Lib.hid (fun (W : World) (lvq : Value) (q : PIn W P tv lvq S s3) => demand_walk q (ByteArray.mk #[59]) (by decide))
  generalize (demand S.A (ByteArray.mk #[59]) s3).1 = x4 at *
  generalize (demand S.A (ByteArray.mk #[59]) s3).2 = s4 at *
  clear h
  go_enter Tryz.func130, Tryz.ntmps130
  go_wp2_with (first
    | (go_at_call 63; refine (f4.out.callNode (by repeat (first | exact Below.refl _ _ | apply bl_drew | apply bl_alloc)) 31 s.at_ (Nat.le_succ _) ⟨#[]⟩).mono ?_; rintro e w5 ⟨rfl, g⟩; have f5 := Lib.hid g; clear g; obtain ⟨z0, z1, z2, z3, z4, z5⟩ := f5.out.fin.cells)
    | (go_at_call 67; refine (f3.out.callRowS rfl w3.heap.size 1 rfl rfl (by simp) (h4.out _ _)).mono ?_; rintro e w4 ⟨lv4, rfl, g⟩; have f4 := Lib.hid g; clear g)
    | (go_at_call 156; refine (f2.out.callN (by repeat (first | exact Below.refl _ _ | apply bl_drew | apply bl_alloc)) (h3.out _ _)).mono ?_; rintro e w3 ⟨lv3, nk3, nt3, na3, ne3, nao3, ncap3, nks3, rfl, g⟩; have f3 := Lib.hid g; clear g)
    | (go_at_call 62; refine (f1.out.callS (by repeat (first | exact Below.refl _ _ | apply bl_drew | apply bl_alloc)) (h2.out _ _)).mono ?_; rintro e w2 ⟨lv2, rfl, g⟩; have f2 := Lib.hid (g.rebase (s1 := { s with at_ := s.at_ + 1 }) (by have := hnx2.out; simp only; omega)); clear g)
    | (go_at_call 154; refine (f0.out.callB (by repeat (first | exact Below.refl _ _ | apply bl_drew | apply bl_alloc)) (h1.out _ _)).mono ?_; rintro e w1 ⟨rfl, g⟩; have f1 := Lib.hid g; clear g; obtain ⟨_, _, cat1, _⟩ := f1.out.pin.cell))
  refine bodyPost_ret (v := .agg #[.int .i64 31, .string ⟨#[]⟩, .int .i64 (S.at_ s.at_ s4.at_), .int .i64 (S.last s4.at_), .slice (some ⟨w3.heap.size, 0, none⟩) 1 1]) (by simp [results, Tryz.results130, go_sem, z0, z1, z2, z3, z4] <;> rfl) rfl ?_
  rw [hm.out]
  exact f5.out.end_ (kept5 _ _ _ _ _ _ _) 31 s.at_ ⟨#[]⟩
set_option maxRecDepth 100000 in
set_option maxHeartbeats 2000000 in
theorem stmt_drop {w : World} {P : Nat} {tv lv : Value} {S : Src} {s : Ps} (h : PIn w P tv lv S s) (n : Nat) (hst : StM P tv S (stmt S.A n) n) (hn : S.L.length < s.at_ + (n + 1)) (c1 : Hid (states S.A s = true)) (c2 : Hid ((next S.A s).1 = (ByteArray.mk #[100, 114, 111, 112]))) :
    Calls Tryz.prog 130 #[.pointer (some ⟨P, 0, none⟩)] w (NEnd w P tv lv S { s with at_ := s.at_ + 1 } (stmt S.A (n + 1) s)) := by
  have f0 := Lib.hid (FIn.start h)
  have hP := lt_of_block h.box
  have hst2 := Lib.hid hst
  clear hst
  have hm0 : stmt S.A (n + 1) s = (node 32 s.at_ (⟨#[]⟩) [(cell S.A (next S.A s).2).1] (demand S.A (ByteArray.mk #[59]) (cell S.A (next S.A s).2).2).2, (demand S.A (ByteArray.mk #[59]) (cell S.A (next S.A s).2).2).2) := by
    rw [stmt]
    simp (decide := true) only [c1.out, c2.out, if_true, if_false, Bool.false_eq_true, Bool.true_eq_false, reduceIte, Nat.reduceEqDiff]
  have hm := Lib.hid hm0
  clear hm0
  generalize stmt S.A (n + 1) s = m at *
  have h1 := Lib.hid (fun (W : World) (lvq : Value) (q : PIn W P tv lvq S s) => states_b q c1.out)
  have h2 := Lib.hid (fun (W : World) (lvq : Value) (q : PIn W P tv lvq S s) => next_is q (isB_kind c1.out) (ByteArray.mk #[100, 114, 111, 112]) c2.out)
  have hnx2 : Hid ((next S.A s).2.at_ = s.at_ + 1) := rfl
  generalize (next S.A s).2 = s2 at *
  have h3 := Lib.hid (fun (W : World) (lvq : Value) (q : PIn W P tv lvq S s2) => cell_walk q)
  generalize cell S.A s2 = k3 at *
  obtain ⟨kk3, s3⟩ := k3
  have h4 := Lib.hid (fun (W : World) (lvq : Value) (q : PIn W P tv lvq S s3) => demand_walk q (ByteArray.mk #[59]) (by decide))
  generalize (demand S.A (ByteArray.mk #[59]) s3).1 = x4 at *
  generalize (demand S.A (ByteArray.mk #[59]) s3).2 = s4 at *
  clear h
  go_enter Tryz.func130, Tryz.ntmps130
  go_wp2_with (first
    | (go_at_call 63; refine (f4.out.callNode (by repeat (first | exact Below.refl _ _ | apply bl_drew | apply bl_alloc)) 32 s.at_ (Nat.le_succ _) ⟨#[]⟩).mono ?_; rintro e w5 ⟨rfl, g⟩; have f5 := Lib.hid g; clear g; obtain ⟨z0, z1, z2, z3, z4, z5⟩ := f5.out.fin.cells)
    | (go_at_call 67; refine (f3.out.callRowS rfl w3.heap.size 1 rfl rfl (by simp) (h4.out _ _)).mono ?_; rintro e w4 ⟨lv4, rfl, g⟩; have f4 := Lib.hid g; clear g)
    | (go_at_call 156; refine (f2.out.callN (by repeat (first | exact Below.refl _ _ | apply bl_drew | apply bl_alloc)) (h3.out _ _)).mono ?_; rintro e w3 ⟨lv3, nk3, nt3, na3, ne3, nao3, ncap3, nks3, rfl, g⟩; have f3 := Lib.hid g; clear g)
    | (go_at_call 62; refine (f1.out.callS (by repeat (first | exact Below.refl _ _ | apply bl_drew | apply bl_alloc)) (h2.out _ _)).mono ?_; rintro e w2 ⟨lv2, rfl, g⟩; have f2 := Lib.hid (g.rebase (s1 := { s with at_ := s.at_ + 1 }) (by have := hnx2.out; simp only; omega)); clear g)
    | (go_at_call 154; refine (f0.out.callB (by repeat (first | exact Below.refl _ _ | apply bl_drew | apply bl_alloc)) (h1.out _ _)).mono ?_; rintro e w1 ⟨rfl, g⟩; have f1 := Lib.hid g; clear g; obtain ⟨_, _, cat1, _⟩ := f1.out.pin.cell))
  refine bodyPost_ret (v := .agg #[.int .i64 32, .string ⟨#[]⟩, .int .i64 (S.at_ s.at_ s4.at_), .int .i64 (S.last s4.at_), .slice (some ⟨w3.heap.size, 0, none⟩) 1 1]) (by simp [results, Tryz.results130, go_sem, z0, z1, z2, z3, z4] <;> rfl) rfl ?_
  rw [hm.out]
  exact f5.out.end_ (kept5 _ _ _ _ _ _ _) 32 s.at_ ⟨#[]⟩
end Go.Proofs.YthggagophcnkfaaGreatDoor.px
