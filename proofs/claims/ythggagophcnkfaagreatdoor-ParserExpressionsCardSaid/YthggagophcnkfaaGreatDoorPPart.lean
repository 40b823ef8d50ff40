/- The walks of the parser's part and parameter. -/
import Derived.Test.YthggagophcnkfaaGreatDoorM43
namespace Go.Proofs.YthggagophcnkfaaGreatDoor.px
open Go.RowKit Go.Proofs.YthggagophcnkfaaGreatDoor.agg Go.Proofs.YthggagophcnkfaaGreatDoor.sx
set_option linter.unusedSimpArgs false
set_option linter.unusedVariables false
theorem enters_pnames : ∀ args w, (callFunc 125 args).run Tryz.prog w = .ok (.enter 125 args) w := fun _ _ => by kernel_rfl
theorem fn_names (P : Nat) (tv : Value) (S : Src) : FnM P tv S 125 (names S.A) (S.L.length + 1) := ⟨enters_pnames, fun _ _ _ q _ => names_walk q⟩
theorem enters_pinteger : ∀ args w, (callFunc 121 args).run Tryz.prog w = .ok (.enter 121 args) w := fun _ _ => by kernel_rfl
theorem fn_integer (P : Nat) (tv : Value) (S : Src) : FnM P tv S 121 (integer S.A) (S.L.length + 1) := ⟨enters_pinteger, fun _ _ _ q _ => integer_walk q⟩
set_option maxRecDepth 100000 in
set_option maxHeartbeats 2000000 in
theorem part_walk_1 {w : World} {P : Nat} {tv lv : Value} {S : Src} {s : Ps} (h : PIn w P tv lv S s) (c1 : Hid (isB S.A [(ByteArray.mk #[107, 101, 121])] s = true)) :
 Calls Tryz.prog 70 #[.pointer (some ⟨P, 0, none⟩)] w (NEnd w P tv lv S s (part S.A s)) := by
 have f0 := Lib.hid (FIn.start h)
 have cat := h.cell.2.2.1
 have hP := lt_of_block h.box
 have hm0 : part S.A s = ((node1 13 s.at_ (name S.A (next S.A s).2).1 (names S.A) (name S.A (next S.A s).2).2).1, (node1 13 s.at_ (name S.A (next S.A s).2).1 (names S.A) (name S.A (next S.A s).2).2).2) := by
  unfold part
  simp only [node1, c1.out, if_true, if_false, Bool.false_eq_true, Bool.true_eq_false, reduceIte, Nat.reduceEqDiff]
 have hm := Lib.hid hm0
 clear hm0
 generalize part S.A s = m at *
 have h1 := Lib.hid (fun (W : World) (lvq : Value) (q : PIn W P tv lvq S s) => opt_yes q (ByteArray.mk #[107, 101, 121]) c1.out)
 generalize (next S.A s).2 = s1 at *
 have h2 := Lib.hid (fun (W : World) (lvq : Value) (q : PIn W P tv lvq S s1) => name_walk q)
 generalize (name S.A s1).1 = x2 at *
 generalize (name S.A s1).2 = s2 at *
 have h3 := Lib.hid (fun (W : World) (lvq : Value) (q : PIn W P tv lvq S s2) (hmo : s.at_ ≤ s2.at_) => node1_walk q 13 s.at_ hmo x2 125 _ (S.L.length + 1) (fn_names P tv S) (by omega))
 generalize node1 13 s.at_ x2 (names S.A) s2 = k3 at *
 obtain ⟨kk3, s3⟩ := k3
 clear h
 go_enter Tryz.func70, Tryz.ntmps70
 go_wp2_with (first
  | (go_at_call 124; refine (f2.out.callN (by repeat (first | exact Below.refl _ _ | apply bl_drew | apply bl_alloc)) (fun q => h3.out _ _ q f2.out.mono)).mono ?_; rintro e w3 ⟨lv3, nk3, nt3, na3, ne3, nao3, ncap3, nks3, rfl, g⟩; have f3 := Lib.hid g; clear g; obtain ⟨z0, z1, z2, z3, z4, z5⟩ := f3.out.cells)
  | (go_at_call 64; refine (f1.out.callS (by repeat (first | exact Below.refl _ _ | apply bl_drew | apply bl_alloc)) (h2.out _ _)).mono ?_; rintro e w2 ⟨lv2, rfl, g⟩; have f2 := Lib.hid g; clear g)
  | (go_at_call 123; refine (f0.out.callS (by repeat (first | exact Below.refl _ _ | apply bl_drew | apply bl_alloc)) (h1.out _ _)).mono ?_; rintro e w1 ⟨lv1, rfl, g⟩; have f1 := Lib.hid g; clear g))
 refine bodyPost_ret (v := .agg #[.int .i64 nk3, .string nt3, .int .i64 na3, .int .i64 ne3, .slice nao3 nks3.length ncap3]) (by simp [results, Tryz.results70, go_sem, z0, z1, z2, z3, z4] <;> rfl) rfl ?_
 rw [hm.out]
 exact f3.out.pass (kept5 _ _ _ _ _ _ _)
set_option maxRecDepth 100000 in
set_option maxHeartbeats 2000000 in
theorem part_walk_2 {w : World} {P : Nat} {tv lv : Value} {S : Src} {s : Ps} (h : PIn w P tv lv S s) (c1 : Hid (isB S.A [(ByteArray.mk #[107, 101, 121])] s = false)) (c2 : Hid (isB S.A [(ByteArray.mk #[114, 101, 102, 101, 114, 101, 110, 99, 101])] s = true)) :
 Calls Tryz.prog 70 #[.pointer (some ⟨P, 0, none⟩)] w (NEnd w P tv lv S s (part S.A s)) := by
 have f0 := Lib.hid (FIn.start h)
 have cat := h.cell.2.2.1
 have hP := lt_of_block h.box
 have hm0 : part S.A s = (node 14 s.at_ ((name S.A (next S.A s).2).1) [(named S.A (demand S.A (ByteArray.mk #[40]) (name S.A (next S.A s).2).2).2).1, (named S.A (demand S.A (ByteArray.mk #[116, 111]) (demand S.A (ByteArray.mk #[41]) (named S.A (demand S.A (ByteArray.mk #[40]) (name S.A (next S.A s).2).2).2).2).2).2).1, (maybe S.A (ByteArray.mk #[104, 105, 100, 101]) (named S.A (demand S.A (ByteArray.mk #[116, 111]) (demand S.A (ByteArray.mk #[41]) (named S.A (demand S.A (ByteArray.mk #[40]) (name S.A (next S.A s).2).2).2).2).2).2).2).1] (maybe S.A (ByteArray.mk #[104, 105, 100, 101]) (named S.A (demand S.A (ByteArray.mk #[116, 111]) (demand S.A (ByteArray.mk #[41]) (named S.A (demand S.A (ByteArray.mk #[40]) (name S.A (next S.A s).2).2).2).2).2).2).2).2, (maybe S.A (ByteArray.mk #[104, 105, 100, 101]) (named S.A (demand S.A (ByteArray.mk #[116, 111]) (demand S.A (ByteArray.mk #[41]) (named S.A (demand S.A (ByteArray.mk #[40]) (name S.A (next S.A s).2).2).2).2).2).2).2).2) := by
  unfold part
  simp only [node1, c1.out, c2.out, if_true, if_false, Bool.false_eq_true, Bool.true_eq_false, reduceIte, Nat.reduceEqDiff]
 have hm := Lib.hid hm0
 clear hm0
 generalize part S.A s = m at *
 have h1 := Lib.hid (fun (W : World) (lvq : Value) (q : PIn W P tv lvq S s) => opt_no q (ByteArray.mk #[107, 101, 121]) c1.out)
 have h2 := Lib.hid (fun (W : World) (lvq : Value) (q : PIn W P tv lvq S s) => opt_yes q (ByteArray.mk #[114, 101, 102, 101, 114, 101, 110, 99, 101]) c2.out)
 generalize (next S.A s).2 = s2 at *
 have h3 := Lib.hid (fun (W : World) (lvq : Value) (q : PIn W P tv lvq S s2) => name_walk q)
 generalize (name S.A s2).1 = x3 at *
 generalize (name S.A s2).2 = s3 at *
 have h4 := Lib.hid (fun (W : World) (lvq : Value) (q : PIn W P tv lvq S s3) => demand_walk q (ByteArray.mk #[40]) (by decide))
 generalize (demand S.A (ByteArray.mk #[40]) s3).1 = x4 at *
 generalize (demand S.A (ByteArray.mk #[40]) s3).2 = s4 at *
 have h5 := Lib.hid (fun (W : World) (lvq : Value) (q : PIn W P tv lvq S s4) => named_walk q)
 generalize named S.A s4 = k5 at *
 obtain ⟨kk5, s5⟩ := k5
 have h6 := Lib.hid (fun (W : World) (lvq : Value) (q : PIn W P tv lvq S s5) => demand_walk q (ByteArray.mk #[41]) (by decide))
 generalize (demand S.A (ByteArray.mk #[41]) s5).1 = x6 at *
 generalize (demand S.A (ByteArray.mk #[41]) s5).2 = s6 at *
 have h7 := Lib.hid (fun (W : World) (lvq : Value) (q : PIn W P tv lvq S s6) => demand_walk q (ByteArray.mk #[116, 111]) (by decide))
 generalize (demand S.A (ByteArray.mk #[116, 111]) s6).1 = x7 at *
 generalize (demand S.A (ByteArray.mk #[116, 111]) s6).2 = s7 at *
 have h8 := Lib.hid (fun (W : World) (lvq : Value) (q : PIn W P tv lvq S s7) => named_walk q)
 generalize named S.A s7 = k8 at *
 obtain ⟨kk8, s8⟩ := k8
 have h9 := Lib.hid (fun (W : World) (lvq : Value) (q : PIn W P tv lvq S s8) => maybe_walk q (ByteArray.mk #[104, 105, 100, 101]) (by decide))
 generalize maybe S.A (ByteArray.mk #[104, 105, 100, 101]) s8 = k9 at *
 obtain ⟨kk9, s9⟩ := k9
 clear h
 go_enter Tryz.func70, Tryz.ntmps70
 go_wp2_with (first
  | (go_at_call 63; refine ((f9.out.box1 nks9 rfl).callNode (by repeat (first | exact Below.refl _ _ | apply bl_drew | apply bl_alloc)) 14 s.at_ (Nat.le_refl _) x3 rfl (by simp) rfl (by simp)).mono ?_; rintro e w10 ⟨rfl, g⟩; have f10 := Lib.hid g; clear g; obtain ⟨z0, z1, z2, z3, z4, z5⟩ := f10.out.fin.cells)
  | (go_at_call 73; refine ((f8.out.box1 nks8 rfl).callN (by repeat (first | exact Below.refl _ _ | apply bl_drew | apply bl_alloc)) (h9.out _ _)).mono ?_; rintro e w9 ⟨lv9, nk9, nt9, na9, ne9, nao9, ncap9, nks9, rfl, g⟩; have f9 := Lib.hid g; clear g; obtain ⟨y00, y01, y02, y03, y04, y05, y06⟩ := f9.out.bx 0 rfl; obtain ⟨y10, y11, y12, y13, y14, y15, y16⟩ := f9.out.bx 1 rfl)
  | (go_at_call 126; refine (f7.out.callN (by repeat (first | exact Below.refl _ _ | apply bl_drew | apply bl_alloc)) (h8.out _ _)).mono ?_; rintro e w8 ⟨lv8, nk8, nt8, na8, ne8, nao8, ncap8, nks8, rfl, g⟩; have f8 := Lib.hid g; clear g)
  | (go_at_call 67; refine (f6.out.callS (by repeat (first | exact Below.refl _ _ | apply bl_drew | apply bl_alloc)) (h7.out _ _)).mono ?_; rintro e w7 ⟨lv7, rfl, g⟩; have f7 := Lib.hid g; clear g)
  | (go_at_call 67; refine ((f5.out.box1 nks5 rfl).callS (by repeat (first | exact Below.refl _ _ | apply bl_drew | apply bl_alloc)) (h6.out _ _)).mono ?_; rintro e w6 ⟨lv6, rfl, g⟩; have f6 := Lib.hid g; clear g)
  | (go_at_call 126; refine (f4.out.callN (by repeat (first | exact Below.refl _ _ | apply bl_drew | apply bl_alloc)) (h5.out _ _)).mono ?_; rintro e w5 ⟨lv5, nk5, nt5, na5, ne5, nao5, ncap5, nks5, rfl, g⟩; have f5 := Lib.hid g; clear g)
  | (go_at_call 67; refine (f3.out.callS (by repeat (first | exact Below.refl _ _ | apply bl_drew | apply bl_alloc)) (h4.out _ _)).mono ?_; rintro e w4 ⟨lv4, rfl, g⟩; have f4 := Lib.hid g; clear g)
  | (go_at_call 64; refine (f2.out.callS (by repeat (first | exact Below.refl _ _ | apply bl_drew | apply bl_alloc)) (h3.out _ _)).mono ?_; rintro e w3 ⟨lv3, rfl, g⟩; have f3 := Lib.hid g; clear g)
  | (go_at_call 123; refine (f1.out.callS (by repeat (first | exact Below.refl _ _ | apply bl_drew | apply bl_alloc)) (h2.out _ _)).mono ?_; rintro e w2 ⟨lv2, rfl, g⟩; have f2 := Lib.hid g; clear g)
  | (go_at_call 123; refine (f0.out.callS (by repeat (first | exact Below.refl _ _ | apply bl_drew | apply bl_alloc)) (h1.out _ _)).mono ?_; rintro e w1 ⟨lv1, rfl, g⟩; have f1 := Lib.hid g; clear g))
 refine bodyPost_ret (v := .agg #[.int .i64 14, .string x3, .int .i64 (S.at_ s.at_ s9.at_), .int .i64 (S.last s9.at_), .slice _ 3 3]) (by simp [results, Tryz.results70, go_sem, z0, z1, z2, z3, z4] <;> rfl) rfl ?_
 rw [hm.out]
 exact f10.out.end_ (kept5 _ _ _ _ _ _ _) 14 s.at_ x3
set_option maxRecDepth 100000 in
set_option maxHeartbeats 2000000 in
theorem part_walk_3 {w : World} {P : Nat} {tv lv : Value} {S : Src} {s : Ps} (h : PIn w P tv lv S s) (c1 : Hid (isB S.A [(ByteArray.mk #[107, 101, 121])] s = false)) (c2 : Hid (isB S.A [(ByteArray.mk #[114, 101, 102, 101, 114, 101, 110, 99, 101])] s = false)) (c3 : Hid (isB S.A [(ByteArray.mk #[99, 111, 117, 110, 116])] s = true)) :
 Calls Tryz.prog 70 #[.pointer (some ⟨P, 0, none⟩)] w (NEnd w P tv lv S s (part S.A s)) := by
 have f0 := Lib.hid (FIn.start h)
 have cat := h.cell.2.2.1
 have hP := lt_of_block h.box
 have hm0 : part S.A s = (node 15 s.at_ ((name S.A (next S.A s).2).1) [(names S.A (name S.A (next S.A s).2).2).1, (bound S.A (integer S.A) (names S.A (name S.A (next S.A s).2).2).2).1] (bound S.A (integer S.A) (names S.A (name S.A (next S.A s).2).2).2).2, (bound S.A (integer S.A) (names S.A (name S.A (next S.A s).2).2).2).2) := by
  unfold part
  simp only [node1, c1.out, c2.out, c3.out, if_true, if_false, Bool.false_eq_true, Bool.true_eq_false, reduceIte, Nat.reduceEqDiff]
 have hm := Lib.hid hm0
 clear hm0
 generalize part S.A s = m at *
 have h1 := Lib.hid (fun (W : World) (lvq : Value) (q : PIn W P tv lvq S s) => opt_no q (ByteArray.mk #[107, 101, 121]) c1.out)
 have h2 := Lib.hid (fun (W : World) (lvq : Value) (q : PIn W P tv lvq S s) => opt_no q (ByteArray.mk #[114, 101, 102, 101, 114, 101, 110, 99, 101]) c2.out)
 have h3 := Lib.hid (fun (W : World) (lvq : Value) (q : PIn W P tv lvq S s) => opt_yes q (ByteArray.mk #[99, 111, 117, 110, 116]) c3.out)
 generalize (next S.A s).2 = s3 at *
 have h4 := Lib.hid (fun (W : World) (lvq : Value) (q : PIn W P tv lvq S s3) => name_walk q)
 generalize (name S.A s3).1 = x4 at *
 generalize (name S.A s3).2 = s4 at *
 have h5 := Lib.hid (fun (W : World) (lvq : Value) (q : PIn W P tv lvq S s4) => names_walk q)
 generalize names S.A s4 = k5 at *
 obtain ⟨kk5, s5⟩ := k5
 have h6 := Lib.hid (fun (W : World) (lvq : Value) (q : PIn W P tv lvq S s5) => bound_walk q 121 _ (fn_integer P tv S))
 generalize bound S.A (integer S.A) s5 = k6 at *
 obtain ⟨kk6, s6⟩ := k6
 clear h
 go_enter Tryz.func70, Tryz.ntmps70
 go_wp2_with (first
  | (go_at_call 63; refine ((f6.out.box1 nks6 rfl).callNode (by repeat (first | exact Below.refl _ _ | apply bl_drew | apply bl_alloc)) 15 s.at_ (Nat.le_refl _) x4 rfl (by simp) rfl (by simp)).mono ?_; rintro e w7 ⟨rfl, g⟩; have f7 := Lib.hid g; clear g; obtain ⟨z0, z1, z2, z3, z4, z5⟩ := f7.out.fin.cells)
  | (go_at_call 127; refine ((f5.out.box1 nks5 rfl).callN (by repeat (first | exact Below.refl _ _ | apply bl_drew | apply bl_alloc)) (h6.out _ _)).mono ?_; rintro e w6 ⟨lv6, nk6, nt6, na6, ne6, nao6, ncap6, nks6, rfl, g⟩; have f6 := Lib.hid g; clear g; obtain ⟨y00, y01, y02, y03, y04, y05, y06⟩ := f6.out.bx 0 rfl)
  | (go_at_call 125; refine (f4.out.callN (by repeat (first | exact Below.refl _ _ | apply bl_drew | apply bl_alloc)) (h5.out _ _)).mono ?_; rintro e w5 ⟨lv5, nk5, nt5, na5, ne5, nao5, ncap5, nks5, rfl, g⟩; have f5 := Lib.hid g; clear g)
  | (go_at_call 64; refine (f3.out.callS (by repeat (first | exact Below.refl _ _ | apply bl_drew | apply bl_alloc)) (h4.out _ _)).mono ?_; rintro e w4 ⟨lv4, rfl, g⟩; have f4 := Lib.hid g; clear g)
  | (go_at_call 123; refine (f2.out.callS (by repeat (first | exact Below.refl _ _ | apply bl_drew | apply bl_alloc)) (h3.out _ _)).mono ?_; rintro e w3 ⟨lv3, rfl, g⟩; have f3 := Lib.hid g; clear g)
  | (go_at_call 123; refine (f1.out.callS (by repeat (first | exact Below.refl _ _ | apply bl_drew | apply bl_alloc)) (h2.out _ _)).mono ?_; rintro e w2 ⟨lv2, rfl, g⟩; have f2 := Lib.hid g; clear g)
  | (go_at_call 123; refine (f0.out.callS (by repeat (first | exact Below.refl _ _ | apply bl_drew | apply bl_alloc)) (h1.out _ _)).mono ?_; rintro e w1 ⟨lv1, rfl, g⟩; have f1 := Lib.hid g; clear g))
 refine bodyPost_ret (v := .agg #[.int .i64 15, .string x4, .int .i64 (S.at_ s.at_ s6.at_), .int .i64 (S.last s6.at_), .slice _ 2 2]) (by simp [results, Tryz.results70, go_sem, z0, z1, z2, z3, z4] <;> rfl) rfl ?_
 rw [hm.out]
 exact f7.out.end_ (kept5 _ _ _ _ _ _ _) 15 s.at_ x4
set_option maxRecDepth 100000 in
set_option maxHeartbeats 2000000 in
theorem part_walk_4 {w : World} {P : Nat} {tv lv : Value} {S : Src} {s : Ps} (h : PIn w P tv lv S s) (c1 : Hid (isB S.A [(ByteArray.mk #[107, 101, 121])] s = false)) (c2 : Hid (isB S.A [(ByteArray.mk #[114, 101, 102, 101, 114, 101, 110, 99, 101])] s = false)) (c3 : Hid (isB S.A [(ByteArray.mk #[99, 111, 117, 110, 116])] s = false)) (c4 : Hid (isB S.A [(ByteArray.mk #[97, 99, 121, 99, 108, 105, 99])] s = true)) :
 Calls Tryz.prog 70 #[.pointer (some ⟨P, 0, none⟩)] w (NEnd w P tv lv S s (part S.A s)) := by
 have f0 := Lib.hid (FIn.start h)
 have cat := h.cell.2.2.1
 have hP := lt_of_block h.box
 have hm0 : part S.A s = (node 16 s.at_ ((name S.A (next S.A s).2).1) [] (name S.A (next S.A s).2).2, (name S.A (next S.A s).2).2) := by
  unfold part
  simp only [node1, c1.out, c2.out, c3.out, c4.out, if_true, if_false, Bool.false_eq_true, Bool.true_eq_false, reduceIte, Nat.reduceEqDiff]
 have hm := Lib.hid hm0
 clear hm0
 generalize part S.A s = m at *
 have h1 := Lib.hid (fun (W : World) (lvq : Value) (q : PIn W P tv lvq S s) => opt_no q (ByteArray.mk #[107, 101, 121]) c1.out)
 have h2 := Lib.hid (fun (W : World) (lvq : Value) (q : PIn W P tv lvq S s) => opt_no q (ByteArray.mk #[114, 101, 102, 101, 114, 101, 110, 99, 101]) c2.out)
 have h3 := Lib.hid (fun (W : World) (lvq : Value) (q : PIn W P tv lvq S s) => opt_no q (ByteArray.mk #[99, 111, 117, 110, 116]) c3.out)
 have h4 := Lib.hid (fun (W : World) (lvq : Value) (q : PIn W P tv lvq S s) => opt_yes q (ByteArray.mk #[97, 99, 121, 99, 108, 105, 99]) c4.out)
 generalize (next S.A s).2 = s4 at *
 have h5 := Lib.hid (fun (W : World) (lvq : Value) (q : PIn W P tv lvq S s4) => name_walk q)
 generalize (name S.A s4).1 = x5 at *
 generalize (name S.A s4).2 = s5 at *
 clear h
 go_enter Tryz.func70, Tryz.ntmps70
 go_wp2_with (first
  | (go_at_call 63; refine (f5.out.callLeaf (by repeat (first | exact Below.refl _ _ | apply bl_drew | apply bl_alloc)) 16 s.at_ (Nat.le_refl _) x5).mono ?_; rintro e w6 ⟨rfl, g⟩; have f6 := Lib.hid g; clear g; obtain ⟨z0, z1, z2, z3, z4, z5⟩ := f6.out.fin.cells)
  | (go_at_call 64; refine (f4.out.callS (by repeat (first | exact Below.refl _ _ | apply bl_drew | apply bl_alloc)) (h5.out _ _)).mono ?_; rintro e w5 ⟨lv5, rfl, g⟩; have f5 := Lib.hid g; clear g)
  | (go_at_call 123; refine (f3.out.callS (by repeat (first | exact Below.refl _ _ | apply bl_drew | apply bl_alloc)) (h4.out _ _)).mono ?_; rintro e w4 ⟨lv4, rfl, g⟩; have f4 := Lib.hid g; clear g)
  | (go_at_call 123; refine (f2.out.callS (by repeat (first | exact Below.refl _ _ | apply bl_drew | apply bl_alloc)) (h3.out _ _)).mono ?_; rintro e w3 ⟨lv3, rfl, g⟩; have f3 := Lib.hid g; clear g)
  | (go_at_call 123; refine (f1.out.callS (by repeat (first | exact Below.refl _ _ | apply bl_drew | apply bl_alloc)) (h2.out _ _)).mono ?_; rintro e w2 ⟨lv2, rfl, g⟩; have f2 := Lib.hid g; clear g)
  | (go_at_call 123; refine (f0.out.callS (by repeat (first | exact Below.refl _ _ | apply bl_drew | apply bl_alloc)) (h1.out _ _)).mono ?_; rintro e w1 ⟨lv1, rfl, g⟩; have f1 := Lib.hid g; clear g))
 refine bodyPost_ret (v := .agg #[.int .i64 16, .string x5, .int .i64 (S.at_ s.at_ s5.at_), .int .i64 (S.last s5.at_), .slice none 0 0]) (by simp [results, Tryz.results70, go_sem, z0, z1, z2, z3, z4] <;> rfl) rfl ?_
 rw [hm.out]
 exact f6.out.end_ (kept5 _ _ _ _ _ _ _) 16 s.at_ x5
set_option maxRecDepth 100000 in
set_option maxHeartbeats 2000000 in
theorem part_walk_5 {w : World} {P : Nat} {tv lv : Value} {S : Src} {s : Ps} (h : PIn w P tv lv S s) (c1 : Hid (isB S.A [(ByteArray.mk #[107, 101, 121])] s = false)) (c2 : Hid (isB S.A [(ByteArray.mk #[114, 101, 102, 101, 114, 101, 110, 99, 101])] s = false)) (c3 : Hid (isB S.A [(ByteArray.mk #[99, 111, 117, 110, 116])] s = false)) (c4 : Hid (isB S.A [(ByteArray.mk #[97, 99, 121, 99, 108, 105, 99])] s = false)) (c5 : Hid (isB S.A [(ByteArray.mk #[97, 108, 108])] s = true)) :
 Calls Tryz.prog 70 #[.pointer (some ⟨P, 0, none⟩)] w (NEnd w P tv lv S s (part S.A s)) := by
 have f0 := Lib.hid (FIn.start h)
 have cat := h.cell.2.2.1
 have hP := lt_of_block h.box
 have hm0 : part S.A s = (node 17 s.at_ (⟨#[]⟩) [(columns S.A (next S.A s).2).1, (total S.A (columns S.A (next S.A s).2).2).1, (bound S.A (integer S.A) (total S.A (columns S.A (next S.A s).2).2).2).1] (bound S.A (integer S.A) (total S.A (columns S.A (next S.A s).2).2).2).2, (bound S.A (integer S.A) (total S.A (columns S.A (next S.A s).2).2).2).2) := by
  unfold part
  simp only [node1, c1.out, c2.out, c3.out, c4.out, c5.out, if_true, if_false, Bool.false_eq_true, Bool.true_eq_false, reduceIte, Nat.reduceEqDiff]
 have hm := Lib.hid hm0
 clear hm0
 generalize part S.A s = m at *
 have h1 := Lib.hid (fun (W : World) (lvq : Value) (q : PIn W P tv lvq S s) => opt_no q (ByteArray.mk #[107, 101, 121]) c1.out)
 have h2 := Lib.hid (fun (W : World) (lvq : Value) (q : PIn W P tv lvq S s) => opt_no q (ByteArray.mk #[114, 101, 102, 101, 114, 101, 110, 99, 101]) c2.out)
 have h3 := Lib.hid (fun (W : World) (lvq : Value) (q : PIn W P tv lvq S s) => opt_no q (ByteArray.mk #[99, 111, 117, 110, 116]) c3.out)
 have h4 := Lib.hid (fun (W : World) (lvq : Value) (q : PIn W P tv lvq S s) => opt_no q (ByteArray.mk #[97, 99, 121, 99, 108, 105, 99]) c4.out)
 have h5 := Lib.hid (fun (W : World) (lvq : Value) (q : PIn W P tv lvq S s) => opt_yes q (ByteArray.mk #[97, 108, 108]) c5.out)
 generalize (next S.A s).2 = s5 at *
 have h6 := Lib.hid (fun (W : World) (lvq : Value) (q : PIn W P tv lvq S s5) => columns_walk q)
 generalize columns S.A s5 = k6 at *
 obtain ⟨kk6, s6⟩ := k6
 have h7 := Lib.hid (fun (W : World) (lvq : Value) (q : PIn W P tv lvq S s6) => total_walk q)
 generalize total S.A s6 = k7 at *
 obtain ⟨kk7, s7⟩ := k7
 have h8 := Lib.hid (fun (W : World) (lvq : Value) (q : PIn W P tv lvq S s7) => bound_walk q 121 _ (fn_integer P tv S))
 generalize bound S.A (integer S.A) s7 = k8 at *
 obtain ⟨kk8, s8⟩ := k8
 clear h
 go_enter Tryz.func70, Tryz.ntmps70
 go_wp2_with (first
  | (go_at_call 63; refine ((f8.out.box1 nks8 rfl).callNode (by repeat (first | exact Below.refl _ _ | apply bl_drew | apply bl_alloc)) 17 s.at_ (Nat.le_refl _) ⟨#[]⟩ rfl (by simp) rfl (by simp)).mono ?_; rintro e w9 ⟨rfl, g⟩; have f9 := Lib.hid g; clear g; obtain ⟨z0, z1, z2, z3, z4, z5⟩ := f9.out.fin.cells)
  | (go_at_call 127; refine ((f7.out.box1 nks7 rfl).callN (by repeat (first | exact Below.refl _ _ | apply bl_drew | apply bl_alloc)) (h8.out _ _)).mono ?_; rintro e w8 ⟨lv8, nk8, nt8, na8, ne8, nao8, ncap8, nks8, rfl, g⟩; have f8 := Lib.hid g; clear g; obtain ⟨y00, y01, y02, y03, y04, y05, y06⟩ := f8.out.bx 0 rfl; obtain ⟨y10, y11, y12, y13, y14, y15, y16⟩ := f8.out.bx 1 rfl)
  | (go_at_call 128; refine ((f6.out.box1 nks6 rfl).callN (by repeat (first | exact Below.refl _ _ | apply bl_drew | apply bl_alloc)) (h7.out _ _)).mono ?_; rintro e w7 ⟨lv7, nk7, nt7, na7, ne7, nao7, ncap7, nks7, rfl, g⟩; have f7 := Lib.hid g; clear g)
  | (go_at_call 66; refine (f5.out.callN (by repeat (first | exact Below.refl _ _ | apply bl_drew | apply bl_alloc)) (h6.out _ _)).mono ?_; rintro e w6 ⟨lv6, nk6, nt6, na6, ne6, nao6, ncap6, nks6, rfl, g⟩; have f6 := Lib.hid g; clear g)
  | (go_at_call 123; refine (f4.out.callS (by repeat (first | exact Below.refl _ _ | apply bl_drew | apply bl_alloc)) (h5.out _ _)).mono ?_; rintro e w5 ⟨lv5, rfl, g⟩; have f5 := Lib.hid g; clear g)
  | (go_at_call 123; refine (f3.out.callS (by repeat (first | exact Below.refl _ _ | apply bl_drew | apply bl_alloc)) (h4.out _ _)).mono ?_; rintro e w4 ⟨lv4, rfl, g⟩; have f4 := Lib.hid g; clear g)
  | (go_at_call 123; refine (f2.out.callS (by repeat (first | exact Below.refl _ _ | apply bl_drew | apply bl_alloc)) (h3.out _ _)).mono ?_; rintro e w3 ⟨lv3, rfl, g⟩; have f3 := Lib.hid g; clear g)
  | (go_at_call 123; refine (f1.out.callS (by repeat (first | exact Below.refl _ _ | apply bl_drew | apply bl_alloc)) (h2.out _ _)).mono ?_; rintro e w2 ⟨lv2, rfl, g⟩; have f2 := Lib.hid g; clear g)
  | (go_at_call 123; refine (f0.out.callS (by repeat (first | exact Below.refl _ _ | apply bl_drew | apply bl_alloc)) (h1.out _ _)).mono ?_; rintro e w1 ⟨lv1, rfl, g⟩; have f1 := Lib.hid g; clear g))
 refine bodyPost_ret (v := .agg #[.int .i64 17, .string ⟨#[]⟩, .int .i64 (S.at_ s.at_ s8.at_), .int .i64 (S.last s8.at_), .slice _ 3 3]) (by simp [results, Tryz.results70, go_sem, z0, z1, z2, z3, z4] <;> rfl) rfl ?_
 rw [hm.out]
 exact f9.out.end_ (kept5 _ _ _ _ _ _ _) 17 s.at_ ⟨#[]⟩
set_option maxRecDepth 100000 in
set_option maxHeartbeats 2000000 in
theorem part_walk_6 {w : World} {P : Nat} {tv lv : Value} {S : Src} {s : Ps} (h : PIn w P tv lv S s) (c1 : Hid (isB S.A [(ByteArray.mk #[107, 101, 121])] s = false)) (c2 : Hid (isB S.A [(ByteArray.mk #[114, 101, 102, 101, 114, 101, 110, 99, 101])] s = false)) (c3 : Hid (isB S.A [(ByteArray.mk #[99, 111, 117, 110, 116])] s = false)) (c4 : Hid (isB S.A [(ByteArray.mk #[97, 99, 121, 99, 108, 105, 99])] s = false)) (c5 : Hid (isB S.A [(ByteArray.mk #[97, 108, 108])] s = false)) :
 Calls Tryz.prog 70 #[.pointer (some ⟨P, 0, none⟩)] w (NEnd w P tv lv S s (part S.A s)) := by
 have f0 := Lib.hid (FIn.start h)
 have cat := h.cell.2.2.1
 have hP := lt_of_block h.box
 have hm0 : part S.A s = ((missing 0 (report 4 (ByteArray.mk #[105, 110, 118, 97, 114, 105, 97, 110, 116]) s)), (report 4 (ByteArray.mk #[105, 110, 118, 97, 114, 105, 97, 110, 116]) s)) := by
  unfold part
  simp only [node1, c1.out, c2.out, c3.out, c4.out, c5.out, if_true, if_false, Bool.false_eq_true, Bool.true_eq_false, reduceIte, Nat.reduceEqDiff]
 have hm := Lib.hid hm0
 clear hm0
 generalize part S.A s = m at *
 have h1 := Lib.hid (fun (W : World) (lvq : Value) (q : PIn W P tv lvq S s) => opt_no q (ByteArray.mk #[107, 101, 121]) c1.out)
 have h2 := Lib.hid (fun (W : World) (lvq : Value) (q : PIn W P tv lvq S s) => opt_no q (ByteArray.mk #[114, 101, 102, 101, 114, 101, 110, 99, 101]) c2.out)
 have h3 := Lib.hid (fun (W : World) (lvq : Value) (q : PIn W P tv lvq S s) => opt_no q (ByteArray.mk #[99, 111, 117, 110, 116]) c3.out)
 have h4 := Lib.hid (fun (W : World) (lvq : Value) (q : PIn W P tv lvq S s) => opt_no q (ByteArray.mk #[97, 99, 121, 99, 108, 105, 99]) c4.out)
 have h5 := Lib.hid (fun (W : World) (lvq : Value) (q : PIn W P tv lvq S s) => opt_no q (ByteArray.mk #[97, 108, 108]) c5.out)
 have h6 := Lib.hid (fun (W : World) (lvq : Value) (q : PIn W P tv lvq S s) => report_walk q 4 (ByteArray.mk #[105, 110, 118, 97, 114, 105, 97, 110, 116]) (rp4 (by decide)))
 generalize report 4 (ByteArray.mk #[105, 110, 118, 97, 114, 105, 97, 110, 116]) s = s6 at *
 have h7 := Lib.hid (fun (W : World) (lvq : Value) (q : PIn W P tv lvq S s6) => missing_walk q 0)
 clear h
 go_enter Tryz.func70, Tryz.ntmps70
 go_wp2_with (first
  | (go_at_call 122; refine (f6.out.callN (by repeat (first | exact Below.refl _ _ | apply bl_drew | apply bl_alloc)) (h7.out _ _)).mono ?_; rintro e w7 ⟨lv7, nk7, nt7, na7, ne7, nao7, ncap7, nks7, rfl, g⟩; have f7 := Lib.hid g; clear g; obtain ⟨z0, z1, z2, z3, z4, z5⟩ := f7.out.cells)
  | (go_at_call 44; refine (f5.out.callS (by repeat (first | exact Below.refl _ _ | apply bl_drew | apply bl_alloc)) (h6.out _ _)).mono ?_; rintro e w6 ⟨lv6, rfl, g⟩; have f6 := Lib.hid g; clear g)
  | (go_at_call 123; refine (f4.out.callS (by repeat (first | exact Below.refl _ _ | apply bl_drew | apply bl_alloc)) (h5.out _ _)).mono ?_; rintro e w5 ⟨lv5, rfl, g⟩; have f5 := Lib.hid g; clear g)
  | (go_at_call 123; refine (f3.out.callS (by repeat (first | exact Below.refl _ _ | apply bl_drew | apply bl_alloc)) (h4.out _ _)).mono ?_; rintro e w4 ⟨lv4, rfl, g⟩; have f4 := Lib.hid g; clear g)
  | (go_at_call 123; refine (f2.out.callS (by repeat (first | exact Below.refl _ _ | apply bl_drew | apply bl_alloc)) (h3.out _ _)).mono ?_; rintro e w3 ⟨lv3, rfl, g⟩; have f3 := Lib.hid g; clear g)
  | (go_at_call 123; refine (f1.out.callS (by repeat (first | exact Below.refl _ _ | apply bl_drew | apply bl_alloc)) (h2.out _ _)).mono ?_; rintro e w2 ⟨lv2, rfl, g⟩; have f2 := Lib.hid g; clear g)
  | (go_at_call 123; refine (f0.out.callS (by repeat (first | exact Below.refl _ _ | apply bl_drew | apply bl_alloc)) (h1.out _ _)).mono ?_; rintro e w1 ⟨lv1, rfl, g⟩; have f1 := Lib.hid g; clear g))
 refine bodyPost_ret (v := .agg #[.int .i64 nk7, .string nt7, .int .i64 na7, .int .i64 ne7, .slice nao7 nks7.length ncap7]) (by simp [results, Tryz.results70, go_sem, z0, z1, z2, z3, z4] <;> rfl) rfl ?_
 rw [hm.out]
 exact f7.out.pass (kept5 _ _ _ _ _ _ _)
theorem part_walk {w : World} {P : Nat} {tv lv : Value} {S : Src} {s : Ps} (h : PIn w P tv lv S s) :
 Calls Tryz.prog 70 #[.pointer (some ⟨P, 0, none⟩)] w (NEnd w P tv lv S s (part S.A s)) := by
 cases q1 : isB S.A [(ByteArray.mk #[107, 101, 121])] s with
 | true =>
  exact part_walk_1 h (Lib.hid q1)
 | false =>
  cases q2 : isB S.A [(ByteArray.mk #[114, 101, 102, 101, 114, 101, 110, 99, 101])] s with
  | true =>
   exact part_walk_2 h (Lib.hid q1) (Lib.hid q2)
  | false =>
   cases q3 : isB S.A [(ByteArray.mk #[99, 111, 117, 110, 116])] s with
   | true =>
    exact part_walk_3 h (Lib.hid q1) (Lib.hid q2) (Lib.hid q3)
   | false =>
    cases q4 : isB S.A [(ByteArray.mk #[97, 99, 121, 99, 108, 105, 99])] s with
    | true =>
     exact part_walk_4 h (Lib.hid q1) (Lib.hid q2) (Lib.hid q3) (Lib.hid q4)
    | false =>
     cases q5 : isB S.A [(ByteArray.mk #[97, 108, 108])] s with
     | true =>
      exact part_walk_5 h (Lib.hid q1) (Lib.hid q2) (Lib.hid q3) (Lib.hid q4) (Lib.hid q5)
     | false =>
      exact part_walk_6 h (Lib.hid q1) (Lib.hid q2) (Lib.hid q3) (Lib.hid q4) (Lib.hid q5)
set_option maxRecDepth 100000 in
set_option maxHeartbeats 2000000 in
theorem parameter_walk_1 {w : World} {P : Nat} {tv lv : Value} {S : Src} {s : Ps} (h : PIn w P tv lv S s) (c1 : Hid (isB S.A [(ByteArray.mk #[58])] (name S.A s).2 = true)) :
 Calls Tryz.prog 72 #[.pointer (some ⟨P, 0, none⟩)] w (NEnd w P tv lv S s (parameter S.A s)) := by
 have f0 := Lib.hid (FIn.start h)
 have cat := h.cell.2.2.1
 have hP := lt_of_block h.box
 have hm0 : parameter S.A s = (node 24 s.at_ ((name S.A s).1) [(named S.A (next S.A (name S.A s).2).2).1] (named S.A (next S.A (name S.A s).2).2).2, (named S.A (next S.A (name S.A s).2).2).2) := by
  unfold parameter
  simp only [c1.out, if_true, if_false, Bool.false_eq_true, Bool.true_eq_false, reduceIte, Nat.reduceEqDiff]
 have hm := Lib.hid hm0
 clear hm0
 generalize parameter S.A s = m at *
 have h1 := Lib.hid (fun (W : World) (lvq : Value) (q : PIn W P tv lvq S s) => name_walk q)
 generalize (name S.A s).1 = x1 at *
 generalize (name S.A s).2 = s1 at *
 have h2 := Lib.hid (fun (W : World) (lvq : Value) (q : PIn W P tv lvq S s1) => opt_yes q (ByteArray.mk #[58]) c1.out)
 generalize (next S.A s1).2 = s2 at *
 have h3 := Lib.hid (fun (W : World) (lvq : Value) (q : PIn W P tv lvq S s2) => named_walk q)
 generalize named S.A s2 = k3 at *
 obtain ⟨kk3, s3⟩ := k3
 clear h
 go_enter Tryz.func72, Tryz.ntmps72
 go_wp2_with (first
  | (go_at_call 63; refine ((FIn.over (nks' := nks3) f3.out 1).callNode (by repeat (first | exact Below.refl _ _ | apply bl_drew | apply bl_alloc)) 24 s.at_ (Nat.le_refl _) x1 rfl (by simp) rfl (by simp)).mono ?_; rintro e w4 ⟨rfl, g⟩; have f4 := Lib.hid g; clear g; obtain ⟨z0, z1, z2, z3, z4, z5⟩ := f4.out.fin.cells)
  | (go_at_call 126; refine (f2.out.callN (by repeat (first | exact Below.refl _ _ | apply bl_drew | apply bl_alloc)) (h3.out _ _)).mono ?_; rintro e w3 ⟨lv3, nk3, nt3, na3, ne3, nao3, ncap3, nks3, rfl, g⟩; have f3 := Lib.hid g; clear g; obtain ⟨y00, y01, y02, y03, y04, y05, y06⟩ := f3.out.bx 0 rfl)
  | (go_at_call 123; refine ((f1.out.box1 (k := 0) (t := ⟨#[]⟩) (a := 0) (e := 0) (v := .slice none 0 0) [] rfl).callS (by repeat (first | exact Below.refl _ _ | apply bl_drew | apply bl_alloc)) (h2.out _ _)).mono ?_; rintro e w2 ⟨lv2, rfl, g⟩; have f2 := Lib.hid g; clear g)
  | (go_at_call 64; refine (f0.out.callS (by repeat (first | exact Below.refl _ _ | apply bl_drew | apply bl_alloc)) (h1.out _ _)).mono ?_; rintro e w1 ⟨lv1, rfl, g⟩; have f1 := Lib.hid g; clear g))
 refine bodyPost_ret (v := .agg #[.int .i64 24, .string x1, .int .i64 (S.at_ s.at_ s3.at_), .int .i64 (S.last s3.at_), .slice _ 1 1]) (by simp [results, Tryz.results72, go_sem, z0, z1, z2, z3, z4] <;> rfl) rfl ?_
 rw [hm.out]
 exact f4.out.end_ (kept5 _ _ _ _ _ _ _) 24 s.at_ x1
set_option maxRecDepth 100000 in
set_option maxHeartbeats 2000000 in
theorem parameter_walk_2 {w : World} {P : Nat} {tv lv : Value} {S : Src} {s : Ps} (h : PIn w P tv lv S s) (c1 : Hid (isB S.A [(ByteArray.mk #[58])] (name S.A s).2 = false)) (c2 : Hid (isB S.A [(ByteArray.mk #[105, 110])] (name S.A s).2 = true)) :
 Calls Tryz.prog 72 #[.pointer (some ⟨P, 0, none⟩)] w (NEnd w P tv lv S s (parameter S.A s)) := by
 have f0 := Lib.hid (FIn.start h)
 have cat := h.cell.2.2.1
 have hP := lt_of_block h.box
 have hm0 : parameter S.A s = (node 24 s.at_ ((name S.A s).1) [(limits S.A (next S.A (name S.A s).2).2).1] (limits S.A (next S.A (name S.A s).2).2).2, (limits S.A (next S.A (name S.A s).2).2).2) := by
  unfold parameter
  simp only [c1.out, c2.out, if_true, if_false, Bool.false_eq_true, Bool.true_eq_false, reduceIte, Nat.reduceEqDiff]
 have hm := Lib.hid hm0
 clear hm0
 generalize parameter S.A s = m at *
 have h1 := Lib.hid (fun (W : World) (lvq : Value) (q : PIn W P tv lvq S s) => name_walk q)
 generalize (name S.A s).1 = x1 at *
 generalize (name S.A s).2 = s1 at *
 have h2 := Lib.hid (fun (W : World) (lvq : Value) (q : PIn W P tv lvq S s1) => opt_no q (ByteArray.mk #[58]) c1.out)
 have h3 := Lib.hid (fun (W : World) (lvq : Value) (q : PIn W P tv lvq S s1) => opt_yes q (ByteArray.mk #[105, 110]) c2.out)
 generalize (next S.A s1).2 = s3 at *
 have h4 := Lib.hid (fun (W : World) (lvq : Value) (q : PIn W P tv lvq S s3) => limits_walk q)
 generalize limits S.A s3 = k4 at *
 obtain ⟨kk4, s4⟩ := k4
 clear h
 go_enter Tryz.func72, Tryz.ntmps72
 go_wp2_with (first
  | (go_at_call 63; refine ((FIn.over (nks' := nks4) f4.out 1).callNode (by repeat (first | exact Below.refl _ _ | apply bl_drew | apply bl_alloc)) 24 s.at_ (Nat.le_refl _) x1 rfl (by simp) rfl (by simp)).mono ?_; rintro e w5 ⟨rfl, g⟩; have f5 := Lib.hid g; clear g; obtain ⟨z0, z1, z2, z3, z4, z5⟩ := f5.out.fin.cells)
  | (go_at_call 68; refine (f3.out.callN (by repeat (first | exact Below.refl _ _ | apply bl_drew | apply bl_alloc)) (h4.out _ _)).mono ?_; rintro e w4 ⟨lv4, nk4, nt4, na4, ne4, nao4, ncap4, nks4, rfl, g⟩; have f4 := Lib.hid g; clear g; obtain ⟨y00, y01, y02, y03, y04, y05, y06⟩ := f4.out.bx 0 rfl)
  | (go_at_call 123; refine (f2.out.callS (by repeat (first | exact Below.refl _ _ | apply bl_drew | apply bl_alloc)) (h3.out _ _)).mono ?_; rintro e w3 ⟨lv3, rfl, g⟩; have f3 := Lib.hid g; clear g)
  | (go_at_call 123; refine ((f1.out.box1 (k := 0) (t := ⟨#[]⟩) (a := 0) (e := 0) (v := .slice none 0 0) [] rfl).callS (by repeat (first | exact Below.refl _ _ | apply bl_drew | apply bl_alloc)) (h2.out _ _)).mono ?_; rintro e w2 ⟨lv2, rfl, g⟩; have f2 := Lib.hid g; clear g)
  | (go_at_call 64; refine (f0.out.callS (by repeat (first | exact Below.refl _ _ | apply bl_drew | apply bl_alloc)) (h1.out _ _)).mono ?_; rintro e w1 ⟨lv1, rfl, g⟩; have f1 := Lib.hid g; clear g))
 refine bodyPost_ret (v := .agg #[.int .i64 24, .string x1, .int .i64 (S.at_ s.at_ s4.at_), .int .i64 (S.last s4.at_), .slice _ 1 1]) (by simp [results, Tryz.results72, go_sem, z0, z1, z2, z3, z4] <;> rfl) rfl ?_
 rw [hm.out]
 exact f5.out.end_ (kept5 _ _ _ _ _ _ _) 24 s.at_ x1
set_option maxRecDepth 100000 in
set_option maxHeartbeats 2000000 in
theorem parameter_walk_3 {w : World} {P : Nat} {tv lv : Value} {S : Src} {s : Ps} (h : PIn w P tv lv S s) (c1 : Hid (isB S.A [(ByteArray.mk #[58])] (name S.A s).2 = false)) (c2 : Hid (isB S.A [(ByteArray.mk #[105, 110])] (name S.A s).2 = false)) :
 Calls Tryz.prog 72 #[.pointer (some ⟨P, 0, none⟩)] w (NEnd w P tv lv S s (parameter S.A s)) := by
 have f0 := Lib.hid (FIn.start h)
 have cat := h.cell.2.2.1
 have hP := lt_of_block h.box
 have hm0 : parameter S.A s = (node 24 s.at_ ((name S.A s).1) [(missing 0 (report 4 (ByteArray.mk #[58]) (name S.A s).2))] (report 4 (ByteArray.mk #[58]) (name S.A s).2), (report 4 (ByteArray.mk #[58]) (name S.A s).2)) := by
  unfold parameter
  simp only [c1.out, c2.out, if_true, if_false, Bool.false_eq_true, Bool.true_eq_false, reduceIte, Nat.reduceEqDiff]
 have hm := Lib.hid hm0
 clear hm0
 generalize parameter S.A s = m at *
 have h1 := Lib.hid (fun (W : World) (lvq : Value) (q : PIn W P tv lvq S s) => name_walk q)
 generalize (name S.A s).1 = x1 at *
 generalize (name S.A s).2 = s1 at *
 have h2 := Lib.hid (fun (W : World) (lvq : Value) (q : PIn W P tv lvq S s1) => opt_no q (ByteArray.mk #[58]) c1.out)
 have h3 := Lib.hid (fun (W : World) (lvq : Value) (q : PIn W P tv lvq S s1) => opt_no q (ByteArray.mk #[105, 110]) c2.out)
 have h4 := Lib.hid (fun (W : World) (lvq : Value) (q : PIn W P tv lvq S s1) => report_walk q 4 (ByteArray.mk #[58]) (rp4 (by decide)))
 generalize report 4 (ByteArray.mk #[58]) s1 = s4 at *
 have h5 := Lib.hid (fun (W : World) (lvq : Value) (q : PIn W P tv lvq S s4) => missing_walk q 0)
 clear h
 go_enter Tryz.func72, Tryz.ntmps72
 go_wp2_with (first
  | (go_at_call 63; refine ((FIn.over (nks' := nks5) f5.out 1).callNode (by repeat (first | exact Below.refl _ _ | apply bl_drew | apply bl_alloc)) 24 s.at_ (Nat.le_refl _) x1 rfl (by simp) rfl (by simp)).mono ?_; rintro e w6 ⟨rfl, g⟩; have f6 := Lib.hid g; clear g; obtain ⟨z0, z1, z2, z3, z4, z5⟩ := f6.out.fin.cells)
  | (go_at_call 122; refine (f4.out.callN (by repeat (first | exact Below.refl _ _ | apply bl_drew | apply bl_alloc)) (h5.out _ _)).mono ?_; rintro e w5 ⟨lv5, nk5, nt5, na5, ne5, nao5, ncap5, nks5, rfl, g⟩; have f5 := Lib.hid g; clear g; obtain ⟨y00, y01, y02, y03, y04, y05, y06⟩ := f5.out.bx 0 rfl)
  | (go_at_call 44; refine (f3.out.callS (by repeat (first | exact Below.refl _ _ | apply bl_drew | apply bl_alloc)) (h4.out _ _)).mono ?_; rintro e w4 ⟨lv4, rfl, g⟩; have f4 := Lib.hid g; clear g)
  | (go_at_call 123; refine (f2.out.callS (by repeat (first | exact Below.refl _ _ | apply bl_drew | apply bl_alloc)) (h3.out _ _)).mono ?_; rintro e w3 ⟨lv3, rfl, g⟩; have f3 := Lib.hid g; clear g)
  | (go_at_call 123; refine ((f1.out.box1 (k := 0) (t := ⟨#[]⟩) (a := 0) (e := 0) (v := .slice none 0 0) [] rfl).callS (by repeat (first | exact Below.refl _ _ | apply bl_drew | apply bl_alloc)) (h2.out _ _)).mono ?_; rintro e w2 ⟨lv2, rfl, g⟩; have f2 := Lib.hid g; clear g)
  | (go_at_call 64; refine (f0.out.callS (by repeat (first | exact Below.refl _ _ | apply bl_drew | apply bl_alloc)) (h1.out _ _)).mono ?_; rintro e w1 ⟨lv1, rfl, g⟩; have f1 := Lib.hid g; clear g))
 refine bodyPost_ret (v := .agg #[.int .i64 24, .string x1, .int .i64 (S.at_ s.at_ s4.at_), .int .i64 (S.last s4.at_), .slice _ 1 1]) (by simp [results, Tryz.results72, go_sem, z0, z1, z2, z3, z4] <;> rfl) rfl ?_
 rw [hm.out]
 exact f6.out.end_ (kept5 _ _ _ _ _ _ _) 24 s.at_ x1
theorem parameter_walk {w : World} {P : Nat} {tv lv : Value} {S : Src} {s : Ps} (h : PIn w P tv lv S s) :
 Calls Tryz.prog 72 #[.pointer (some ⟨P, 0, none⟩)] w (NEnd w P tv lv S s (parameter S.A s)) := by
 cases q1 : isB S.A [(ByteArray.mk #[58])] (name S.A s).2 with
 | true =>
  exact parameter_walk_1 h (Lib.hid q1)
 | false =>
  cases q2 : isB S.A [(ByteArray.mk #[105, 110])] (name S.A s).2 with
  | true =>
   exact parameter_walk_2 h (Lib.hid q1) (Lib.hid q2)
  | false =>
   exact parameter_walk_3 h (Lib.hid q1) (Lib.hid q2)
end Go.Proofs.YthggagophcnkfaaGreatDoor.px
