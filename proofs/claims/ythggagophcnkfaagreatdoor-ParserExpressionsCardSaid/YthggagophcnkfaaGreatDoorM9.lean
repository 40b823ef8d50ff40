/- The walk of the parser's statement. The walks of the parser's declaration, keyword by keyword (one). The walks of the parser's declaration, keyword by keyword (two). The walks of the parser's declaration, keyword by keyword (three). The walk of the parser's declaration. -/
import Derived.Test.YthggagophcnkfaaGreatDoorM42
import Derived.Test.YthggagophcnkfaaGreatDoorTk
namespace Go.Proofs.YthggagophcnkfaaGreatDoor.px
open Go.RowKit Go.Proofs.YthggagophcnkfaaGreatDoor.agg Go.Proofs.YthggagophcnkfaaGreatDoor.sx
set_option linter.unusedSimpArgs false
set_option linter.unusedVariables false
theorem FIn.callNw {w0 : World} {Z : Nat} {P : Nat} {tv lv0 : Value} {S : Src} {s0 : Ps} {w : World} {lv : Value} {s s' : Ps} {ks : Kds} {bs : Bxs} {W : World} {f : Nat} {args : Array Value} {r : PT × Ps} (h : FIn w0 Z P tv lv0 S s0 w lv s ks bs) (hb : Below w.heap.size w W) (hs : s.at_ ≤ s'.at_) (c : PIn W P tv lv S s → Calls Tryz.prog f args W (NEnd W P tv lv S s' r)) :
 Calls Tryz.prog f args W fun e w' => ∃ lv' nk nt na ne nao ncap nks, e = .returned (.agg #[.int .i64 nk, .string nt, .int .i64 na, .int .i64 ne, .slice nao nks.length ncap]) ∧ FIn w0 Z P tv lv0 S s' w' lv' r.2 (ks ++ [(Nd.mk nk nt na ne (.slice nao nks.length ncap) nks, r.1)]) bs :=
 have g := h.below hb
 (c g.pin).mono fun _ _ ⟨lv', nk, nt, na, ne, nao, ncap, nks, h1, t1, t2, t3, t4, t5, t6⟩ => ⟨lv', nk, nt, na, ne, nao, ncap, nks, h1, (g.nsend t1 t2 t3 t4 t5 (Nat.le_trans hs t6)).rebase t6⟩
set_option maxRecDepth 100000 in
set_option maxHeartbeats 2000000 in
theorem stmt_skipped {w : World} {P : Nat} {tv lv : Value} {S : Src} {s : Ps} (h : PIn w P tv lv S s) (n : Nat) (hend : atEnd S.A s = false) (c1 : Hid (states S.A s = false)) :
 Calls Tryz.prog 130 #[.pointer (some ⟨P, 0, none⟩)] w (NEnd w P tv lv S { s with at_ := s.at_ + 1 } (stmt S.A (n + 1) s)) := by
 have f0 := Lib.hid (FIn.start h)
 have hP := lt_of_block h.box
 have hm : Hid (stmt S.A (n + 1) s = ((skipped S.A s).1, (skipped S.A s).2)) := by
  rw [stmt]
  simp only
  rw [if_pos c1.out]
  exact rfl
 generalize stmt S.A (n + 1) s = m at *
 have h1 := Lib.hid (fun (W : World) (lvq : Value) (q : PIn W P tv lvq S s) => states_b q c1.out)
 have h2 := Lib.hid (fun (W : World) (lvq : Value) (q : PIn W P tv lvq S s) => skipped_walk q hend)
 generalize skipped S.A s = k2 at *
 obtain ⟨kk2, s2⟩ := k2
 clear h hend
 go_enter Tryz.func130, Tryz.ntmps130
 go_wp2_with (first
  | (go_at_call 155; refine (f1.out.callNw (by repeat (first | exact Below.refl _ _ | apply bl_drew | apply bl_alloc)) (Nat.le_succ _) (h2.out _ _)).mono ?_; rintro e w2 ⟨lv2, nk2, nt2, na2, ne2, nao2, ncap2, nks2, rfl, g⟩; have f2 := Lib.hid g; clear g; obtain ⟨z0, z1, z2, z3, z4, z5⟩ := f2.out.cells)
  | (go_at_call 154; refine (f0.out.callB (by repeat (first | exact Below.refl _ _ | apply bl_drew | apply bl_alloc)) (h1.out _ _)).mono ?_; rintro e w1 ⟨rfl, g⟩; have f1 := Lib.hid g; clear g))
 refine bodyPost_ret (v := .agg #[.int .i64 nk2, .string nt2, .int .i64 na2, .int .i64 ne2, .slice nao2 nks2.length ncap2]) (by simp [results, Tryz.results130, go_sem, z0, z1, z2, z3, z4] <;> rfl) rfl ?_
 rw [hm.out]
 exact f2.out.pass (kept5 _ _ _ _ _ _ _)
theorem isB_word {A : List Tk} {ws : List ByteArray} {s : Ps} (h : isB A ws s = true) : (next A s).1 ∈ ws := by
 unfold isB at h
 rw [Bool.and_eq_true] at h
 exact hasS_iff.1 h.2
theorem stmt_all {P : Nat} {tv : Value} {S : Src} (n : Nat) : StM P tv S (stmt S.A n) n := by
 induction n with
 | zero => intro W lv s q hn; have := q.sok.lt; omega
 | succ n ih =>
  intro W lv s q hn he
  cases hs : states S.A s with
  | false => exact stmt_skipped q n he (Lib.hid hs)
  | true =>
   have hw := isB_word (show isB S.A stmtWords s = true from hs)
   simp only [stmtWords, List.mem_cons, List.not_mem_nil, or_false] at hw
   rcases hw with e | e | e | e | e | e | e | e | e
   ·exact stmt_require q n ih hn (Lib.hid hs) (Lib.hid e)
   ·exact stmt_hold q n ih hn (Lib.hid hs) (Lib.hid e)
   ·exact stmt_insert q n ih hn (Lib.hid hs) (Lib.hid e)
   ·exact stmt_delete q n ih hn (Lib.hid hs) (Lib.hid e)
   ·exact stmt_add q n ih hn (Lib.hid hs) (Lib.hid e)
   ·exact stmt_put q n ih hn (Lib.hid hs) (Lib.hid e)
   ·exact stmt_drop q n ih hn (Lib.hid hs) (Lib.hid e)
   ·exact stmt_assign q n ih hn (Lib.hid hs) (Lib.hid e)
   ·cases hc : isB S.A [(ByteArray.mk #[119, 104, 101, 114, 101])] (column S.A (next S.A s).2).2 with
    | true => exact stmt_for1 q n ih hn (Lib.hid hs) (Lib.hid e) (Lib.hid hc)
    | false => exact stmt_for2 q n ih hn (Lib.hid hs) (Lib.hid e) (Lib.hid hc)
theorem statement_all (P : Nat) (tv : Value) (S : Src) : StM P tv S (statement S.A) (S.L.length + 1) := by
 have h := stmt_all (P := P) (tv := tv) (S := S) (S.A.length + 1)
 unfold statement
 rw [Src.len] at h ⊢
 exact h
end Go.Proofs.YthggagophcnkfaaGreatDoor.px
namespace Go.Proofs.YthggagophcnkfaaGreatDoor.px
open Go.RowKit Go.Proofs.YthggagophcnkfaaGreatDoor.agg Go.Proofs.YthggagophcnkfaaGreatDoor.sx
set_option linter.unusedSimpArgs false
set_option linter.unusedVariables false
set_option maxRecDepth 100000 in
set_option maxHeartbeats 2000000 in
theorem decl_sort {w : World} {P : Nat} {tv lv : Value} {S : Src} {s : Ps} (h : PIn w P tv lv S s) (c1 : Hid (declares S.A s = true)) (c2 : Hid ((next S.A s).1 = (ByteArray.mk #[115, 111, 114, 116]))) :
 Calls Tryz.prog 29 #[.pointer (some ⟨P, 0, none⟩)] w (NEnd w P tv lv S { s with at_ := s.at_ + 1 } (declaration S.A s)) := by
 have f0 := Lib.hid (FIn.start h)
 have hP := lt_of_block h.box
 have hm0 : declaration S.A s = (node 3 s.at_ ((name S.A (next S.A s).2).1) [(number S.A (name S.A (next S.A s).2).2).1] (demand S.A (ByteArray.mk #[59]) (number S.A (name S.A (next S.A s).2).2).2).2, (demand S.A (ByteArray.mk #[59]) (number S.A (name S.A (next S.A s).2).2).2).2) := by
  rw [declaration]
  simp (decide := true) only [c1.out, c2.out, if_true, if_false, Bool.false_eq_true, Bool.true_eq_false, reduceIte, Nat.reduceEqDiff]
 have hm := Lib.hid hm0
 clear hm0
 generalize declaration S.A s = m at *
 have h1 := Lib.hid (fun (W : World) (lvq : Value) (q : PIn W P tv lvq S s) => declares_b q c1.out)
 have h2 := Lib.hid (fun (W : World) (lvq : Value) (q : PIn W P tv lvq S s) => next_is q (isB_kind c1.out) (ByteArray.mk #[115, 111, 114, 116]) c2.out)
 have hnx2 : Hid ((next S.A s).2.at_ = s.at_ + 1) := rfl
 generalize (next S.A s).2 = s2 at *
 have h3 := Lib.hid (fun (W : World) (lvq : Value) (q : PIn W P tv lvq S s2) => name_walk q)
 generalize (name S.A s2).1 = x3 at *
 generalize (name S.A s2).2 = s3 at *
 have h4 := Lib.hid (fun (W : World) (lvq : Value) (q : PIn W P tv lvq S s3) => number_walk q)
 generalize number S.A s3 = k4 at *
 obtain ⟨kk4, s4⟩ := k4
 have h5 := Lib.hid (fun (W : World) (lvq : Value) (q : PIn W P tv lvq S s4) => demand_walk q (ByteArray.mk #[59]) (by decide))
 generalize (demand S.A (ByteArray.mk #[59]) s4).1 = x5 at *
 generalize (demand S.A (ByteArray.mk #[59]) s4).2 = s5 at *
 clear h
 go_enter Tryz.func29, Tryz.ntmps29
 go_wp2_with (first
  | (go_at_call 63; refine (f5.out.callNode (by repeat (first | exact Below.refl _ _ | apply bl_drew | apply bl_alloc)) 3 s.at_ (Nat.le_succ _) x3).mono ?_; rintro e w6 ⟨rfl, g⟩; have f6 := Lib.hid g; clear g; obtain ⟨z0, z1, z2, z3, z4, z5⟩ := f6.out.fin.cells)
  | (go_at_call 67; refine (f4.out.callRowS rfl w4.heap.size 1 rfl rfl (by simp) (h5.out _ _)).mono ?_; rintro e w5 ⟨lv5, rfl, g⟩; have f5 := Lib.hid g; clear g)
  | (go_at_call 65; refine (f3.out.callN (by repeat (first | exact Below.refl _ _ | apply bl_drew | apply bl_alloc)) (h4.out _ _)).mono ?_; rintro e w4 ⟨lv4, nk4, nt4, na4, ne4, nao4, ncap4, nks4, rfl, g⟩; have f4 := Lib.hid g; clear g)
  | (go_at_call 64; refine (f2.out.callS (by repeat (first | exact Below.refl _ _ | apply bl_drew | apply bl_alloc)) (h3.out _ _)).mono ?_; rintro e w3 ⟨lv3, rfl, g⟩; have f3 := Lib.hid g; clear g)
  | (go_at_call 62; refine (f1.out.callS (by repeat (first | exact Below.refl _ _ | apply bl_drew | apply bl_alloc)) (h2.out _ _)).mono ?_; rintro e w2 ⟨lv2, rfl, g⟩; have f2 := Lib.hid (g.rebase (s1 := { s with at_ := s.at_ + 1 }) (by have := hnx2.out; simp only; omega)); clear g)
  | (go_at_call 61; refine (f0.out.callB (by repeat (first | exact Below.refl _ _ | apply bl_drew | apply bl_alloc)) (h1.out _ _)).mono ?_; rintro e w1 ⟨rfl, g⟩; have f1 := Lib.hid g; clear g; obtain ⟨_, _, cat1, _⟩ := f1.out.pin.cell))
 refine bodyPost_ret (v := .agg #[.int .i64 3, .string x3, .int .i64 (S.at_ s.at_ s5.at_), .int .i64 (S.last s5.at_), .slice (some ⟨w4.heap.size, 0, none⟩) 1 1]) (by simp [results, Tryz.results29, go_sem, z0, z1, z2, z3, z4] <;> rfl) rfl ?_
 rw [hm.out]
 exact f6.out.end_ (kept5 _ _ _ _ _ _ _) 3 s.at_ x3
set_option maxRecDepth 100000 in
set_option maxHeartbeats 2000000 in
theorem decl_relation {w : World} {P : Nat} {tv lv : Value} {S : Src} {s : Ps} (h : PIn w P tv lv S s) (c1 : Hid (declares S.A s = true)) (c2 : Hid ((next S.A s).1 = (ByteArray.mk #[114, 101, 108, 97, 116, 105, 111, 110]))) :
 Calls Tryz.prog 29 #[.pointer (some ⟨P, 0, none⟩)] w (NEnd w P tv lv S { s with at_ := s.at_ + 1 } (declaration S.A s)) := by
 have f0 := Lib.hid (FIn.start h)
 have hP := lt_of_block h.box
 have hm0 : declaration S.A s = (node 4 s.at_ ((name S.A (next S.A s).2).1) [(columns S.A (name S.A (next S.A s).2).2).1] (demand S.A (ByteArray.mk #[59]) (columns S.A (name S.A (next S.A s).2).2).2).2, (demand S.A (ByteArray.mk #[59]) (columns S.A (name S.A (next S.A s).2).2).2).2) := by
  rw [declaration]
  simp (decide := true) only [c1.out, c2.out, if_true, if_false, Bool.false_eq_true, Bool.true_eq_false, reduceIte, Nat.reduceEqDiff]
 have hm := Lib.hid hm0
 clear hm0
 generalize declaration S.A s = m at *
 have h1 := Lib.hid (fun (W : World) (lvq : Value) (q : PIn W P tv lvq S s) => declares_b q c1.out)
 have h2 := Lib.hid (fun (W : World) (lvq : Value) (q : PIn W P tv lvq S s) => next_is q (isB_kind c1.out) (ByteArray.mk #[114, 101, 108, 97, 116, 105, 111, 110]) c2.out)
 have hnx2 : Hid ((next S.A s).2.at_ = s.at_ + 1) := rfl
 generalize (next S.A s).2 = s2 at *
 have h3 := Lib.hid (fun (W : World) (lvq : Value) (q : PIn W P tv lvq S s2) => name_walk q)
 generalize (name S.A s2).1 = x3 at *
 generalize (name S.A s2).2 = s3 at *
 have h4 := Lib.hid (fun (W : World) (lvq : Value) (q : PIn W P tv lvq S s3) => columns_walk q)
 generalize columns S.A s3 = k4 at *
 obtain ⟨kk4, s4⟩ := k4
 have h5 := Lib.hid (fun (W : World) (lvq : Value) (q : PIn W P tv lvq S s4) => demand_walk q (ByteArray.mk #[59]) (by decide))
 generalize (demand S.A (ByteArray.mk #[59]) s4).1 = x5 at *
 generalize (demand S.A (ByteArray.mk #[59]) s4).2 = s5 at *
 clear h
 go_enter Tryz.func29, Tryz.ntmps29
 go_wp2_with (first
  | (go_at_call 63; refine (f5.out.callNode (by repeat (first | exact Below.refl _ _ | apply bl_drew | apply bl_alloc)) 4 s.at_ (Nat.le_succ _) x3).mono ?_; rintro e w6 ⟨rfl, g⟩; have f6 := Lib.hid g; clear g; obtain ⟨z0, z1, z2, z3, z4, z5⟩ := f6.out.fin.cells)
  | (go_at_call 67; refine (f4.out.callRowS rfl w4.heap.size 1 rfl rfl (by simp) (h5.out _ _)).mono ?_; rintro e w5 ⟨lv5, rfl, g⟩; have f5 := Lib.hid g; clear g)
  | (go_at_call 66; refine (f3.out.callN (by repeat (first | exact Below.refl _ _ | apply bl_drew | apply bl_alloc)) (h4.out _ _)).mono ?_; rintro e w4 ⟨lv4, nk4, nt4, na4, ne4, nao4, ncap4, nks4, rfl, g⟩; have f4 := Lib.hid g; clear g)
  | (go_at_call 64; refine (f2.out.callS (by repeat (first | exact Below.refl _ _ | apply bl_drew | apply bl_alloc)) (h3.out _ _)).mono ?_; rintro e w3 ⟨lv3, rfl, g⟩; have f3 := Lib.hid g; clear g)
  | (go_at_call 62; refine (f1.out.callS (by repeat (first | exact Below.refl _ _ | apply bl_drew | apply bl_alloc)) (h2.out _ _)).mono ?_; rintro e w2 ⟨lv2, rfl, g⟩; have f2 := Lib.hid (g.rebase (s1 := { s with at_ := s.at_ + 1 }) (by have := hnx2.out; simp only; omega)); clear g)
  | (go_at_call 61; refine (f0.out.callB (by repeat (first | exact Below.refl _ _ | apply bl_drew | apply bl_alloc)) (h1.out _ _)).mono ?_; rintro e w1 ⟨rfl, g⟩; have f1 := Lib.hid g; clear g; obtain ⟨_, _, cat1, _⟩ := f1.out.pin.cell))
 refine bodyPost_ret (v := .agg #[.int .i64 4, .string x3, .int .i64 (S.at_ s.at_ s5.at_), .int .i64 (S.last s5.at_), .slice (some ⟨w4.heap.size, 0, none⟩) 1 1]) (by simp [results, Tryz.results29, go_sem, z0, z1, z2, z3, z4] <;> rfl) rfl ?_
 rw [hm.out]
 exact f6.out.end_ (kept5 _ _ _ _ _ _ _) 4 s.at_ x3
set_option maxRecDepth 100000 in
set_option maxHeartbeats 2000000 in
theorem decl_invariant {w : World} {P : Nat} {tv lv : Value} {S : Src} {s : Ps} (h : PIn w P tv lv S s) (c1 : Hid (declares S.A s = true)) (c2 : Hid ((next S.A s).1 = (ByteArray.mk #[105, 110, 118, 97, 114, 105, 97, 110, 116]))) :
 Calls Tryz.prog 29 #[.pointer (some ⟨P, 0, none⟩)] w (NEnd w P tv lv S { s with at_ := s.at_ + 1 } (declaration S.A s)) := by
 have f0 := Lib.hid (FIn.start h)
 have hP := lt_of_block h.box
 have hm0 : declaration S.A s = (node 8 s.at_ ((name S.A (next S.A s).2).1) [(part S.A (demand S.A (ByteArray.mk #[58]) (name S.A (next S.A s).2).2).2).1] (demand S.A (ByteArray.mk #[59]) (part S.A (demand S.A (ByteArray.mk #[58]) (name S.A (next S.A s).2).2).2).2).2, (demand S.A (ByteArray.mk #[59]) (part S.A (demand S.A (ByteArray.mk #[58]) (name S.A (next S.A s).2).2).2).2).2) := by
  rw [declaration]
  simp (decide := true) only [c1.out, c2.out, if_true, if_false, Bool.false_eq_true, Bool.true_eq_false, reduceIte, Nat.reduceEqDiff]
 have hm := Lib.hid hm0
 clear hm0
 generalize declaration S.A s = m at *
 have h1 := Lib.hid (fun (W : World) (lvq : Value) (q : PIn W P tv lvq S s) => declares_b q c1.out)
 have h2 := Lib.hid (fun (W : World) (lvq : Value) (q : PIn W P tv lvq S s) => next_is q (isB_kind c1.out) (ByteArray.mk #[105, 110, 118, 97, 114, 105, 97, 110, 116]) c2.out)
 have hnx2 : Hid ((next S.A s).2.at_ = s.at_ + 1) := rfl
 generalize (next S.A s).2 = s2 at *
 have h3 := Lib.hid (fun (W : World) (lvq : Value) (q : PIn W P tv lvq S s2) => name_walk q)
 generalize (name S.A s2).1 = x3 at *
 generalize (name S.A s2).2 = s3 at *
 have h4 := Lib.hid (fun (W : World) (lvq : Value) (q : PIn W P tv lvq S s3) => demand_walk q (ByteArray.mk #[58]) (by decide))
 generalize (demand S.A (ByteArray.mk #[58]) s3).1 = x4 at *
 generalize (demand S.A (ByteArray.mk #[58]) s3).2 = s4 at *
 have h5 := Lib.hid (fun (W : World) (lvq : Value) (q : PIn W P tv lvq S s4) => part_walk q)
 generalize part S.A s4 = k5 at *
 obtain ⟨kk5, s5⟩ := k5
 have h6 := Lib.hid (fun (W : World) (lvq : Value) (q : PIn W P tv lvq S s5) => demand_walk q (ByteArray.mk #[59]) (by decide))
 generalize (demand S.A (ByteArray.mk #[59]) s5).1 = x6 at *
 generalize (demand S.A (ByteArray.mk #[59]) s5).2 = s6 at *
 clear h
 go_enter Tryz.func29, Tryz.ntmps29
 go_wp2_with (first
  | (go_at_call 63; refine (f6.out.callNode (by repeat (first | exact Below.refl _ _ | apply bl_drew | apply bl_alloc)) 8 s.at_ (Nat.le_succ _) x3).mono ?_; rintro e w7 ⟨rfl, g⟩; have f7 := Lib.hid g; clear g; obtain ⟨z0, z1, z2, z3, z4, z5⟩ := f7.out.fin.cells)
  | (go_at_call 67; refine (f5.out.callRowS rfl w5.heap.size 1 rfl rfl (by simp) (h6.out _ _)).mono ?_; rintro e w6 ⟨lv6, rfl, g⟩; have f6 := Lib.hid g; clear g)
  | (go_at_call 70; refine (f4.out.callN (by repeat (first | exact Below.refl _ _ | apply bl_drew | apply bl_alloc)) (h5.out _ _)).mono ?_; rintro e w5 ⟨lv5, nk5, nt5, na5, ne5, nao5, ncap5, nks5, rfl, g⟩; have f5 := Lib.hid g; clear g)
  | (go_at_call 67; refine (f3.out.callS (by repeat (first | exact Below.refl _ _ | apply bl_drew | apply bl_alloc)) (h4.out _ _)).mono ?_; rintro e w4 ⟨lv4, rfl, g⟩; have f4 := Lib.hid g; clear g)
  | (go_at_call 64; refine (f2.out.callS (by repeat (first | exact Below.refl _ _ | apply bl_drew | apply bl_alloc)) (h3.out _ _)).mono ?_; rintro e w3 ⟨lv3, rfl, g⟩; have f3 := Lib.hid g; clear g)
  | (go_at_call 62; refine (f1.out.callS (by repeat (first | exact Below.refl _ _ | apply bl_drew | apply bl_alloc)) (h2.out _ _)).mono ?_; rintro e w2 ⟨lv2, rfl, g⟩; have f2 := Lib.hid (g.rebase (s1 := { s with at_ := s.at_ + 1 }) (by have := hnx2.out; simp only; omega)); clear g)
  | (go_at_call 61; refine (f0.out.callB (by repeat (first | exact Below.refl _ _ | apply bl_drew | apply bl_alloc)) (h1.out _ _)).mono ?_; rintro e w1 ⟨rfl, g⟩; have f1 := Lib.hid g; clear g; obtain ⟨_, _, cat1, _⟩ := f1.out.pin.cell))
 refine bodyPost_ret (v := .agg #[.int .i64 8, .string x3, .int .i64 (S.at_ s.at_ s6.at_), .int .i64 (S.last s6.at_), .slice (some ⟨w5.heap.size, 0, none⟩) 1 1]) (by simp [results, Tryz.results29, go_sem, z0, z1, z2, z3, z4] <;> rfl) rfl ?_
 rw [hm.out]
 exact f7.out.end_ (kept5 _ _ _ _ _ _ _) 8 s.at_ x3
set_option maxRecDepth 100000 in
set_option maxHeartbeats 2000000 in
theorem decl_counter {w : World} {P : Nat} {tv lv : Value} {S : Src} {s : Ps} (h : PIn w P tv lv S s) (c1 : Hid (declares S.A s = true)) (c2 : Hid ((next S.A s).1 = (ByteArray.mk #[99, 111, 117, 110, 116, 101, 114]))) :
 Calls Tryz.prog 29 #[.pointer (some ⟨P, 0, none⟩)] w (NEnd w P tv lv S { s with at_ := s.at_ + 1 } (declaration S.A s)) := by
 have f0 := Lib.hid (FIn.start h)
 have hP := lt_of_block h.box
 have hm0 : declaration S.A s = (node 5 s.at_ ((name S.A (next S.A s).2).1) [(columns S.A (name S.A (next S.A s).2).2).1, (limits S.A (demand S.A (ByteArray.mk #[105, 110]) (columns S.A (name S.A (next S.A s).2).2).2).2).1] (demand S.A (ByteArray.mk #[59]) (limits S.A (demand S.A (ByteArray.mk #[105, 110]) (columns S.A (name S.A (next S.A s).2).2).2).2).2).2, (demand S.A (ByteArray.mk #[59]) (limits S.A (demand S.A (ByteArray.mk #[105, 110]) (columns S.A (name S.A (next S.A s).2).2).2).2).2).2) := by
  rw [declaration]
  simp (decide := true) only [c1.out, c2.out, if_true, if_false, Bool.false_eq_true, Bool.true_eq_false, reduceIte, Nat.reduceEqDiff]
 have hm := Lib.hid hm0
 clear hm0
 generalize declaration S.A s = m at *
 have h1 := Lib.hid (fun (W : World) (lvq : Value) (q : PIn W P tv lvq S s) => declares_b q c1.out)
 have h2 := Lib.hid (fun (W : World) (lvq : Value) (q : PIn W P tv lvq S s) => next_is q (isB_kind c1.out) (ByteArray.mk #[99, 111, 117, 110, 116, 101, 114]) c2.out)
 have hnx2 : Hid ((next S.A s).2.at_ = s.at_ + 1) := rfl
 generalize (next S.A s).2 = s2 at *
 have h3 := Lib.hid (fun (W : World) (lvq : Value) (q : PIn W P tv lvq S s2) => name_walk q)
 generalize (name S.A s2).1 = x3 at *
 generalize (name S.A s2).2 = s3 at *
 have h4 := Lib.hid (fun (W : World) (lvq : Value) (q : PIn W P tv lvq S s3) => columns_walk q)
 generalize columns S.A s3 = k4 at *
 obtain ⟨kk4, s4⟩ := k4
 have h5 := Lib.hid (fun (W : World) (lvq : Value) (q : PIn W P tv lvq S s4) => demand_walk q (ByteArray.mk #[105, 110]) (by decide))
 generalize (demand S.A (ByteArray.mk #[105, 110]) s4).1 = x5 at *
 generalize (demand S.A (ByteArray.mk #[105, 110]) s4).2 = s5 at *
 have h6 := Lib.hid (fun (W : World) (lvq : Value) (q : PIn W P tv lvq S s5) => limits_walk q)
 generalize limits S.A s5 = k6 at *
 obtain ⟨kk6, s6⟩ := k6
 have h7 := Lib.hid (fun (W : World) (lvq : Value) (q : PIn W P tv lvq S s6) => demand_walk q (ByteArray.mk #[59]) (by decide))
 generalize (demand S.A (ByteArray.mk #[59]) s6).1 = x7 at *
 generalize (demand S.A (ByteArray.mk #[59]) s6).2 = s7 at *
 clear h
 go_enter Tryz.func29, Tryz.ntmps29
 go_wp2_with (first
  | (go_at_call 67; refine ((f4.out.box1 nks4 rfl).callS (by repeat (first | exact Below.refl _ _ | apply bl_drew | apply bl_alloc)) (h5.out _ _)).mono ?_; rintro e w5 ⟨lv5, rfl, g⟩; have f5 := Lib.hid g; clear g)
  | (go_at_call 66; refine (f3.out.callN (by repeat (first | exact Below.refl _ _ | apply bl_drew | apply bl_alloc)) (h4.out _ _)).mono ?_; rintro e w4 ⟨lv4, nk4, nt4, na4, ne4, nao4, ncap4, nks4, rfl, g⟩; have f4 := Lib.hid g; clear g)
  | (go_at_call 64; refine (f2.out.callS (by repeat (first | exact Below.refl _ _ | apply bl_drew | apply bl_alloc)) (h3.out _ _)).mono ?_; rintro e w3 ⟨lv3, rfl, g⟩; have f3 := Lib.hid g; clear g)
  | (go_at_call 62; refine (f1.out.callS (by repeat (first | exact Below.refl _ _ | apply bl_drew | apply bl_alloc)) (h2.out _ _)).mono ?_; rintro e w2 ⟨lv2, rfl, g⟩; have f2 := Lib.hid (g.rebase (s1 := { s with at_ := s.at_ + 1 }) (by have := hnx2.out; simp only; omega)); clear g)
  | (go_at_call 61; refine (f0.out.callB (by repeat (first | exact Below.refl _ _ | apply bl_drew | apply bl_alloc)) (h1.out _ _)).mono ?_; rintro e w1 ⟨rfl, g⟩; have f1 := Lib.hid g; clear g; obtain ⟨_, _, cat1, _⟩ := f1.out.pin.cell))
 have fd := Lib.hid (f5.out.below (Below.refl _ _).drew)
 refine wp_region_held_drew (S := fun u => u.heap[w4.heap.size]? = some (.cells #[.int .i64 nk4, .string nt4, .int .i64 na4, .int .i64 ne4, .slice nao4 nks4.length ncap4] 25 (0, 0))) (by kernel_rfl) ?hS (fun hHeld => ?_)
 case hS => exact (fd.out.boxes _ (List.mem_of_getElem? (i := 0) rfl)).1
 refine tk (i := 0) (v := .agg #[.int .i64 nk4, .string nt4, .int .i64 na4, .int .i64 ne4, .slice nao4 nks4.length ncap4]) (hy := yieldsIf_load_mid (by rfl) _ _ rfl _ _ rfl [.int .i64 nk4, .string nt4, .int .i64 na4, .int .i64 ne4, .slice nao4 nks4.length ncap4] _ (fun _ h => rangeAt_whole h) Tryz.underlying25 rfl info_nds) rfl hHeld ?_
 try simp only [Act.put, kA, kB, kC, kD, kE, kF]
 refine tk (i := 1) (v := .pointer (some ⟨P, 0, none⟩)) rfl hHeld ?_
 try simp only [Act.put, kA, kB, kC, kD, kE, kF]
 refine wpAnyH_ready (rs := [2]) (by kernel_rfl) (by simp) ?_
 refine AllReadyH.cons rfl (fun K hK => ?_) AllReadyH.nil
 rw [if_pos (by rfl)]
 go_simp
 go_at_call 68
 refine (fd.out.callN (Below.refl _ _) (h6.out _ _)).mono ?_
 rintro e w6 ⟨lv6, nk6, nt6, na6, ne6, nao6, ncap6, nks6, rfl, g⟩
 have f6 := Lib.hid g
 clear g
 refine hK.out _ _ (f6.out.boxes _ (List.mem_of_getElem? (i := 0) rfl)).1 (fun hHeld => ?_)
 clear hK K
 try simp only [Act.put, kA, kB, kC, kD, kE, kF]
 refine tk (i := 4) (v := .int .i64 5) rfl hHeld ?_
 try simp only [Act.put, kA, kB, kC, kD, kE, kF]
 refine wpAnyH_ready (rs := [3]) (by kernel_rfl) (by simp) ?_
 refine AllReadyH.cons rfl (fun K hK => ?_) AllReadyH.nil
 rw [if_pos (by rfl)]
 go_simp
 refine hK.out _ _ ((f6.out.below ((Below.refl _ _).alloc (Nat.le_refl _) _)).boxes _ (List.mem_of_getElem? (i := 0) rfl)).1 (fun hHeld => ?_)
 clear hK K
 try simp only [Act.put, kA, kB, kC, kD, kE, kF]
 refine tk (i := 5) (v := .slice (some ⟨w6.heap.size, 0, none⟩) 2 2) rfl hHeld ?_
 try simp only [Act.put, kA, kB, kC, kD, kE, kF]
 refine wpAnyH_done (by kernel_rfl) ?_ _
 clear hHeld
 go_wp2_with (first
  | (go_at_call 63; refine (f7.out.callNode (by repeat (first | exact Below.refl _ _ | apply bl_drew | apply bl_alloc)) 5 s.at_ (Nat.le_succ _) x3).mono ?_; rintro e w8 ⟨rfl, g⟩; have f8 := Lib.hid g; clear g; obtain ⟨z0, z1, z2, z3, z4, z5⟩ := f8.out.fin.cells)
  | (go_at_call 67; refine (f6.out.callRowS rfl w6.heap.size 2 rfl rfl (by simp) (h7.out _ _)).mono ?_; rintro e w7 ⟨lv7, rfl, g⟩; have f7 := Lib.hid g; clear g))
 refine bodyPost_ret (v := .agg #[.int .i64 5, .string x3, .int .i64 (S.at_ s.at_ s7.at_), .int .i64 (S.last s7.at_), .slice (some ⟨w6.heap.size, 0, none⟩) 2 2]) (by simp [results, Tryz.results29, go_sem, z0, z1, z2, z3, z4] <;> rfl) rfl ?_
 rw [hm.out]
 exact f8.out.end_ (kept5 _ _ _ _ _ _ _) 5 s.at_ x3
end Go.Proofs.YthggagophcnkfaaGreatDoor.px
namespace Go.Proofs.YthggagophcnkfaaGreatDoor.px
open Go.RowKit Go.Proofs.YthggagophcnkfaaGreatDoor.agg Go.Proofs.YthggagophcnkfaaGreatDoor.sx
set_option linter.unusedSimpArgs false
set_option linter.unusedVariables false
set_option maxRecDepth 100000 in
set_option maxHeartbeats 2000000 in
theorem decl_set {w : World} {P : Nat} {tv lv : Value} {S : Src} {s : Ps} (h : PIn w P tv lv S s) (c1 : Hid (declares S.A s = true)) (c2 : Hid ((next S.A s).1 = (ByteArray.mk #[115, 101, 116]))) :
 Calls Tryz.prog 29 #[.pointer (some ⟨P, 0, none⟩)] w (NEnd w P tv lv S { s with at_ := s.at_ + 1 } (declaration S.A s)) := by
 have f0 := Lib.hid (FIn.start h)
 have hP := lt_of_block h.box
 have hm0 : declaration S.A s = (node 6 s.at_ ((name S.A (next S.A s).2).1) [(columns S.A (name S.A (next S.A s).2).2).1, (chosen S.A [(ByteArray.mk #[97, 100, 100, 119, 105, 110, 115]), (ByteArray.mk #[114, 101, 109, 111, 118, 101, 119, 105, 110, 115])] (columns S.A (name S.A (next S.A s).2).2).2).1] (demand S.A (ByteArray.mk #[59]) (chosen S.A [(ByteArray.mk #[97, 100, 100, 119, 105, 110, 115]), (ByteArray.mk #[114, 101, 109, 111, 118, 101, 119, 105, 110, 115])] (columns S.A (name S.A (next S.A s).2).2).2).2).2, (demand S.A (ByteArray.mk #[59]) (chosen S.A [(ByteArray.mk #[97, 100, 100, 119, 105, 110, 115]), (ByteArray.mk #[114, 101, 109, 111, 118, 101, 119, 105, 110, 115])] (columns S.A (name S.A (next S.A s).2).2).2).2).2) := by
  rw [declaration]
  simp (decide := true) only [c1.out, c2.out, if_true, if_false, Bool.false_eq_true, Bool.true_eq_false, reduceIte, Nat.reduceEqDiff]
 have hm := Lib.hid hm0
 clear hm0
 generalize declaration S.A s = m at *
 have h1 := Lib.hid (fun (W : World) (lvq : Value) (q : PIn W P tv lvq S s) => declares_b q c1.out)
 have h2 := Lib.hid (fun (W : World) (lvq : Value) (q : PIn W P tv lvq S s) => next_is q (isB_kind c1.out) (ByteArray.mk #[115, 101, 116]) c2.out)
 have hnx2 : Hid ((next S.A s).2.at_ = s.at_ + 1) := rfl
 generalize (next S.A s).2 = s2 at *
 have h3 := Lib.hid (fun (W : World) (lvq : Value) (q : PIn W P tv lvq S s2) => name_walk q)
 generalize (name S.A s2).1 = x3 at *
 generalize (name S.A s2).2 = s3 at *
 have h4 := Lib.hid (fun (W : World) (lvq : Value) (q : PIn W P tv lvq S s3) => columns_walk q)
 generalize columns S.A s3 = k4 at *
 obtain ⟨kk4, s4⟩ := k4
 generalize hk5 : chosen S.A [(ByteArray.mk #[97, 100, 100, 119, 105, 110, 115]), (ByteArray.mk #[114, 101, 109, 111, 118, 101, 119, 105, 110, 115])] s4 = k5 at *
 obtain ⟨kk5, s5⟩ := k5
 have hk5 := Lib.hid hk5
 have h6 := Lib.hid (fun (W : World) (lvq : Value) (q : PIn W P tv lvq S s5) => demand_walk q (ByteArray.mk #[59]) (by decide))
 generalize (demand S.A (ByteArray.mk #[59]) s5).1 = x6 at *
 generalize (demand S.A (ByteArray.mk #[59]) s5).2 = s6 at *
 clear h
 go_enter Tryz.func29, Tryz.ntmps29
 go_wp2_with (first
  | (go_at_call 66; refine (f3.out.callN (by repeat (first | exact Below.refl _ _ | apply bl_drew | apply bl_alloc)) (h4.out _ _)).mono ?_; rintro e w4 ⟨lv4, nk4, nt4, na4, ne4, nao4, ncap4, nks4, rfl, g⟩; have f4 := Lib.hid g; clear g)
  | (go_at_call 64; refine (f2.out.callS (by repeat (first | exact Below.refl _ _ | apply bl_drew | apply bl_alloc)) (h3.out _ _)).mono ?_; rintro e w3 ⟨lv3, rfl, g⟩; have f3 := Lib.hid g; clear g)
  | (go_at_call 62; refine (f1.out.callS (by repeat (first | exact Below.refl _ _ | apply bl_drew | apply bl_alloc)) (h2.out _ _)).mono ?_; rintro e w2 ⟨lv2, rfl, g⟩; have f2 := Lib.hid (g.rebase (s1 := { s with at_ := s.at_ + 1 }) (by have := hnx2.out; simp only; omega)); clear g)
  | (go_at_call 61; refine (f0.out.callB (by repeat (first | exact Below.refl _ _ | apply bl_drew | apply bl_alloc)) (h1.out _ _)).mono ?_; rintro e w1 ⟨rfl, g⟩; have f1 := Lib.hid g; clear g; obtain ⟨_, _, cat1, _⟩ := f1.out.pin.cell))
 have fd := Lib.hid ((f4.out.box1 (k := nk4) (t := nt4) (a := na4) (e := ne4) (v := .slice nao4 nks4.length ncap4) nks4 rfl).below (Below.refl _ _).drew)
 refine wp_region_held_drew (S := fun u => u.heap[w4.heap.size]? = some (.cells #[.int .i64 nk4, .string nt4, .int .i64 na4, .int .i64 ne4, .slice nao4 nks4.length ncap4] 25 (0, 0))) (by kernel_rfl) ?hS (fun hHeld => ?_)
 case hS => exact (fd.out.boxes _ (List.mem_of_getElem? (i := 0) rfl)).1
 refine tk (i := 0) (v := .agg #[.int .i64 nk4, .string nt4, .int .i64 na4, .int .i64 ne4, .slice nao4 nks4.length ncap4]) (hy := yieldsIf_load_mid (by rfl) _ _ rfl _ _ rfl [.int .i64 nk4, .string nt4, .int .i64 na4, .int .i64 ne4, .slice nao4 nks4.length ncap4] _ (fun _ h => rangeAt_whole h) Tryz.underlying25 rfl info_nds) rfl hHeld ?_
 try simp only [Act.put, kA, kB, kC, kD, kE, kF]
 refine tk (i := 1) (v := .pointer (some ⟨P, 0, none⟩)) rfl hHeld ?_
 try simp only [Act.put, kA, kB, kC, kD, kE, kF]
 refine wpAnyH_ready (rs := [2]) (by kernel_rfl) (by simp) ?_
 refine AllReadyH.cons rfl (fun K hK => ?_) AllReadyH.nil
 rw [if_pos (by rfl)]
 go_simp
 refine hK.out _ _ ((fd.out.below ((Below.refl _ _).alloc (Nat.le_refl _) _)).boxes _ (List.mem_of_getElem? (i := 0) rfl)).1 (fun hHeld => ?_)
 clear hK K
 try simp only [Act.put, kA, kB, kC, kD, kE, kF]
 refine wpAnyH_ready (rs := [3]) (by kernel_rfl) (by simp) ?_
 refine AllReadyH.cons rfl (fun K hK => ?_) AllReadyH.nil
 rw [if_pos (by rfl)]
 go_simp
 go_at_call 69
 refine ((f4.out.box1 (k := nk4) (t := nt4) (a := na4) (e := ne4) (v := .slice nao4 nks4.length ncap4) nks4 rfl).callChD (by simp) [(ByteArray.mk #[97, 100, 100, 119, 105, 110, 115]), (ByteArray.mk #[114, 101, 109, 111, 118, 101, 119, 105, 110, 115])] rfl (by decide) (by decide) (by decide) rfl).mono ?_
 rintro e w5 ⟨lv5, nk5, nt5, na5, ne5, nao5, ncap5, nks5, rfl, g⟩
 rw [hk5.out] at g
 have f5 := Lib.hid g
 clear g
 refine hK.out _ _ (f5.out.boxes _ (List.mem_of_getElem? (i := 0) rfl)).1 (fun hHeld => ?_)
 clear hK K
 try simp only [Act.put, kA, kB, kC, kD, kE, kF]
 refine tk (i := 5) (v := .int .i64 6) rfl hHeld ?_
 try simp only [Act.put, kA, kB, kC, kD, kE, kF]
 refine wpAnyH_ready (rs := [4]) (by kernel_rfl) (by simp) ?_
 refine AllReadyH.cons rfl (fun K hK => ?_) AllReadyH.nil
 rw [if_pos (by rfl)]
 go_simp
 refine hK.out _ _ ((f5.out.below ((Below.refl _ _).alloc (Nat.le_refl _) _)).boxes _ (List.mem_of_getElem? (i := 0) rfl)).1 (fun hHeld => ?_)
 clear hK K
 try simp only [Act.put, kA, kB, kC, kD, kE, kF]
 refine tk (i := 6) (v := .slice (some ⟨w5.heap.size, 0, none⟩) 2 2) rfl hHeld ?_
 try simp only [Act.put, kA, kB, kC, kD, kE, kF]
 refine wpAnyH_done (by kernel_rfl) ?_ _
 clear hHeld
 go_wp2_with (first
  | (go_at_call 63; refine (f6.out.callNode (by repeat (first | exact Below.refl _ _ | apply bl_drew | apply bl_alloc)) 6 s.at_ (Nat.le_succ _) x3).mono ?_; rintro e w7 ⟨rfl, g⟩; have f7 := Lib.hid g; clear g; obtain ⟨z0, z1, z2, z3, z4, z5⟩ := f7.out.fin.cells)
  | (go_at_call 67; refine (f5.out.callRowS rfl w5.heap.size 2 rfl rfl (by simp) (h6.out _ _)).mono ?_; rintro e w6 ⟨lv6, rfl, g⟩; have f6 := Lib.hid g; clear g))
 refine bodyPost_ret (v := .agg #[.int .i64 6, .string x3, .int .i64 (S.at_ s.at_ s6.at_), .int .i64 (S.last s6.at_), .slice (some ⟨w5.heap.size, 0, none⟩) 2 2]) (by simp [results, Tryz.results29, go_sem, z0, z1, z2, z3, z4] <;> rfl) rfl ?_
 rw [hm.out]
 exact f7.out.end_ (kept5 _ _ _ _ _ _ _) 6 s.at_ x3
set_option maxRecDepth 100000 in
set_option maxHeartbeats 2000000 in
theorem decl_register {w : World} {P : Nat} {tv lv : Value} {S : Src} {s : Ps} (h : PIn w P tv lv S s) (c1 : Hid (declares S.A s = true)) (c2 : Hid ((next S.A s).1 = (ByteArray.mk #[114, 101, 103, 105, 115, 116, 101, 114]))) :
 Calls Tryz.prog 29 #[.pointer (some ⟨P, 0, none⟩)] w (NEnd w P tv lv S { s with at_ := s.at_ + 1 } (declaration S.A s)) := by
 have f0 := Lib.hid (FIn.start h)
 have hP := lt_of_block h.box
 have hm0 : declaration S.A s = (node 7 s.at_ ((name S.A (next S.A s).2).1) [(columns S.A (name S.A (next S.A s).2).2).1, (limits S.A (demand S.A (ByteArray.mk #[105, 110]) (columns S.A (name S.A (next S.A s).2).2).2).2).1, (chosen S.A [(ByteArray.mk #[108, 97, 115, 116]), (ByteArray.mk #[109, 117, 108, 116, 105])] (limits S.A (demand S.A (ByteArray.mk #[105, 110]) (columns S.A (name S.A (next S.A s).2).2).2).2).2).1] (demand S.A (ByteArray.mk #[59]) (chosen S.A [(ByteArray.mk #[108, 97, 115, 116]), (ByteArray.mk #[109, 117, 108, 116, 105])] (limits S.A (demand S.A (ByteArray.mk #[105, 110]) (columns S.A (name S.A (next S.A s).2).2).2).2).2).2).2, (demand S.A (ByteArray.mk #[59]) (chosen S.A [(ByteArray.mk #[108, 97, 115, 116]), (ByteArray.mk #[109, 117, 108, 116, 105])] (limits S.A (demand S.A (ByteArray.mk #[105, 110]) (columns S.A (name S.A (next S.A s).2).2).2).2).2).2).2) := by
  rw [declaration]
  simp (decide := true) only [c1.out, c2.out, if_true, if_false, Bool.false_eq_true, Bool.true_eq_false, reduceIte, Nat.reduceEqDiff]
 have hm := Lib.hid hm0
 clear hm0
 generalize declaration S.A s = m at *
 have h1 := Lib.hid (fun (W : World) (lvq : Value) (q : PIn W P tv lvq S s) => declares_b q c1.out)
 have h2 := Lib.hid (fun (W : World) (lvq : Value) (q : PIn W P tv lvq S s) => next_is q (isB_kind c1.out) (ByteArray.mk #[114, 101, 103, 105, 115, 116, 101, 114]) c2.out)
 have hnx2 : Hid ((next S.A s).2.at_ = s.at_ + 1) := rfl
 generalize (next S.A s).2 = s2 at *
 have h3 := Lib.hid (fun (W : World) (lvq : Value) (q : PIn W P tv lvq S s2) => name_walk q)
 generalize (name S.A s2).1 = x3 at *
 generalize (name S.A s2).2 = s3 at *
 have h4 := Lib.hid (fun (W : World) (lvq : Value) (q : PIn W P tv lvq S s3) => columns_walk q)
 generalize columns S.A s3 = k4 at *
 obtain ⟨kk4, s4⟩ := k4
 have h5 := Lib.hid (fun (W : World) (lvq : Value) (q : PIn W P tv lvq S s4) => demand_walk q (ByteArray.mk #[105, 110]) (by decide))
 generalize (demand S.A (ByteArray.mk #[105, 110]) s4).1 = x5 at *
 generalize (demand S.A (ByteArray.mk #[105, 110]) s4).2 = s5 at *
 have h6 := Lib.hid (fun (W : World) (lvq : Value) (q : PIn W P tv lvq S s5) => limits_walk q)
 generalize limits S.A s5 = k6 at *
 obtain ⟨kk6, s6⟩ := k6
 generalize hk7 : chosen S.A [(ByteArray.mk #[108, 97, 115, 116]), (ByteArray.mk #[109, 117, 108, 116, 105])] s6 = k7 at *
 obtain ⟨kk7, s7⟩ := k7
 have hk7 := Lib.hid hk7
 have h8 := Lib.hid (fun (W : World) (lvq : Value) (q : PIn W P tv lvq S s7) => demand_walk q (ByteArray.mk #[59]) (by decide))
 generalize (demand S.A (ByteArray.mk #[59]) s7).1 = x8 at *
 generalize (demand S.A (ByteArray.mk #[59]) s7).2 = s8 at *
 clear h
 go_enter Tryz.func29, Tryz.ntmps29
 go_wp2_with (first
  | (go_at_call 68; refine (f5.out.callN (by repeat (first | exact Below.refl _ _ | apply bl_drew | apply bl_alloc)) (h6.out _ _)).mono ?_; rintro e w6 ⟨lv6, nk6, nt6, na6, ne6, nao6, ncap6, nks6, rfl, g⟩; have f6 := Lib.hid g; clear g)
  | (go_at_call 67; refine ((f4.out.box1 nks4 rfl).callS (by repeat (first | exact Below.refl _ _ | apply bl_drew | apply bl_alloc)) (h5.out _ _)).mono ?_; rintro e w5 ⟨lv5, rfl, g⟩; have f5 := Lib.hid g; clear g)
  | (go_at_call 66; refine (f3.out.callN (by repeat (first | exact Below.refl _ _ | apply bl_drew | apply bl_alloc)) (h4.out _ _)).mono ?_; rintro e w4 ⟨lv4, nk4, nt4, na4, ne4, nao4, ncap4, nks4, rfl, g⟩; have f4 := Lib.hid g; clear g)
  | (go_at_call 64; refine (f2.out.callS (by repeat (first | exact Below.refl _ _ | apply bl_drew | apply bl_alloc)) (h3.out _ _)).mono ?_; rintro e w3 ⟨lv3, rfl, g⟩; have f3 := Lib.hid g; clear g)
  | (go_at_call 62; refine (f1.out.callS (by repeat (first | exact Below.refl _ _ | apply bl_drew | apply bl_alloc)) (h2.out _ _)).mono ?_; rintro e w2 ⟨lv2, rfl, g⟩; have f2 := Lib.hid (g.rebase (s1 := { s with at_ := s.at_ + 1 }) (by have := hnx2.out; simp only; omega)); clear g)
  | (go_at_call 61; refine (f0.out.callB (by repeat (first | exact Below.refl _ _ | apply bl_drew | apply bl_alloc)) (h1.out _ _)).mono ?_; rintro e w1 ⟨rfl, g⟩; have f1 := Lib.hid g; clear g; obtain ⟨_, _, cat1, _⟩ := f1.out.pin.cell))
 have fd := Lib.hid ((f6.out.box1 (k := nk6) (t := nt6) (a := na6) (e := ne6) (v := .slice nao6 nks6.length ncap6) nks6 rfl).below (Below.refl _ _).drew)
 refine wp_region_held_drew (S := fun u => u.heap[w4.heap.size]? = some (.cells #[.int .i64 nk4, .string nt4, .int .i64 na4, .int .i64 ne4, .slice nao4 nks4.length ncap4] 25 (0, 0)) ∧ u.heap[w6.heap.size]? = some (.cells #[.int .i64 nk6, .string nt6, .int .i64 na6, .int .i64 ne6, .slice nao6 nks6.length ncap6] 25 (0, 0))) (by kernel_rfl) ?hS (fun hHeld => ?_)
 case hS => exact ⟨(fd.out.boxes _ (List.mem_of_getElem? (i := 0) rfl)).1, (fd.out.boxes _ (List.mem_of_getElem? (i := 1) rfl)).1⟩
 refine tk (i := 0) (v := .agg #[.int .i64 nk4, .string nt4, .int .i64 na4, .int .i64 ne4, .slice nao4 nks4.length ncap4]) (hy := yieldsIf_load_mid (by rfl) _ _ rfl _ _ rfl [.int .i64 nk4, .string nt4, .int .i64 na4, .int .i64 ne4, .slice nao4 nks4.length ncap4] _ (fun _ h => rangeAt_whole h.1) Tryz.underlying25 rfl info_nds) rfl hHeld ?_
 try simp only [Act.put, kA, kB, kC, kD, kE, kF]
 refine tk (i := 1) (v := .agg #[.int .i64 nk6, .string nt6, .int .i64 na6, .int .i64 ne6, .slice nao6 nks6.length ncap6]) (hy := yieldsIf_load_mid (by rfl) _ _ rfl _ _ rfl [.int .i64 nk6, .string nt6, .int .i64 na6, .int .i64 ne6, .slice nao6 nks6.length ncap6] _ (fun _ h => rangeAt_whole h.2) Tryz.underlying25 rfl info_nds) rfl hHeld ?_
 try simp only [Act.put, kA, kB, kC, kD, kE, kF]
 refine tk (i := 2) (v := .pointer (some ⟨P, 0, none⟩)) rfl hHeld ?_
 try simp only [Act.put, kA, kB, kC, kD, kE, kF]
 refine wpAnyH_ready (rs := [3]) (by kernel_rfl) (by simp) ?_
 refine AllReadyH.cons rfl (fun K hK => ?_) AllReadyH.nil
 rw [if_pos (by rfl)]
 go_simp
 refine hK.out _ _ ⟨((fd.out.below ((Below.refl _ _).alloc (Nat.le_refl _) _)).boxes _ (List.mem_of_getElem? (i := 0) rfl)).1, ((fd.out.below ((Below.refl _ _).alloc (Nat.le_refl _) _)).boxes _ (List.mem_of_getElem? (i := 1) rfl)).1⟩ (fun hHeld => ?_)
 clear hK K
 try simp only [Act.put, kA, kB, kC, kD, kE, kF]
 refine wpAnyH_ready (rs := [4]) (by kernel_rfl) (by simp) ?_
 refine AllReadyH.cons rfl (fun K hK => ?_) AllReadyH.nil
 rw [if_pos (by rfl)]
 go_simp
 go_at_call 69
 refine ((f6.out.box1 (k := nk6) (t := nt6) (a := na6) (e := ne6) (v := .slice nao6 nks6.length ncap6) nks6 rfl).callChD (by simp) [(ByteArray.mk #[108, 97, 115, 116]), (ByteArray.mk #[109, 117, 108, 116, 105])] rfl (by decide) (by decide) (by decide) rfl).mono ?_
 rintro e w7 ⟨lv7, nk7, nt7, na7, ne7, nao7, ncap7, nks7, rfl, g⟩
 rw [hk7.out] at g
 have f7 := Lib.hid g
 clear g
 refine hK.out _ _ ⟨(f7.out.boxes _ (List.mem_of_getElem? (i := 0) rfl)).1, (f7.out.boxes _ (List.mem_of_getElem? (i := 1) rfl)).1⟩ (fun hHeld => ?_)
 clear hK K
 try simp only [Act.put, kA, kB, kC, kD, kE, kF]
 refine tk (i := 6) (v := .int .i64 7) rfl hHeld ?_
 try simp only [Act.put, kA, kB, kC, kD, kE, kF]
 refine wpAnyH_ready (rs := [5]) (by kernel_rfl) (by simp) ?_
 refine AllReadyH.cons rfl (fun K hK => ?_) AllReadyH.nil
 rw [if_pos (by rfl)]
 go_simp
 refine hK.out _ _ ⟨((f7.out.below ((Below.refl _ _).alloc (Nat.le_refl _) _)).boxes _ (List.mem_of_getElem? (i := 0) rfl)).1, ((f7.out.below ((Below.refl _ _).alloc (Nat.le_refl _) _)).boxes _ (List.mem_of_getElem? (i := 1) rfl)).1⟩ (fun hHeld => ?_)
 clear hK K
 try simp only [Act.put, kA, kB, kC, kD, kE, kF]
 refine tk (i := 7) (v := .slice (some ⟨w7.heap.size, 0, none⟩) 3 3) rfl hHeld ?_
 try simp only [Act.put, kA, kB, kC, kD, kE, kF]
 refine wpAnyH_done (by kernel_rfl) ?_ _
 clear hHeld
 go_wp2_with (first
  | (go_at_call 63; refine (f8.out.callNode (by repeat (first | exact Below.refl _ _ | apply bl_drew | apply bl_alloc)) 7 s.at_ (Nat.le_succ _) x3).mono ?_; rintro e w9 ⟨rfl, g⟩; have f9 := Lib.hid g; clear g; obtain ⟨z0, z1, z2, z3, z4, z5⟩ := f9.out.fin.cells)
  | (go_at_call 67; refine (f7.out.callRowS rfl w7.heap.size 3 rfl rfl (by simp) (h8.out _ _)).mono ?_; rintro e w8 ⟨lv8, rfl, g⟩; have f8 := Lib.hid g; clear g))
 refine bodyPost_ret (v := .agg #[.int .i64 7, .string x3, .int .i64 (S.at_ s.at_ s8.at_), .int .i64 (S.last s8.at_), .slice (some ⟨w7.heap.size, 0, none⟩) 3 3]) (by simp [results, Tryz.results29, go_sem, z0, z1, z2, z3, z4] <;> rfl) rfl ?_
 rw [hm.out]
 exact f9.out.end_ (kept5 _ _ _ _ _ _ _) 7 s.at_ x3
end Go.Proofs.YthggagophcnkfaaGreatDoor.px
namespace Go.Proofs.YthggagophcnkfaaGreatDoor.px
open Go.RowKit Go.Proofs.YthggagophcnkfaaGreatDoor.agg Go.Proofs.YthggagophcnkfaaGreatDoor.sx
set_option linter.unusedSimpArgs false
set_option linter.unusedVariables false
theorem enters_pparameter : ∀ args w, (callFunc 72 args).run Tryz.prog w = .ok (.enter 72 args) w := fun _ _ => by kernel_rfl
theorem fn_parameter (P : Nat) (tv : Value) (S : Src) : FnM P tv S 72 (parameter S.A) (S.L.length + 1) := ⟨enters_pparameter, fun _ _ _ q _ => parameter_walk q⟩
set_option maxRecDepth 100000 in
set_option maxHeartbeats 2000000 in
theorem decl_operation {w : World} {P : Nat} {tv lv : Value} {S : Src} {s : Ps} (h : PIn w P tv lv S s) (c1 : Hid (declares S.A s = true)) (c2 : Hid ((next S.A s).1 = (ByteArray.mk #[111, 112, 101, 114, 97, 116, 105, 111, 110]))) :
 Calls Tryz.prog 29 #[.pointer (some ⟨P, 0, none⟩)] w (NEnd w P tv lv S { s with at_ := s.at_ + 1 } (declaration S.A s)) := by
 have f0 := Lib.hid (FIn.start h)
 have hP := lt_of_block h.box
 have hm0 : declaration S.A s = (node 9 s.at_ ((name S.A (next S.A s).2).1) [(list1 S.A 23 (parameter S.A) (name S.A (next S.A s).2).2).1, (maybe S.A (ByteArray.mk #[111, 114, 100, 101, 114, 101, 100]) (list1 S.A 23 (parameter S.A) (name S.A (next S.A s).2).2).2).1, (block S.A (statement S.A) (maybe S.A (ByteArray.mk #[111, 114, 100, 101, 114, 101, 100]) (list1 S.A 23 (parameter S.A) (name S.A (next S.A s).2).2).2).2).1] (block S.A (statement S.A) (maybe S.A (ByteArray.mk #[111, 114, 100, 101, 114, 101, 100]) (list1 S.A 23 (parameter S.A) (name S.A (next S.A s).2).2).2).2).2, (block S.A (statement S.A) (maybe S.A (ByteArray.mk #[111, 114, 100, 101, 114, 101, 100]) (list1 S.A 23 (parameter S.A) (name S.A (next S.A s).2).2).2).2).2) := by
  rw [declaration]
  simp (decide := true) only [c1.out, c2.out, if_true, if_false, Bool.false_eq_true, Bool.true_eq_false, reduceIte, Nat.reduceEqDiff]
 have hm := Lib.hid hm0
 clear hm0
 generalize declaration S.A s = m at *
 have h1 := Lib.hid (fun (W : World) (lvq : Value) (q : PIn W P tv lvq S s) => declares_b q c1.out)
 have h2 := Lib.hid (fun (W : World) (lvq : Value) (q : PIn W P tv lvq S s) => next_is q (isB_kind c1.out) (ByteArray.mk #[111, 112, 101, 114, 97, 116, 105, 111, 110]) c2.out)
 have hnx2 : Hid ((next S.A s).2.at_ = s.at_ + 1) := rfl
 generalize (next S.A s).2 = s2 at *
 have h3 := Lib.hid (fun (W : World) (lvq : Value) (q : PIn W P tv lvq S s2) => name_walk q)
 generalize (name S.A s2).1 = x3 at *
 generalize (name S.A s2).2 = s3 at *
 have h4 := Lib.hid (fun (W : World) (lvq : Value) (q : PIn W P tv lvq S s3) => list1_walk q 23 72 _ (fn_parameter P tv S))
 generalize list1 S.A 23 (parameter S.A) s3 = k4 at *
 obtain ⟨kk4, s4⟩ := k4
 have h5 := Lib.hid (fun (W : World) (lvq : Value) (q : PIn W P tv lvq S s4) => maybe_walk q (ByteArray.mk #[111, 114, 100, 101, 114, 101, 100]) (by decide))
 generalize maybe S.A (ByteArray.mk #[111, 114, 100, 101, 114, 101, 100]) s4 = k5 at *
 obtain ⟨kk5, s5⟩ := k5
 have h6 := Lib.hid (fun (W : World) (lvq : Value) (q : PIn W P tv lvq S s5) => block_walk q (statement S.A) (S.L.length + 1) (statement_all P tv S) (by omega))
 generalize block S.A (statement S.A) s5 = k6 at *
 obtain ⟨kk6, s6⟩ := k6
 clear h
 go_enter Tryz.func29, Tryz.ntmps29
 go_wp2_with (first
  | (go_at_call 63; refine ((f6.out.box1 nks6 rfl).callNode (by repeat (first | exact Below.refl _ _ | apply bl_drew | apply bl_alloc)) 9 s.at_ (Nat.le_succ _) x3 rfl (by simp) rfl (by simp)).mono ?_; rintro e w7 ⟨rfl, g⟩; have f7 := Lib.hid g; clear g; obtain ⟨z0, z1, z2, z3, z4, z5⟩ := f7.out.fin.cells)
  | (go_at_call 74; refine ((f5.out.box1 nks5 rfl).callN (by repeat (first | exact Below.refl _ _ | apply bl_drew | apply bl_alloc)) (h6.out _ _)).mono ?_; rintro e w6 ⟨lv6, nk6, nt6, na6, ne6, nao6, ncap6, nks6, rfl, g⟩; have f6 := Lib.hid g; clear g; obtain ⟨y00, y01, y02, y03, y04, y05, y06⟩ := f6.out.bx 0 rfl; obtain ⟨y10, y11, y12, y13, y14, y15, y16⟩ := f6.out.bx 1 rfl)
  | (go_at_call 73; refine ((f4.out.box1 nks4 rfl).callN (by repeat (first | exact Below.refl _ _ | apply bl_drew | apply bl_alloc)) (h5.out _ _)).mono ?_; rintro e w5 ⟨lv5, nk5, nt5, na5, ne5, nao5, ncap5, nks5, rfl, g⟩; have f5 := Lib.hid g; clear g)
  | (go_at_call 71; refine (f3.out.callN (by repeat (first | exact Below.refl _ _ | apply bl_drew | apply bl_alloc)) (h4.out _ _)).mono ?_; rintro e w4 ⟨lv4, nk4, nt4, na4, ne4, nao4, ncap4, nks4, rfl, g⟩; have f4 := Lib.hid g; clear g)
  | (go_at_call 64; refine (f2.out.callS (by repeat (first | exact Below.refl _ _ | apply bl_drew | apply bl_alloc)) (h3.out _ _)).mono ?_; rintro e w3 ⟨lv3, rfl, g⟩; have f3 := Lib.hid g; clear g)
  | (go_at_call 62; refine (f1.out.callS (by repeat (first | exact Below.refl _ _ | apply bl_drew | apply bl_alloc)) (h2.out _ _)).mono ?_; rintro e w2 ⟨lv2, rfl, g⟩; have f2 := Lib.hid (g.rebase (s1 := { s with at_ := s.at_ + 1 }) (by have := hnx2.out; simp only; omega)); clear g)
  | (go_at_call 61; refine (f0.out.callB (by repeat (first | exact Below.refl _ _ | apply bl_drew | apply bl_alloc)) (h1.out _ _)).mono ?_; rintro e w1 ⟨rfl, g⟩; have f1 := Lib.hid g; clear g; obtain ⟨_, _, cat1, _⟩ := f1.out.pin.cell))
 refine bodyPost_ret (v := .agg #[.int .i64 9, .string x3, .int .i64 (S.at_ s.at_ s6.at_), .int .i64 (S.last s6.at_), .slice _ 3 3]) (by simp [results, Tryz.results29, go_sem, z0, z1, z2, z3, z4] <;> rfl) rfl ?_
 rw [hm.out]
 exact f7.out.end_ (kept5 _ _ _ _ _ _ _) 9 s.at_ x3
end Go.Proofs.YthggagophcnkfaaGreatDoor.px
namespace Go.Proofs.YthggagophcnkfaaGreatDoor.px
open Go.RowKit Go.Proofs.YthggagophcnkfaaGreatDoor.agg Go.Proofs.YthggagophcnkfaaGreatDoor.sx
set_option linter.unusedSimpArgs false
set_option linter.unusedVariables false
theorem sdecl_stop {A : List Tk} {k : Nat} {s : Ps} (h : (atEnd A s || declares A s) = true) : skipDecl A k s = s := by
 cases k with
 | zero => rfl
 | succ k => rw [skipDecl, if_pos h]
theorem sdecl_go {A : List Tk} {k : Nat} {s : Ps} (h : (atEnd A s || declares A s) = false) : skipDecl A (k + 1) s = skipDecl A k (next A s).2 := by
 rw [skipDecl, if_neg (by rw [h]; simp)]
set_option maxRecDepth 100000 in
set_option maxHeartbeats 4000000 in
theorem decl_skip {w : World} {P : Nat} {tv lv : Value} {S : Src} {s : Ps} (h : PIn w P tv lv S s) (hend : atEnd S.A s = false) (c1 : Hid (declares S.A s = false)) :
 Calls Tryz.prog 29 #[.pointer (some ⟨P, 0, none⟩)] w (NEnd w P tv lv S { s with at_ := s.at_ + 1 } (declaration S.A s)) := by
 have f0 := Lib.hid (FIn.start h)
 have hP := lt_of_block h.box
 have hk1 : Hid ((tok S.A (report 7 ⟨#[]⟩ s)).kind ≠ 0) := atEnd_kind hend
 have hm : Hid (declaration S.A s = (node 0 s.at_ ⟨#[]⟩ [] (skipDecl S.A S.A.length (next S.A (report 7 ⟨#[]⟩ s)).2), skipDecl S.A S.A.length (next S.A (report 7 ⟨#[]⟩ s)).2)) := by
  rw [declaration]
  simp only
  rw [if_pos c1.out]
  exact rfl
 generalize declaration S.A s = m at *
 have h0 := Lib.hid (fun (W : World) (lvq : Value) (q : PIn W P tv lvq S s) => declares_b q c1.out)
 have h1 := Lib.hid (fun (W : World) (lvq : Value) (q : PIn W P tv lvq S s) => report_walk q 7 ⟨#[]⟩ ⟨by decide, by decide, by simp⟩)
 have hs1 : (report 7 ⟨#[]⟩ s).at_ = s.at_ := rfl
 generalize report 7 ⟨#[]⟩ s = s1 at *
 have h2 := Lib.hid (fun (W : World) (lvq : Value) (q : PIn W P tv lvq S s1) => next_walk q hk1.out)
 have hs2 : Hid ((next S.A s1).2.at_ = s.at_ + 1) := by rw [← hs1]; exact rfl
 generalize (next S.A s1).1 = x2 at *
 generalize (next S.A s1).2 = s2 at *
 obtain ⟨R, hR⟩ : ∃ R, skipDecl S.A S.A.length s2 = R := ⟨_, rfl⟩
 rw [hR] at hm
 have hR' := Lib.hid hR
 clear hR h hend
 go_enter Tryz.func29, Tryz.ntmps29
 go_wp2_with (first
  | (go_at_call 62; refine (f1.out.callS (by repeat (first | exact Below.refl _ _ | apply bl_drew | apply bl_alloc)) (h2.out _ _)).mono ?_; rintro e w2 ⟨lv2, rfl, g⟩; have f2 := Lib.hid (g.rebase (s1 := { s with at_ := s.at_ + 1 }) (by have := hs2.out; simp only; omega)); clear g)
  | (go_at_call 44; refine (f10.out.callS (by repeat (first | exact Below.refl _ _ | apply bl_drew | apply bl_alloc)) (h1.out _ _)).mono ?_; rintro e w1 ⟨lv1, rfl, g⟩; have f1 := Lib.hid g; clear g)
  | (go_at_call 61; refine (f0.out.callB (by repeat (first | exact Below.refl _ _ | apply bl_drew | apply bl_alloc)) (h0.out _ _)).mono ?_; rintro e w10 ⟨rfl, g⟩; have f10 := Lib.hid g; clear g; obtain ⟨_, _, cat10, _⟩ := f10.out.pin.cell))
 go_loopw [27] (fun _ wr => ∃ (k : Nat) (lv2 : Value) (s2 : Ps), FIn w w.heap.size P tv lv S { s with at_ := s.at_ + 1 } wr lv2 s2 [] [] ∧ S.L.length ≤ s2.at_ + k ∧ Hid (skipDecl S.A k s2 = R)) (fun _ wr => S.L.length - atOf P wr)
 case atStart => exact ⟨S.A.length, lv2, s2, f2.out, by rw [Src.len]; omega, hR'⟩
 case round =>
  obtain ⟨k, lv4, s4, e5', hk, hmo⟩ := hrel
  have f5 := Lib.hid e5'
  have hlt := e5'.pin.sok.lt
  have hato := Lib.hid e5'.pin.atOf
  clear e5'
  have hD := Lib.hid (fun (W : World) (lvq : Value) (q : PIn W P tv lvq S s4) => declares_walk q)
  have hE := Lib.hid (fun (W : World) (lvq : Value) (q : PIn W P tv lvq S s4) => end_walk q)
  have hN := Lib.hid (fun (he : atEnd S.A s4 = false) (W : World) (lvq : Value) (q : PIn W P tv lvq S s4) => next_walk q (atEnd_kind he))
  have hs6 : Hid ((next S.A s4).2.at_ = s4.at_ + 1) := rfl
  have hstop := Lib.hid (fun (h0 : (atEnd S.A s4 || declares S.A s4) = true) => (sdecl_stop h0 (k := k)).symm.trans hmo.out)
  have hgo := Lib.hid (fun (h0 : (atEnd S.A s4 || declares S.A s4) = false) (k' : Nat) (e : k = k' + 1) => (sdecl_go h0 (k := k')).symm.trans (e ▸ hmo.out))
  generalize declares S.A s4 = b2 at *
  generalize atEnd S.A s4 = b0 at *
  generalize (next S.A s4).1 = x6 at *
  generalize (next S.A s4).2 = s6 at *
  have hcase : (b0 = true) ∨ (b0 = false ∧ b2 = true) ∨ (b0 = false ∧ b2 = false) := by
   cases b0 <;> cases b2 <;> simp
  rcases hcase with rfl | ⟨rfl, rfl⟩ | ⟨rfl, rfl⟩
  case' inr.inr =>
   obtain ⟨k', rfl⟩ : ∃ k', k = k' + 1 := ⟨k - 1, by omega⟩
   have hN2 := Lib.hid (hN.out rfl)
   have hmo2 := Lib.hid (hgo.out rfl k' rfl)
   clear hstop hgo hN
   go_wp2_with (first
    | (go_at_call 62; refine (f8.out.callS (by repeat (first | exact Below.refl _ _ | apply bl_drew | apply bl_alloc)) (hN2.out _ _)).mono ?_; rintro e w10 ⟨lv10, rfl, g⟩; have f10 := Lib.hid g; clear g)
    | (go_at_call 61; refine (f6.out.callB (by repeat (first | exact Below.refl _ _ | apply bl_drew | apply bl_alloc)) (hD.out _ _)).mono ?_; rintro e w8 ⟨rfl, g⟩; have f8 := Lib.hid g; clear g)
    | (go_at_call 28; refine (f5.out.callB (by repeat (first | exact Below.refl _ _ | apply bl_drew | apply bl_alloc)) (hE.out _ _)).mono ?_; rintro e w6 ⟨rfl, g⟩; have f6 := Lib.hid g; clear g))
   go_roundw
   case rel => exact ⟨k', lv10, s6, f10.out, by have := hs6.out; omega, hmo2⟩
   case measure => rw [f10.out.pin.atOf, hato.out]; have := hs6.out; omega
  all_goals
   have hRR := hstop.out rfl
   subst hRR
   clear hstop hgo hN
   go_wp2_with (first
    | (go_at_call 63; (first | refine (f8.out.callLeaf (by repeat (first | exact Below.refl _ _ | apply bl_drew | apply bl_alloc)) 0 s.at_ (Nat.le_succ _) ⟨#[]⟩).mono ?_ | refine (f6.out.callLeaf (by repeat (first | exact Below.refl _ _ | apply bl_drew | apply bl_alloc)) 0 s.at_ (Nat.le_succ _) ⟨#[]⟩).mono ?_); rintro e w12 ⟨rfl, g⟩; have f12 := Lib.hid g; clear g; obtain ⟨z0, z1, z2, z3, z4, z5⟩ := f12.out.fin.cells)
    | (go_at_call 61; refine (f6.out.callB (by repeat (first | exact Below.refl _ _ | apply bl_drew | apply bl_alloc)) (hD.out _ _)).mono ?_; rintro e w8 ⟨rfl, g⟩; have f8 := Lib.hid g; clear g)
    | (go_at_call 28; refine (f5.out.callB (by repeat (first | exact Below.refl _ _ | apply bl_drew | apply bl_alloc)) (hE.out _ _)).mono ?_; rintro e w6 ⟨rfl, g⟩; have f6 := Lib.hid g; clear g))
   refine bodyPost_ret (v := .agg #[.int .i64 0, .string ⟨#[]⟩, .int .i64 (S.at_ s.at_ s4.at_), .int .i64 (S.last s4.at_), .slice none 0 0]) (by simp [results, Tryz.results29, go_sem, z0, z1, z2, z3, z4] <;> rfl) rfl ?_
   rw [hm.out]
   exact f12.out.end_ (kept5 _ _ _ _ _ _ _) 0 s.at_ ⟨#[]⟩
theorem declaration_walk {w : World} {P : Nat} {tv lv : Value} {S : Src} {s : Ps} (h : PIn w P tv lv S s) (hend : atEnd S.A s = false) :
 Calls Tryz.prog 29 #[.pointer (some ⟨P, 0, none⟩)] w (NEnd w P tv lv S { s with at_ := s.at_ + 1 } (declaration S.A s)) := by
 cases hs : declares S.A s with
 | false => exact decl_skip h hend (Lib.hid hs)
 | true =>
  have hw := isB_word (show isB S.A declWords s = true from hs)
  simp only [declWords, List.mem_cons, List.not_mem_nil, or_false] at hw
  rcases hw with e | e | e | e | e | e | e
  ·exact decl_sort h (Lib.hid hs) (Lib.hid e)
  ·exact decl_relation h (Lib.hid hs) (Lib.hid e)
  ·exact decl_counter h (Lib.hid hs) (Lib.hid e)
  ·exact decl_set h (Lib.hid hs) (Lib.hid e)
  ·exact decl_register h (Lib.hid hs) (Lib.hid e)
  ·exact decl_invariant h (Lib.hid hs) (Lib.hid e)
  ·exact decl_operation h (Lib.hid hs) (Lib.hid e)
end Go.Proofs.YthggagophcnkfaaGreatDoor.px
