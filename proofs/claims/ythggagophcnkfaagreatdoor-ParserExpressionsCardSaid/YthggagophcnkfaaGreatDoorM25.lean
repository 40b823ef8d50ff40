/- The walk of the reference parser's total. The walk of the reference parser's rule. -/
import Derived.Test.YthggagophcnkfaaGreatDoorM23
import Derived.Test.YthggagophcnkfaaGreatDoorM43
namespace Go.Proofs.YthggagophcnkfaaGreatDoor.py
open Go.RowKit Go.Proofs.YthggagophcnkfaaGreatDoor.agg Go.Proofs.YthggagophcnkfaaGreatDoor.sx Go.Proofs.YthggagophcnkfaaGreatDoor.px
set_option linter.unusedSimpArgs false
set_option linter.unusedVariables false
theorem FIn.row1 {w0 : World} {Z : Nat} {P : Nat} {tv lv0 : Value} {S : Src} {s0 : Ps} {w : World} {lv : Value} {s : Ps} {nk : Int} {nt : ByteArray} {na ne : Int} {nao : Option Addr} {nl ncap : Nat} {nks : List Nd} {t : PT}
 (h : FIn w0 Z P tv lv0 S s0 w lv s [(Nd.mk nk nt na ne (.slice nao nl ncap) nks, t)] []) : EIn w0 (some Z) (Z + 1) P tv lv0 S s0 (w.alloc (.cells #[.int .i64 nk, .string nt, .int .i64 na, .int .i64 ne, .slice nao nl ncap] 25)) lv s (.slice (some ⟨w.heap.size, 0, none⟩) 1 1) [(Nd.mk nk nt na ne (.slice nao nl ncap) nks, t)] := by
 have f := h.below ((Below.refl _ w).alloc (Nat.le_refl _) (.cells #[.int .i64 nk, .string nt, .int .i64 na, .int .i64 ne, .slice nao nl ncap] 25))
 have hZ := h.hZ
 have hz := h.zlt
 refine ⟨f.pin, f.kept, f.fresh, f.mono, by omega, by simp; omega, fun b hb => by have := h.tlt b hb; omega, fun Z' e => ?_, ⟨?_, fun g hg e => ?_, fun p hp => ?_⟩, by simp⟩
 ·have e2 : Z = Z' := by simpa using e
  subst e2
  exact ⟨f.box, f.far, by omega, hZ⟩
 ·have := World.ownsRow_lit (base := Z + 1) (e := 25) (size := 5) w #[.int .i64 nk, .string nt, .int .i64 na, .int .i64 ne, .slice nao nl ncap] 1 (by omega) (by unfold maxLen; omega) rfl
  simpa [Nd.cells, Nd.kind, Nd.text, Nd.fr, Nd.to, Nd.kv] using this
 ·have e2 : w.heap.size = g := by simpa [Value.ownBlock] using hg
  have := h.pin.lt g e
  omega
 ·have h1 := h.kids p hp
  refine ⟨(h1.1.mono (fun b hb hq => ⟨hq.1, hq.2.1, fun e => ?_⟩)).later ((Below.refl _ w).alloc (Nat.le_refl _) _), h1.2⟩
  have e2 : w.heap.size = b := by simpa [Value.ownBlock] using e
  omega
set_option maxRecDepth 100000 in
set_option maxHeartbeats 4000000 in
theorem total_walk {w : World} {P : Nat} {tv lv : Value} {S : Src} {s : Ps} (h : PIn w P tv lv S s) :
 Calls Tryz.prog 138 #[.pointer (some ⟨P, 0, none⟩)] w (NEnd w P tv lv S s (total S.A s)) := by
 have f0 := Lib.hid (FIn.start h)
 have cat := h.cell.2.2.1
 have cla := h.cell.2.2.2.1
 have hP := lt_of_block h.box
 obtain ⟨x1, s1, hx1⟩ : ∃ x1 s1, (if isB S.A [(ByteArray.mk #[45])] s then next S.A s else ((ByteArray.mk #[43]), s) : ByteArray × Ps) = (x1, s1) := ⟨_, _, rfl⟩
 have hm : Hid (total S.A s = (node 20 s.at_ ⟨#[]⟩ (terms S.A S.A.length [(term S.A s.at_ x1 s1).1] (term S.A s.at_ x1 s1).2).1 (terms S.A S.A.length [(term S.A s.at_ x1 s1).1] (term S.A s.at_ x1 s1).2).2, (terms S.A S.A.length [(term S.A s.at_ x1 s1).1] (term S.A s.at_ x1 s1).2).2)) := by
  have h0 : total S.A s = (node 20 s.at_ ⟨#[]⟩ (terms S.A S.A.length [(term S.A s.at_ (if isB S.A [(ByteArray.mk #[45])] s then next S.A s else ((ByteArray.mk #[43]), s) : ByteArray × Ps).1 (if isB S.A [(ByteArray.mk #[45])] s then next S.A s else ((ByteArray.mk #[43]), s) : ByteArray × Ps).2).1] (term S.A s.at_ (if isB S.A [(ByteArray.mk #[45])] s then next S.A s else ((ByteArray.mk #[43]), s) : ByteArray × Ps).1 (if isB S.A [(ByteArray.mk #[45])] s then next S.A s else ((ByteArray.mk #[43]), s) : ByteArray × Ps).2).2).1 (terms S.A S.A.length [(term S.A s.at_ (if isB S.A [(ByteArray.mk #[45])] s then next S.A s else ((ByteArray.mk #[43]), s) : ByteArray × Ps).1 (if isB S.A [(ByteArray.mk #[45])] s then next S.A s else ((ByteArray.mk #[43]), s) : ByteArray × Ps).2).1] (term S.A s.at_ (if isB S.A [(ByteArray.mk #[45])] s then next S.A s else ((ByteArray.mk #[43]), s) : ByteArray × Ps).1 (if isB S.A [(ByteArray.mk #[45])] s then next S.A s else ((ByteArray.mk #[43]), s) : ByteArray × Ps).2).2).2, (terms S.A S.A.length [(term S.A s.at_ (if isB S.A [(ByteArray.mk #[45])] s then next S.A s else ((ByteArray.mk #[43]), s) : ByteArray × Ps).1 (if isB S.A [(ByteArray.mk #[45])] s then next S.A s else ((ByteArray.mk #[43]), s) : ByteArray × Ps).2).1] (term S.A s.at_ (if isB S.A [(ByteArray.mk #[45])] s then next S.A s else ((ByteArray.mk #[43]), s) : ByteArray × Ps).1 (if isB S.A [(ByteArray.mk #[45])] s then next S.A s else ((ByteArray.mk #[43]), s) : ByteArray × Ps).2).2).2) := rfl
  rw [hx1] at h0
  exact h0
 have h3 := Lib.hid (fun (W : World) (lvq : Value) (q : PIn W P tv lvq S s1) (hmo : s.at_ ≤ s1.at_) => term_walk q s.at_ hmo x1)
 obtain ⟨R, hR⟩ : ∃ R, terms S.A S.A.length [(term S.A s.at_ x1 s1).1] (term S.A s.at_ x1 s1).2 = R := ⟨_, rfl⟩
 rw [hR] at hm
 have hR' := Lib.hid hR
 clear hR
 generalize total S.A s = m at *
 generalize term S.A s.at_ x1 s1 = k3 at *
 obtain ⟨kk3, s3⟩ := k3
 obtain ⟨r1, r2⟩ := R
 have hx := Lib.hid hx1
 clear hx1
 cases hi : isB S.A [(ByteArray.mk #[45])] s
 case' true =>
  have hi' := Lib.hid hi
  have h2 := Lib.hid (fun (W : World) (lvq : Value) (q : PIn W P tv lvq S s) => opt_yes q (ByteArray.mk #[45]) hi'.out)
  have hxx := hx.out
  rw [hi, if_pos rfl] at hxx
  have hw1 := is1_word hi
  rw [hxx] at h2 hw1
  simp only at h2 hw1
  subst hw1
  clear hi hxx h
  go_enter Tryz.func138, Tryz.ntmps138
  go_upto_region 1 with fail
  go_region
  go_wp2_with (first
   | (go_at_call 161; refine (f1.out.callN (by repeat (first | exact Below.refl _ _ | apply bl_drew | apply bl_alloc)) (fun q => h3.out _ _ q f1.out.mono)).mono ?_; rintro e w3 ⟨lv3, nk3, nt3, na3, ne3, nao3, ncap3, nks3, rfl, g⟩; have f3 := Lib.hid g; clear g)
   | (go_at_call 96; refine (f0.out.callS (by repeat (first | exact Below.refl _ _ | apply bl_drew | apply bl_alloc)) (h2.out _ _)).mono ?_; rintro e w2 ⟨lv2, rfl, g⟩; have f1 := Lib.hid g; clear g))
 case' false =>
  have hi' := Lib.hid hi
  have h2 := Lib.hid (fun (W : World) (lvq : Value) (q : PIn W P tv lvq S s) => opt_no q (ByteArray.mk #[45]) hi'.out)
  have hxx := hx.out
  rw [hi, if_neg (by simp)] at hxx
  obtain ⟨rfl, rfl⟩ : (ByteArray.mk #[43]) = x1 ∧ s = s1 := by simpa using hxx
  clear hi hxx h
  go_enter Tryz.func138, Tryz.ntmps138
  go_upto_region 1 with fail
  go_region
  go_wp2_with (first
   | (go_at_call 161; refine (f1.out.callN (by repeat (first | exact Below.refl _ _ | apply bl_drew | apply bl_alloc)) (fun q => h3.out _ _ q f1.out.mono)).mono ?_; rintro e w3 ⟨lv3, nk3, nt3, na3, ne3, nao3, ncap3, nks3, rfl, g⟩; have f3 := Lib.hid g; clear g)
   | (go_at_call 96; refine (f0.out.callS (by repeat (first | exact Below.refl _ _ | apply bl_drew | apply bl_alloc)) (h2.out _ _)).mono ?_; rintro e w2 ⟨lv2, rfl, g⟩; have f1 := Lib.hid g; clear g))
 all_goals
  have e4 := Lib.hid (FIn.row1 f3.out)
  go_loopw [5, 6] (fun sv v wr => ∃ (k : Nat) (lv2 : Value) (s2 : Ps) (sg : ByteArray) (g cp : Nat) (ks : Kds), sv = .string sg ∧ v = .slice (some ⟨g, 0, none⟩) ks.length cp ∧ EIn w (some w.heap.size) (w.heap.size + 1) P tv lv S s wr lv2 s2 (.slice (some ⟨g, 0, none⟩) ks.length cp) ks ∧ S.L.length ≤ s2.at_ + k ∧ Hid (terms S.A k (ks.map Prod.snd) s2 = (r1, r2))) (fun _ _ wr => S.L.length - atOf P wr)
  case atStart => exact ⟨S.A.length, lv3, s3, _, _, 1, [_], rfl, rfl, e4.out, by rw [Src.len]; omega, hR'⟩
  case round =>
   obtain ⟨k, lv4, s4, sg, g, cp, ks, rfl, rfl, e5', hk, hmo⟩ := hrel
   have e5 := Lib.hid e5'
   have hlt := e5'.pin.sok.lt
   have hmon := e5'.mono
   have hcn := e5'.cnt
   have hato := Lib.hid e5'.pin.atOf
   clear e5'
   cases hc : isB S.A [(ByteArray.mk #[43]), (ByteArray.mk #[45])] s4 with
   | true =>
    have hc' := Lib.hid hc
    obtain ⟨k', rfl⟩ : ∃ k', k = k' + 1 := ⟨k - 1, by omega⟩
    have hmo2 := Lib.hid ((terms_go hc).symm.trans hmo.out)
    have hnx : (next S.A s4).2.at_ = s4.at_ + 1 := rfl
    clear hc
    have hNx := Lib.hid (fun (W : World) (lv2 : Value) (q : PIn W P tv lv2 S s4) => read_walk q (isB_kind hc'.out))
    generalize (next S.A s4).1 = x6 at *
    generalize (next S.A s4).2 = s6 at *
    have hF2 := Lib.hid (fun (W : World) (lv2 : Value) (q : PIn W P tv lv2 S s6) (hq : s4.at_ ≤ s6.at_) => term_walk q s4.at_ hq x6)
    generalize term S.A s4.at_ x6 s6 = k7 at *
    obtain ⟨kk7, s7⟩ := k7
    go_upto_region 7 with (go_at_call 33; refine (e5.out.callIs (by repeat (first | exact Below.refl _ _ | apply bl_drew | apply bl_alloc)) [(ByteArray.mk #[43]), (ByteArray.mk #[45])] true hc'.out rfl (by decide) (by simp) rfl).mono ?_; rintro e w6 ⟨rfl, g⟩; obtain ⟨_, _, cat6, cla6, _⟩ := g.pin.cell; have e6 := Lib.hid g; clear g)
    have hP6 := lt_of_block e6.out.pin.box
    go_region
    go_wp2_with (first
     | (at_builtin; refine wpList_app e8.out rfl (.tmp 38) (.tmp 44) rfl rfl rfl (by omega) ?_; intro g cap w9 e; have e9 := Lib.hid e; clear e)
     | (go_at_call 161; refine (e7.out.callN (by repeat (first | exact Below.refl _ _ | apply bl_drew | apply bl_alloc)) (fun q => hF2.out _ _ q (by omega))).mono ?_; rintro e w8 ⟨lv8, nk8, nt8, na8, ne8, nao8, ncap8, nks8, rfl, g, hm8⟩; have e8 := Lib.hid g; clear g)
     | (go_at_call 37; refine (e6.out.callS (by repeat (first | exact Below.refl _ _ | apply bl_drew | apply bl_alloc)) (hNx.out _ _)).mono ?_; rintro e w7 ⟨lv7, rfl, g⟩; have e7 := Lib.hid g; clear g))
    go_roundw
    case rel => exact ⟨k', lv8, s7, _, g, cap, ks ++ [_], rfl, by simp, by simpa using e9.out, by omega, by simpa using hmo2⟩
    case measure => rw [e9.out.pin.atOf, hato.out]; omega
   | false =>
    have hc' := Lib.hid hc
    have hst := (terms_stop hc).symm.trans hmo.out
    obtain ⟨rfl, rfl⟩ : ks.map Prod.snd = r1 ∧ s4 = r2 := by simpa using hst
    clear hc hst
    have e5r := Lib.hid (e5.out.toRow rfl)
    go_wp2_with (first
     | (go_at_call 38; refine (e6.out.callNode (by repeat (first | exact Below.refl _ _ | apply bl_drew | apply bl_alloc)) 20 s.at_ (Nat.le_refl _) ⟨#[]⟩).mono ?_; rintro e w7 ⟨rfl, g⟩; have f7 := Lib.hid g; clear g; obtain ⟨z0, z1, z2, z3, z4, z5⟩ := f7.out.fin.cells)
     | (go_at_call 33; refine (e5.out.callIs (by repeat (first | exact Below.refl _ _ | apply bl_drew | apply bl_alloc)) [(ByteArray.mk #[43]), (ByteArray.mk #[45])] false hc'.out rfl (by decide) (by simp) rfl).mono ?_; rintro e w6 ⟨rfl, g⟩; have e6 := Lib.hid (g.toRow rfl); clear g))
    refine bodyPost_ret (v := .agg #[.int .i64 20, .string ⟨#[]⟩, .int .i64 (S.at_ s.at_ s4.at_), .int .i64 (S.last s4.at_), .slice (some ⟨g, 0, none⟩) ks.length cp]) (by simp [results, Tryz.results138, go_sem, z0, z1, z2, z3, z4] <;> rfl) rfl ?_
    rw [hm.out]
    exact f7.out.end_ (kept5 _ _ _ _ _ _ _) 20 s.at_ ⟨#[]⟩
end Go.Proofs.YthggagophcnkfaaGreatDoor.py
namespace Go.Proofs.YthggagophcnkfaaGreatDoor.py
open Go.RowKit Go.Proofs.YthggagophcnkfaaGreatDoor.agg Go.Proofs.YthggagophcnkfaaGreatDoor.sx Go.Proofs.YthggagophcnkfaaGreatDoor.px
set_option linter.unusedSimpArgs false
set_option linter.unusedVariables false
set_option maxRecDepth 100000 in
set_option maxHeartbeats 2000000 in
theorem part_walk_1 {w : World} {P : Nat} {tv lv : Value} {S : Src} {s : Ps} (h : PIn w P tv lv S s) (c1 : Hid (isB S.A [(ByteArray.mk #[107, 101, 121])] s = true)) :
 Calls Tryz.prog 86 #[.pointer (some ⟨P, 0, none⟩)] w (NEnd w P tv lv S s (px.part S.A s)) := by
 have f0 := Lib.hid (FIn.start h)
 have cat := h.cell.2.2.1
 have cla := h.cell.2.2.2.1
 have hP := lt_of_block h.box
 have hm0 : px.part S.A s = (node 13 s.at_ ((name S.A (next S.A s).2).1) [(names S.A (name S.A (next S.A s).2).2).1] (names S.A (name S.A (next S.A s).2).2).2, (names S.A (name S.A (next S.A s).2).2).2) := by
  unfold px.part
  simp only [c1.out, if_true, if_false, Bool.false_eq_true, Bool.true_eq_false, reduceIte, Nat.reduceEqDiff]
 have hm := Lib.hid hm0
 clear hm0
 generalize px.part S.A s = m at *
 have h1 := Lib.hid (fun (W : World) (lvq : Value) (q : PIn W P tv lvq S s) => opt_yes q (ByteArray.mk #[107, 101, 121]) c1.out)
 generalize (next S.A s).2 = s1 at *
 have h2 := Lib.hid (fun (W : World) (lvq : Value) (q : PIn W P tv lvq S s1) => name_walk q)
 generalize (name S.A s1).1 = x2 at *
 generalize (name S.A s1).2 = s2 at *
 have h3 := Lib.hid (fun (W : World) (lvq : Value) (q : PIn W P tv lvq S s2) => names_walk q)
 generalize names S.A s2 = k3 at *
 obtain ⟨kk3, s3⟩ := k3
 clear h
 go_enter Tryz.func86, Tryz.ntmps86
 go_upto_region 1 with fail
 go_region
 go_wp2_with (first
  | (go_at_call 38; refine ((f3.out.box1 nks3 rfl).callNode (by repeat (first | exact Below.refl _ _ | apply bl_drew | apply bl_alloc)) 13 s.at_ (Nat.le_refl _) x2 rfl (by simp) rfl (by simp)).mono ?_; rintro e w4 ⟨rfl, g⟩; have f4 := Lib.hid g; clear g; obtain ⟨z0, z1, z2, z3, z4, z5⟩ := f4.out.fin.cells)
  | (go_at_call 82; refine (f2.out.callN (by repeat (first | exact Below.refl _ _ | apply bl_drew | apply bl_alloc)) (h3.out _ _)).mono ?_; rintro e w3 ⟨lv3, nk3, nt3, na3, ne3, nao3, ncap3, nks3, rfl, g⟩; have f3 := Lib.hid g; clear g)
  | (go_at_call 80; refine (f1.out.callS (by repeat (first | exact Below.refl _ _ | apply bl_drew | apply bl_alloc)) (h2.out _ _)).mono ?_; rintro e w2 ⟨lv2, rfl, g⟩; have f2 := Lib.hid g; clear g)
  | (go_at_call 96; refine (f0.out.callS (by repeat (first | exact Below.refl _ _ | apply bl_drew | apply bl_alloc)) (h1.out _ _)).mono ?_; rintro e w1 ⟨lv1, rfl, g⟩; have f1 := Lib.hid g; clear g))
 refine bodyPost_ret (v := .agg #[.int .i64 13, .string x2, .int .i64 (S.at_ s.at_ s3.at_), .int .i64 (S.last s3.at_), .slice _ 1 1]) (by simp [results, Tryz.results86, go_sem, z0, z1, z2, z3, z4] <;> rfl) rfl ?_
 rw [hm.out]
 exact f4.out.end_ (kept5 _ _ _ _ _ _ _) 13 s.at_ x2
set_option maxRecDepth 100000 in
set_option maxHeartbeats 2000000 in
theorem part_walk_2 {w : World} {P : Nat} {tv lv : Value} {S : Src} {s : Ps} (h : PIn w P tv lv S s) (c1 : Hid (isB S.A [(ByteArray.mk #[107, 101, 121])] s = false)) (c2 : Hid (isB S.A [(ByteArray.mk #[114, 101, 102, 101, 114, 101, 110, 99, 101])] s = true)) :
 Calls Tryz.prog 86 #[.pointer (some ⟨P, 0, none⟩)] w (NEnd w P tv lv S s (px.part S.A s)) := by
 have f0 := Lib.hid (FIn.start h)
 have cat := h.cell.2.2.1
 have cla := h.cell.2.2.2.1
 have hP := lt_of_block h.box
 have hm0 : px.part S.A s = (node 14 s.at_ ((name S.A (next S.A s).2).1) [(named S.A (demand S.A (ByteArray.mk #[40]) (name S.A (next S.A s).2).2).2).1, (named S.A (demand S.A (ByteArray.mk #[116, 111]) (demand S.A (ByteArray.mk #[41]) (named S.A (demand S.A (ByteArray.mk #[40]) (name S.A (next S.A s).2).2).2).2).2).2).1, (maybe S.A (ByteArray.mk #[104, 105, 100, 101]) (named S.A (demand S.A (ByteArray.mk #[116, 111]) (demand S.A (ByteArray.mk #[41]) (named S.A (demand S.A (ByteArray.mk #[40]) (name S.A (next S.A s).2).2).2).2).2).2).2).1] (maybe S.A (ByteArray.mk #[104, 105, 100, 101]) (named S.A (demand S.A (ByteArray.mk #[116, 111]) (demand S.A (ByteArray.mk #[41]) (named S.A (demand S.A (ByteArray.mk #[40]) (name S.A (next S.A s).2).2).2).2).2).2).2).2, (maybe S.A (ByteArray.mk #[104, 105, 100, 101]) (named S.A (demand S.A (ByteArray.mk #[116, 111]) (demand S.A (ByteArray.mk #[41]) (named S.A (demand S.A (ByteArray.mk #[40]) (name S.A (next S.A s).2).2).2).2).2).2).2).2) := by
  unfold px.part
  simp only [c1.out, c2.out, if_true, if_false, Bool.false_eq_true, Bool.true_eq_false, reduceIte, Nat.reduceEqDiff]
 have hm := Lib.hid hm0
 clear hm0
 generalize px.part S.A s = m at *
 have h1 := Lib.hid (fun (W : World) (lvq : Value) (q : PIn W P tv lvq S s) => opt_no q (ByteArray.mk #[107, 101, 121]) c1.out)
 have h2 := Lib.hid (fun (W : World) (lvq : Value) (q : PIn W P tv lvq S s) => opt_yes q (ByteArray.mk #[114, 101, 102, 101, 114, 101, 110, 99, 101]) c2.out)
 generalize (next S.A s).2 = s2 at *
 have h3 := Lib.hid (fun (W : World) (lvq : Value) (q : PIn W P tv lvq S s2) => name_walk q)
 generalize (name S.A s2).1 = x3 at *
 generalize (name S.A s2).2 = s3 at *
 have h4 := Lib.hid (fun (W : World) (lvq : Value) (q : PIn W P tv lvq S s3) => expect_walk q (ByteArray.mk #[40]) (by decide))
 generalize (demand S.A (ByteArray.mk #[40]) s3).1 = x4 at *
 generalize (demand S.A (ByteArray.mk #[40]) s3).2 = s4 at *
 have h5 := Lib.hid (fun (W : World) (lvq : Value) (q : PIn W P tv lvq S s4) => named_walk q)
 generalize named S.A s4 = k5 at *
 obtain ⟨kk5, s5⟩ := k5
 have h6 := Lib.hid (fun (W : World) (lvq : Value) (q : PIn W P tv lvq S s5) => expect_walk q (ByteArray.mk #[41]) (by decide))
 generalize (demand S.A (ByteArray.mk #[41]) s5).1 = x6 at *
 generalize (demand S.A (ByteArray.mk #[41]) s5).2 = s6 at *
 have h7 := Lib.hid (fun (W : World) (lvq : Value) (q : PIn W P tv lvq S s6) => expect_walk q (ByteArray.mk #[116, 111]) (by decide))
 generalize (demand S.A (ByteArray.mk #[116, 111]) s6).1 = x7 at *
 generalize (demand S.A (ByteArray.mk #[116, 111]) s6).2 = s7 at *
 have h8 := Lib.hid (fun (W : World) (lvq : Value) (q : PIn W P tv lvq S s7) => named_walk q)
 generalize named S.A s7 = k8 at *
 obtain ⟨kk8, s8⟩ := k8
 have h9 := Lib.hid (fun (W : World) (lvq : Value) (q : PIn W P tv lvq S s8) => maybe_walk q (ByteArray.mk #[104, 105, 100, 101]))
 generalize maybe S.A (ByteArray.mk #[104, 105, 100, 101]) s8 = k9 at *
 obtain ⟨kk9, s9⟩ := k9
 clear h
 go_enter Tryz.func86, Tryz.ntmps86
 go_upto_region 1 with fail
 go_region
 go_wp2_with (first
  | (go_at_call 38; refine ((f9.out.box1 nks9 rfl).callNode (by repeat (first | exact Below.refl _ _ | apply bl_drew | apply bl_alloc)) 14 s.at_ (Nat.le_refl _) x3 rfl (by simp) rfl (by simp)).mono ?_; rintro e w10 ⟨rfl, g⟩; have f10 := Lib.hid g; clear g; obtain ⟨z0, z1, z2, z3, z4, z5⟩ := f10.out.fin.cells)
  | (go_at_call 87; refine ((f8.out.box1 nks8 rfl).callN (by repeat (first | exact Below.refl _ _ | apply bl_drew | apply bl_alloc)) (h9.out _ _)).mono ?_; rintro e w9 ⟨lv9, nk9, nt9, na9, ne9, nao9, ncap9, nks9, rfl, g⟩; have f9 := Lib.hid g; clear g; obtain ⟨y00, y01, y02, y03, y04, y05, y06⟩ := f9.out.bx 0 rfl; obtain ⟨y10, y11, y12, y13, y14, y15, y16⟩ := f9.out.bx 1 rfl)
  | (go_at_call 81; refine (f7.out.callN (by repeat (first | exact Below.refl _ _ | apply bl_drew | apply bl_alloc)) (h8.out _ _)).mono ?_; rintro e w8 ⟨lv8, nk8, nt8, na8, ne8, nao8, ncap8, nks8, rfl, g⟩; have f8 := Lib.hid g; clear g)
  | (go_at_call 83; refine (f6.out.callS (by repeat (first | exact Below.refl _ _ | apply bl_drew | apply bl_alloc)) (h7.out _ _)).mono ?_; rintro e w7 ⟨lv7, rfl, g⟩; have f7 := Lib.hid g; clear g)
  | (go_at_call 83; refine ((f5.out.box1 nks5 rfl).callS (by repeat (first | exact Below.refl _ _ | apply bl_drew | apply bl_alloc)) (h6.out _ _)).mono ?_; rintro e w6 ⟨lv6, rfl, g⟩; have f6 := Lib.hid g; clear g)
  | (go_at_call 81; refine (f4.out.callN (by repeat (first | exact Below.refl _ _ | apply bl_drew | apply bl_alloc)) (h5.out _ _)).mono ?_; rintro e w5 ⟨lv5, nk5, nt5, na5, ne5, nao5, ncap5, nks5, rfl, g⟩; have f5 := Lib.hid g; clear g)
  | (go_at_call 83; refine (f3.out.callS (by repeat (first | exact Below.refl _ _ | apply bl_drew | apply bl_alloc)) (h4.out _ _)).mono ?_; rintro e w4 ⟨lv4, rfl, g⟩; have f4 := Lib.hid g; clear g)
  | (go_at_call 80; refine (f2.out.callS (by repeat (first | exact Below.refl _ _ | apply bl_drew | apply bl_alloc)) (h3.out _ _)).mono ?_; rintro e w3 ⟨lv3, rfl, g⟩; have f3 := Lib.hid g; clear g)
  | (go_at_call 96; refine (f1.out.callS (by repeat (first | exact Below.refl _ _ | apply bl_drew | apply bl_alloc)) (h2.out _ _)).mono ?_; rintro e w2 ⟨lv2, rfl, g⟩; have f2 := Lib.hid g; clear g)
  | (go_at_call 96; refine (f0.out.callS (by repeat (first | exact Below.refl _ _ | apply bl_drew | apply bl_alloc)) (h1.out _ _)).mono ?_; rintro e w1 ⟨lv1, rfl, g⟩; have f1 := Lib.hid g; clear g))
 refine bodyPost_ret (v := .agg #[.int .i64 14, .string x3, .int .i64 (S.at_ s.at_ s9.at_), .int .i64 (S.last s9.at_), .slice _ 3 3]) (by simp [results, Tryz.results86, go_sem, z0, z1, z2, z3, z4] <;> rfl) rfl ?_
 rw [hm.out]
 exact f10.out.end_ (kept5 _ _ _ _ _ _ _) 14 s.at_ x3
set_option maxRecDepth 100000 in
set_option maxHeartbeats 2000000 in
theorem part_walk_3 {w : World} {P : Nat} {tv lv : Value} {S : Src} {s : Ps} (h : PIn w P tv lv S s) (c1 : Hid (isB S.A [(ByteArray.mk #[107, 101, 121])] s = false)) (c2 : Hid (isB S.A [(ByteArray.mk #[114, 101, 102, 101, 114, 101, 110, 99, 101])] s = false)) (c3 : Hid (isB S.A [(ByteArray.mk #[99, 111, 117, 110, 116])] s = true)) :
 Calls Tryz.prog 86 #[.pointer (some ⟨P, 0, none⟩)] w (NEnd w P tv lv S s (px.part S.A s)) := by
 have f0 := Lib.hid (FIn.start h)
 have cat := h.cell.2.2.1
 have cla := h.cell.2.2.2.1
 have hP := lt_of_block h.box
 have hm0 : px.part S.A s = (node 15 s.at_ ((name S.A (next S.A s).2).1) [(names S.A (name S.A (next S.A s).2).2).1, (bound S.A (integer S.A) (names S.A (name S.A (next S.A s).2).2).2).1] (bound S.A (integer S.A) (names S.A (name S.A (next S.A s).2).2).2).2, (bound S.A (integer S.A) (names S.A (name S.A (next S.A s).2).2).2).2) := by
  unfold px.part
  simp only [c1.out, c2.out, c3.out, if_true, if_false, Bool.false_eq_true, Bool.true_eq_false, reduceIte, Nat.reduceEqDiff]
 have hm := Lib.hid hm0
 clear hm0
 generalize px.part S.A s = m at *
 have h1 := Lib.hid (fun (W : World) (lvq : Value) (q : PIn W P tv lvq S s) => opt_no q (ByteArray.mk #[107, 101, 121]) c1.out)
 have h2 := Lib.hid (fun (W : World) (lvq : Value) (q : PIn W P tv lvq S s) => opt_no q (ByteArray.mk #[114, 101, 102, 101, 114, 101, 110, 99, 101]) c2.out)
 have h3 := Lib.hid (fun (W : World) (lvq : Value) (q : PIn W P tv lvq S s) => opt_yes q (ByteArray.mk #[99, 111, 117, 110, 116]) c3.out)
 generalize (next S.A s).2 = s3 at *
 have h4 := Lib.hid (fun (W : World) (lvq : Value) (q : PIn W P tv lvq S s3) => name_walk q)
 generalize (name S.A s3).1 = x4 at *
 generalize (name S.A s3).2 = s4 at *
 have h5 := Lib.hid (fun (W : World) (lvq : Value) (q : PIn W P tv lvq S s4) => names_walk q)
 generalize names S.A s4 = k5 at *
 obtain ⟨kk5, s5⟩ := k5
 have h6 := Lib.hid (fun (W : World) (lvq : Value) (q : PIn W P tv lvq S s5) => bound_int_walk q)
 generalize bound S.A (integer S.A) s5 = k6 at *
 obtain ⟨kk6, s6⟩ := k6
 clear h
 go_enter Tryz.func86, Tryz.ntmps86
 go_upto_region 1 with fail
 go_region
 go_wp2_with (first
  | (go_at_call 38; refine ((f6.out.box1 nks6 rfl).callNode (by repeat (first | exact Below.refl _ _ | apply bl_drew | apply bl_alloc)) 15 s.at_ (Nat.le_refl _) x4 rfl (by simp) rfl (by simp)).mono ?_; rintro e w7 ⟨rfl, g⟩; have f7 := Lib.hid g; clear g; obtain ⟨z0, z1, z2, z3, z4, z5⟩ := f7.out.fin.cells)
  | (go_at_call 137; refine ((f5.out.box1 nks5 rfl).callN (by repeat (first | exact Below.refl _ _ | apply bl_drew | apply bl_alloc)) (h6.out _ _)).mono ?_; rintro e w6 ⟨lv6, nk6, nt6, na6, ne6, nao6, ncap6, nks6, rfl, g⟩; have f6 := Lib.hid g; clear g; obtain ⟨y00, y01, y02, y03, y04, y05, y06⟩ := f6.out.bx 0 rfl)
  | (go_at_call 82; refine (f4.out.callN (by repeat (first | exact Below.refl _ _ | apply bl_drew | apply bl_alloc)) (h5.out _ _)).mono ?_; rintro e w5 ⟨lv5, nk5, nt5, na5, ne5, nao5, ncap5, nks5, rfl, g⟩; have f5 := Lib.hid g; clear g)
  | (go_at_call 80; refine (f3.out.callS (by repeat (first | exact Below.refl _ _ | apply bl_drew | apply bl_alloc)) (h4.out _ _)).mono ?_; rintro e w4 ⟨lv4, rfl, g⟩; have f4 := Lib.hid g; clear g)
  | (go_at_call 96; refine (f2.out.callS (by repeat (first | exact Below.refl _ _ | apply bl_drew | apply bl_alloc)) (h3.out _ _)).mono ?_; rintro e w3 ⟨lv3, rfl, g⟩; have f3 := Lib.hid g; clear g)
  | (go_at_call 96; refine (f1.out.callS (by repeat (first | exact Below.refl _ _ | apply bl_drew | apply bl_alloc)) (h2.out _ _)).mono ?_; rintro e w2 ⟨lv2, rfl, g⟩; have f2 := Lib.hid g; clear g)
  | (go_at_call 96; refine (f0.out.callS (by repeat (first | exact Below.refl _ _ | apply bl_drew | apply bl_alloc)) (h1.out _ _)).mono ?_; rintro e w1 ⟨lv1, rfl, g⟩; have f1 := Lib.hid g; clear g))
 refine bodyPost_ret (v := .agg #[.int .i64 15, .string x4, .int .i64 (S.at_ s.at_ s6.at_), .int .i64 (S.last s6.at_), .slice _ 2 2]) (by simp [results, Tryz.results86, go_sem, z0, z1, z2, z3, z4] <;> rfl) rfl ?_
 rw [hm.out]
 exact f7.out.end_ (kept5 _ _ _ _ _ _ _) 15 s.at_ x4
set_option maxRecDepth 100000 in
set_option maxHeartbeats 2000000 in
theorem part_walk_4 {w : World} {P : Nat} {tv lv : Value} {S : Src} {s : Ps} (h : PIn w P tv lv S s) (c1 : Hid (isB S.A [(ByteArray.mk #[107, 101, 121])] s = false)) (c2 : Hid (isB S.A [(ByteArray.mk #[114, 101, 102, 101, 114, 101, 110, 99, 101])] s = false)) (c3 : Hid (isB S.A [(ByteArray.mk #[99, 111, 117, 110, 116])] s = false)) (c4 : Hid (isB S.A [(ByteArray.mk #[97, 99, 121, 99, 108, 105, 99])] s = true)) :
 Calls Tryz.prog 86 #[.pointer (some ⟨P, 0, none⟩)] w (NEnd w P tv lv S s (px.part S.A s)) := by
 have f0 := Lib.hid (FIn.start h)
 have cat := h.cell.2.2.1
 have cla := h.cell.2.2.2.1
 have hP := lt_of_block h.box
 have hm0 : px.part S.A s = (node 16 s.at_ ((name S.A (next S.A s).2).1) [] (name S.A (next S.A s).2).2, (name S.A (next S.A s).2).2) := by
  unfold px.part
  simp only [c1.out, c2.out, c3.out, c4.out, if_true, if_false, Bool.false_eq_true, Bool.true_eq_false, reduceIte, Nat.reduceEqDiff]
 have hm := Lib.hid hm0
 clear hm0
 generalize px.part S.A s = m at *
 have h1 := Lib.hid (fun (W : World) (lvq : Value) (q : PIn W P tv lvq S s) => opt_no q (ByteArray.mk #[107, 101, 121]) c1.out)
 have h2 := Lib.hid (fun (W : World) (lvq : Value) (q : PIn W P tv lvq S s) => opt_no q (ByteArray.mk #[114, 101, 102, 101, 114, 101, 110, 99, 101]) c2.out)
 have h3 := Lib.hid (fun (W : World) (lvq : Value) (q : PIn W P tv lvq S s) => opt_no q (ByteArray.mk #[99, 111, 117, 110, 116]) c3.out)
 have h4 := Lib.hid (fun (W : World) (lvq : Value) (q : PIn W P tv lvq S s) => opt_yes q (ByteArray.mk #[97, 99, 121, 99, 108, 105, 99]) c4.out)
 generalize (next S.A s).2 = s4 at *
 have h5 := Lib.hid (fun (W : World) (lvq : Value) (q : PIn W P tv lvq S s4) => name_walk q)
 generalize (name S.A s4).1 = x5 at *
 generalize (name S.A s4).2 = s5 at *
 clear h
 go_enter Tryz.func86, Tryz.ntmps86
 go_upto_region 1 with fail
 go_region
 go_wp2_with (first
  | (go_at_call 38; refine (f5.out.callLeaf (by repeat (first | exact Below.refl _ _ | apply bl_drew | apply bl_alloc)) 16 s.at_ (Nat.le_refl _) x5).mono ?_; rintro e w6 ⟨rfl, g⟩; have f6 := Lib.hid g; clear g; obtain ⟨z0, z1, z2, z3, z4, z5⟩ := f6.out.fin.cells)
  | (go_at_call 80; refine (f4.out.callS (by repeat (first | exact Below.refl _ _ | apply bl_drew | apply bl_alloc)) (h5.out _ _)).mono ?_; rintro e w5 ⟨lv5, rfl, g⟩; have f5 := Lib.hid g; clear g)
  | (go_at_call 96; refine (f3.out.callS (by repeat (first | exact Below.refl _ _ | apply bl_drew | apply bl_alloc)) (h4.out _ _)).mono ?_; rintro e w4 ⟨lv4, rfl, g⟩; have f4 := Lib.hid g; clear g)
  | (go_at_call 96; refine (f2.out.callS (by repeat (first | exact Below.refl _ _ | apply bl_drew | apply bl_alloc)) (h3.out _ _)).mono ?_; rintro e w3 ⟨lv3, rfl, g⟩; have f3 := Lib.hid g; clear g)
  | (go_at_call 96; refine (f1.out.callS (by repeat (first | exact Below.refl _ _ | apply bl_drew | apply bl_alloc)) (h2.out _ _)).mono ?_; rintro e w2 ⟨lv2, rfl, g⟩; have f2 := Lib.hid g; clear g)
  | (go_at_call 96; refine (f0.out.callS (by repeat (first | exact Below.refl _ _ | apply bl_drew | apply bl_alloc)) (h1.out _ _)).mono ?_; rintro e w1 ⟨lv1, rfl, g⟩; have f1 := Lib.hid g; clear g))
 refine bodyPost_ret (v := .agg #[.int .i64 16, .string x5, .int .i64 (S.at_ s.at_ s5.at_), .int .i64 (S.last s5.at_), .slice none 0 0]) (by simp [results, Tryz.results86, go_sem, z0, z1, z2, z3, z4] <;> rfl) rfl ?_
 rw [hm.out]
 exact f6.out.end_ (kept5 _ _ _ _ _ _ _) 16 s.at_ x5
set_option maxRecDepth 100000 in
set_option maxHeartbeats 2000000 in
theorem part_walk_5 {w : World} {P : Nat} {tv lv : Value} {S : Src} {s : Ps} (h : PIn w P tv lv S s) (c1 : Hid (isB S.A [(ByteArray.mk #[107, 101, 121])] s = false)) (c2 : Hid (isB S.A [(ByteArray.mk #[114, 101, 102, 101, 114, 101, 110, 99, 101])] s = false)) (c3 : Hid (isB S.A [(ByteArray.mk #[99, 111, 117, 110, 116])] s = false)) (c4 : Hid (isB S.A [(ByteArray.mk #[97, 99, 121, 99, 108, 105, 99])] s = false)) (c5 : Hid (isB S.A [(ByteArray.mk #[97, 108, 108])] s = true)) :
 Calls Tryz.prog 86 #[.pointer (some ⟨P, 0, none⟩)] w (NEnd w P tv lv S s (px.part S.A s)) := by
 have f0 := Lib.hid (FIn.start h)
 have cat := h.cell.2.2.1
 have cla := h.cell.2.2.2.1
 have hP := lt_of_block h.box
 have hm0 : px.part S.A s = (node 17 s.at_ (⟨#[]⟩) [(columns S.A (next S.A s).2).1, (total S.A (columns S.A (next S.A s).2).2).1, (bound S.A (integer S.A) (total S.A (columns S.A (next S.A s).2).2).2).1] (bound S.A (integer S.A) (total S.A (columns S.A (next S.A s).2).2).2).2, (bound S.A (integer S.A) (total S.A (columns S.A (next S.A s).2).2).2).2) := by
  unfold px.part
  simp only [c1.out, c2.out, c3.out, c4.out, c5.out, if_true, if_false, Bool.false_eq_true, Bool.true_eq_false, reduceIte, Nat.reduceEqDiff]
 have hm := Lib.hid hm0
 clear hm0
 generalize px.part S.A s = m at *
 have h1 := Lib.hid (fun (W : World) (lvq : Value) (q : PIn W P tv lvq S s) => opt_no q (ByteArray.mk #[107, 101, 121]) c1.out)
 have h2 := Lib.hid (fun (W : World) (lvq : Value) (q : PIn W P tv lvq S s) => opt_no q (ByteArray.mk #[114, 101, 102, 101, 114, 101, 110, 99, 101]) c2.out)
 have h3 := Lib.hid (fun (W : World) (lvq : Value) (q : PIn W P tv lvq S s) => opt_no q (ByteArray.mk #[99, 111, 117, 110, 116]) c3.out)
 have h4 := Lib.hid (fun (W : World) (lvq : Value) (q : PIn W P tv lvq S s) => opt_no q (ByteArray.mk #[97, 99, 121, 99, 108, 105, 99]) c4.out)
 have h5 := Lib.hid (fun (W : World) (lvq : Value) (q : PIn W P tv lvq S s) => opt_yes q (ByteArray.mk #[97, 108, 108]) c5.out)
 generalize (next S.A s).2 = s5 at *
 have h6 := Lib.hid (fun (W : World) (lvq : Value) (q : PIn W P tv lvq S s5) => columns_walk q)
 generalize columns S.A s5 = k6 at *
 obtain ⟨kk6, s6⟩ := k6
 have h7 := Lib.hid (fun (W : World) (lvq : Value) (q : PIn W P tv lvq S s6) => total_walk q)
 generalize total S.A s6 = k7 at *
 obtain ⟨kk7, s7⟩ := k7
 have h8 := Lib.hid (fun (W : World) (lvq : Value) (q : PIn W P tv lvq S s7) => bound_int_walk q)
 generalize bound S.A (integer S.A) s7 = k8 at *
 obtain ⟨kk8, s8⟩ := k8
 clear h
 go_enter Tryz.func86, Tryz.ntmps86
 go_upto_region 1 with fail
 go_region
 go_wp2_with (first
  | (go_at_call 38; refine ((f8.out.box1 nks8 rfl).callNode (by repeat (first | exact Below.refl _ _ | apply bl_drew | apply bl_alloc)) 17 s.at_ (Nat.le_refl _) ⟨#[]⟩ rfl (by simp) rfl (by simp)).mono ?_; rintro e w9 ⟨rfl, g⟩; have f9 := Lib.hid g; clear g; obtain ⟨z0, z1, z2, z3, z4, z5⟩ := f9.out.fin.cells)
  | (go_at_call 137; refine ((f7.out.box1 nks7 rfl).callN (by repeat (first | exact Below.refl _ _ | apply bl_drew | apply bl_alloc)) (h8.out _ _)).mono ?_; rintro e w8 ⟨lv8, nk8, nt8, na8, ne8, nao8, ncap8, nks8, rfl, g⟩; have f8 := Lib.hid g; clear g; obtain ⟨y00, y01, y02, y03, y04, y05, y06⟩ := f8.out.bx 0 rfl; obtain ⟨y10, y11, y12, y13, y14, y15, y16⟩ := f8.out.bx 1 rfl)
  | (go_at_call 138; refine ((f6.out.box1 nks6 rfl).callN (by repeat (first | exact Below.refl _ _ | apply bl_drew | apply bl_alloc)) (h7.out _ _)).mono ?_; rintro e w7 ⟨lv7, nk7, nt7, na7, ne7, nao7, ncap7, nks7, rfl, g⟩; have f7 := Lib.hid g; clear g)
  | (go_at_call 82; refine (f5.out.callN (by repeat (first | exact Below.refl _ _ | apply bl_drew | apply bl_alloc)) (h6.out _ _)).mono ?_; rintro e w6 ⟨lv6, nk6, nt6, na6, ne6, nao6, ncap6, nks6, rfl, g⟩; have f6 := Lib.hid g; clear g)
  | (go_at_call 96; refine (f4.out.callS (by repeat (first | exact Below.refl _ _ | apply bl_drew | apply bl_alloc)) (h5.out _ _)).mono ?_; rintro e w5 ⟨lv5, rfl, g⟩; have f5 := Lib.hid g; clear g)
  | (go_at_call 96; refine (f3.out.callS (by repeat (first | exact Below.refl _ _ | apply bl_drew | apply bl_alloc)) (h4.out _ _)).mono ?_; rintro e w4 ⟨lv4, rfl, g⟩; have f4 := Lib.hid g; clear g)
  | (go_at_call 96; refine (f2.out.callS (by repeat (first | exact Below.refl _ _ | apply bl_drew | apply bl_alloc)) (h3.out _ _)).mono ?_; rintro e w3 ⟨lv3, rfl, g⟩; have f3 := Lib.hid g; clear g)
  | (go_at_call 96; refine (f1.out.callS (by repeat (first | exact Below.refl _ _ | apply bl_drew | apply bl_alloc)) (h2.out _ _)).mono ?_; rintro e w2 ⟨lv2, rfl, g⟩; have f2 := Lib.hid g; clear g)
  | (go_at_call 96; refine (f0.out.callS (by repeat (first | exact Below.refl _ _ | apply bl_drew | apply bl_alloc)) (h1.out _ _)).mono ?_; rintro e w1 ⟨lv1, rfl, g⟩; have f1 := Lib.hid g; clear g))
 refine bodyPost_ret (v := .agg #[.int .i64 17, .string ⟨#[]⟩, .int .i64 (S.at_ s.at_ s8.at_), .int .i64 (S.last s8.at_), .slice _ 3 3]) (by simp [results, Tryz.results86, go_sem, z0, z1, z2, z3, z4] <;> rfl) rfl ?_
 rw [hm.out]
 exact f9.out.end_ (kept5 _ _ _ _ _ _ _) 17 s.at_ ⟨#[]⟩
set_option maxRecDepth 100000 in
set_option maxHeartbeats 2000000 in
theorem part_walk_6 {w : World} {P : Nat} {tv lv : Value} {S : Src} {s : Ps} (h : PIn w P tv lv S s) (c1 : Hid (isB S.A [(ByteArray.mk #[107, 101, 121])] s = false)) (c2 : Hid (isB S.A [(ByteArray.mk #[114, 101, 102, 101, 114, 101, 110, 99, 101])] s = false)) (c3 : Hid (isB S.A [(ByteArray.mk #[99, 111, 117, 110, 116])] s = false)) (c4 : Hid (isB S.A [(ByteArray.mk #[97, 99, 121, 99, 108, 105, 99])] s = false)) (c5 : Hid (isB S.A [(ByteArray.mk #[97, 108, 108])] s = false)) :
 Calls Tryz.prog 86 #[.pointer (some ⟨P, 0, none⟩)] w (NEnd w P tv lv S s (px.part S.A s)) := by
 have f0 := Lib.hid (FIn.start h)
 have cat := h.cell.2.2.1
 have cla := h.cell.2.2.2.1
 have hP := lt_of_block h.box
 have hm0 : px.part S.A s = ((missing 0 (report 4 (ByteArray.mk #[105, 110, 118, 97, 114, 105, 97, 110, 116]) s)), (report 4 (ByteArray.mk #[105, 110, 118, 97, 114, 105, 97, 110, 116]) s)) := by
  unfold px.part
  simp only [c1.out, c2.out, c3.out, c4.out, c5.out, if_true, if_false, Bool.false_eq_true, Bool.true_eq_false, reduceIte, Nat.reduceEqDiff]
 have hm := Lib.hid hm0
 clear hm0
 generalize px.part S.A s = m at *
 have h1 := Lib.hid (fun (W : World) (lvq : Value) (q : PIn W P tv lvq S s) => opt_no q (ByteArray.mk #[107, 101, 121]) c1.out)
 have h2 := Lib.hid (fun (W : World) (lvq : Value) (q : PIn W P tv lvq S s) => opt_no q (ByteArray.mk #[114, 101, 102, 101, 114, 101, 110, 99, 101]) c2.out)
 have h3 := Lib.hid (fun (W : World) (lvq : Value) (q : PIn W P tv lvq S s) => opt_no q (ByteArray.mk #[99, 111, 117, 110, 116]) c3.out)
 have h4 := Lib.hid (fun (W : World) (lvq : Value) (q : PIn W P tv lvq S s) => opt_no q (ByteArray.mk #[97, 99, 121, 99, 108, 105, 99]) c4.out)
 have h5 := Lib.hid (fun (W : World) (lvq : Value) (q : PIn W P tv lvq S s) => opt_no q (ByteArray.mk #[97, 108, 108]) c5.out)
 have h6 := Lib.hid (fun (W : World) (lvq : Value) (q : PIn W P tv lvq S s) => report_walk q 4 (ByteArray.mk #[105, 110, 118, 97, 114, 105, 97, 110, 116]) (rp4 (by decide)))
 generalize report 4 (ByteArray.mk #[105, 110, 118, 97, 114, 105, 97, 110, 116]) s = s6 at *
 have h7 := Lib.hid (fun (W : World) (lvq : Value) (q : PIn W P tv lvq S s6) => missing_walk q 0)
 clear h
 go_enter Tryz.func86, Tryz.ntmps86
 go_upto_region 1 with fail
 go_region
 go_wp2_with (first
  | (go_at_call 136; refine (f6.out.callN (by repeat (first | exact Below.refl _ _ | apply bl_drew | apply bl_alloc)) (h7.out _ _)).mono ?_; rintro e w7 ⟨lv7, nk7, nt7, na7, ne7, nao7, ncap7, nks7, rfl, g⟩; have f7 := Lib.hid g; clear g; obtain ⟨z0, z1, z2, z3, z4, z5⟩ := f7.out.cells)
  | (go_at_call 36; refine (f5.out.callS (by repeat (first | exact Below.refl _ _ | apply bl_drew | apply bl_alloc)) (h6.out _ _)).mono ?_; rintro e w6 ⟨lv6, rfl, g⟩; have f6 := Lib.hid g; clear g)
  | (go_at_call 96; refine (f4.out.callS (by repeat (first | exact Below.refl _ _ | apply bl_drew | apply bl_alloc)) (h5.out _ _)).mono ?_; rintro e w5 ⟨lv5, rfl, g⟩; have f5 := Lib.hid g; clear g)
  | (go_at_call 96; refine (f3.out.callS (by repeat (first | exact Below.refl _ _ | apply bl_drew | apply bl_alloc)) (h4.out _ _)).mono ?_; rintro e w4 ⟨lv4, rfl, g⟩; have f4 := Lib.hid g; clear g)
  | (go_at_call 96; refine (f2.out.callS (by repeat (first | exact Below.refl _ _ | apply bl_drew | apply bl_alloc)) (h3.out _ _)).mono ?_; rintro e w3 ⟨lv3, rfl, g⟩; have f3 := Lib.hid g; clear g)
  | (go_at_call 96; refine (f1.out.callS (by repeat (first | exact Below.refl _ _ | apply bl_drew | apply bl_alloc)) (h2.out _ _)).mono ?_; rintro e w2 ⟨lv2, rfl, g⟩; have f2 := Lib.hid g; clear g)
  | (go_at_call 96; refine (f0.out.callS (by repeat (first | exact Below.refl _ _ | apply bl_drew | apply bl_alloc)) (h1.out _ _)).mono ?_; rintro e w1 ⟨lv1, rfl, g⟩; have f1 := Lib.hid g; clear g))
 refine bodyPost_ret (v := .agg #[.int .i64 nk7, .string nt7, .int .i64 na7, .int .i64 ne7, .slice nao7 nks7.length ncap7]) (by simp [results, Tryz.results86, go_sem, z0, z1, z2, z3, z4] <;> rfl) rfl ?_
 rw [hm.out]
 exact f7.out.pass (kept5 _ _ _ _ _ _ _)
theorem part_walk {w : World} {P : Nat} {tv lv : Value} {S : Src} {s : Ps} (h : PIn w P tv lv S s) :
 Calls Tryz.prog 86 #[.pointer (some ⟨P, 0, none⟩)] w (NEnd w P tv lv S s (px.part S.A s)) := by
 cases q1 : isB S.A [(ByteArray.mk #[107, 101, 121])] s with
 | true =>
  exact part_walk_1 h (Lib.hid q1)
 | false =>
  cases q2 : isB S.A [(ByteArray.mk #[114, 101, 102, 101, 114, 101, 110, 99, 101])] s with
  | true =>
   exact part_walk_2 h (Lib.hid q1) (Lib.hid q2)
  | false =>
   cases q3 : isB S.A [(ByteArray.mk #[99, 111, 117, 110, 116])] s with
   | true =>
    exact part_walk_3 h (Lib.hid q1) (Lib.hid q2) (Lib.hid q3)
   | false =>
    cases q4 : isB S.A [(ByteArray.mk #[97, 99, 121, 99, 108, 105, 99])] s with
    | true =>
     exact part_walk_4 h (Lib.hid q1) (Lib.hid q2) (Lib.hid q3) (Lib.hid q4)
    | false =>
     cases q5 : isB S.A [(ByteArray.mk #[97, 108, 108])] s with
     | true =>
      exact part_walk_5 h (Lib.hid q1) (Lib.hid q2) (Lib.hid q3) (Lib.hid q4) (Lib.hid q5)
     | false =>
      exact part_walk_6 h (Lib.hid q1) (Lib.hid q2) (Lib.hid q3) (Lib.hid q4) (Lib.hid q5)
end Go.Proofs.YthggagophcnkfaaGreatDoor.py
