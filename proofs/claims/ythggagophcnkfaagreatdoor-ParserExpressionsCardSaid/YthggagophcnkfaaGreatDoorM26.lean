/- The walk of the reference parser's expression at the levels of binary operators. The walks of the reference parser's primary and of its expression at all levels. -/
import Derived.Test.YthggagophcnkfaaGreatDoorM25
import Derived.Test.YthggagophcnkfaaGreatDoorM44
namespace Go.Proofs.YthggagophcnkfaaGreatDoor.py
open Go.RowKit Go.Proofs.YthggagophcnkfaaGreatDoor.agg Go.Proofs.YthggagophcnkfaaGreatDoor.sx Go.Proofs.YthggagophcnkfaaGreatDoor.px
set_option linter.unusedSimpArgs false
set_option linter.unusedVariables false
def FnX (P : Nat) (tv : Value) (S : Src) (lev : Int) (f : M PT) (n : Nat) : Prop := ∀ (W : World) (lv : Value) (s : Ps), PIn W P tv lv S s → S.L.length < s.at_ + n → Calls Tryz.prog 45 #[.pointer (some ⟨P, 0, none⟩), .int .i64 lev] W (NEnd W P tv lv S s (f s))
def OpsOk (lev : Int) (ws : List ByteArray) : Prop := ∀ W : World, Calls Tryz.prog 98 #[.int .i64 lev] W fun e w' => ∃ ao n cap, e = .returned (.slice ao n cap) ∧ StrsIn w' (.slice ao n cap) ws ∧ Below W.heap.size W w'
theorem strs_nil (W : World) : StrsIn W (.slice none 0 0) [] := ⟨none, 0, rfl, fun j hj => by simp at hj⟩
set_option maxRecDepth 100000 in
set_option maxHeartbeats 1000000 in
theorem ops_1 : OpsOk 1 [(ByteArray.mk #[111, 114])] := by
 intro W
 go_enter Tryz.func98, Tryz.ntmps98
 go_wp2_with fail
 go_ret
 exact ⟨_, _, _, rfl, strs_new W [(ByteArray.mk #[111, 114])] 1 rfl, (Below.refl _ W).alloc (Nat.le_refl _) _⟩
set_option maxRecDepth 100000 in
set_option maxHeartbeats 1000000 in
theorem ops_2 : OpsOk 2 [(ByteArray.mk #[97, 110, 100])] := by
 intro W
 go_enter Tryz.func98, Tryz.ntmps98
 go_wp2_with fail
 go_ret
 exact ⟨_, _, _, rfl, strs_new W [(ByteArray.mk #[97, 110, 100])] 1 rfl, (Below.refl _ W).alloc (Nat.le_refl _) _⟩
set_option maxRecDepth 100000 in
set_option maxHeartbeats 1000000 in
theorem ops_3 : OpsOk 3 [] := by
 intro W
 go_enter Tryz.func98, Tryz.ntmps98
 go_wp2_with fail
 go_ret
 exact ⟨_, _, _, rfl, strs_nil _, Below.refl _ _⟩
set_option maxRecDepth 100000 in
set_option maxHeartbeats 1000000 in
theorem ops_4 : OpsOk 4 [(ByteArray.mk #[61, 61]), (ByteArray.mk #[33, 61]), (ByteArray.mk #[60]), (ByteArray.mk #[60, 61]), (ByteArray.mk #[62]), (ByteArray.mk #[62, 61])] := by
 intro W
 go_enter Tryz.func98, Tryz.ntmps98
 go_wp2_with fail
 go_ret
 exact ⟨_, _, _, rfl, strs_new W [(ByteArray.mk #[61, 61]), (ByteArray.mk #[33, 61]), (ByteArray.mk #[60]), (ByteArray.mk #[60, 61]), (ByteArray.mk #[62]), (ByteArray.mk #[62, 61])] 6 rfl, (Below.refl _ W).alloc (Nat.le_refl _) _⟩
set_option maxRecDepth 100000 in
set_option maxHeartbeats 1000000 in
theorem ops_5 : OpsOk 5 [(ByteArray.mk #[43]), (ByteArray.mk #[45])] := by
 intro W
 go_enter Tryz.func98, Tryz.ntmps98
 go_wp2_with fail
 go_ret
 exact ⟨_, _, _, rfl, strs_new W [(ByteArray.mk #[43]), (ByteArray.mk #[45])] 2 rfl, (Below.refl _ W).alloc (Nat.le_refl _) _⟩
set_option maxRecDepth 100000 in
set_option maxHeartbeats 1000000 in
theorem ops_6 : OpsOk 6 [(ByteArray.mk #[42])] := by
 intro W
 go_enter Tryz.func98, Tryz.ntmps98
 go_wp2_with fail
 go_ret
 exact ⟨_, _, _, rfl, strs_new W [(ByteArray.mk #[42])] 1 rfl, (Below.refl _ W).alloc (Nat.le_refl _) _⟩
section
variable {w0 : World} {Z : Nat} {P : Nat} {tv lv0 : Value} {S : Src} {s0 : Ps} {w w' : World} {lv lv' : Value} {s s' : Ps} {ks : Kds} {bs : Bxs} {W : World}
theorem FIn.callOps {lev : Int} {ws : List ByteArray} (h : FIn w0 Z P tv lv0 S s0 w lv s ks bs) (hb : Below w.heap.size w W) (ho : OpsOk lev ws) :
 Calls Tryz.prog 98 #[.int .i64 lev] W fun e w' => ∃ ao n cap, e = .returned (.slice ao n cap) ∧ StrsIn w' (.slice ao n cap) ws ∧ FIn w0 Z P tv lv0 S s0 w' lv s ks bs :=
 (ho W).mono fun _ _ ⟨ao, n, cap, h1, h2, h3⟩ => ⟨ao, n, cap, h1, h2, (h.below hb).below h3⟩
theorem FIn.callIsS (h : FIn w0 Z P tv lv0 S s0 w lv s ks bs) {v : Value} {ws : List ByteArray} (hv : StrsIn w v ws) (b : Bool) (hi : isB S.A ws s = b) (hl : ws.length < 1000) :
 Calls Tryz.prog 33 #[.pointer (some ⟨P, 0, none⟩), v] w fun e w' => e = .returned (.bool b) ∧ FIn w0 Z P tv lv0 S s0 w' lv s ks bs := by
 subst hi
 exact (is_walk h.pin v ws hv hl).mono fun _ _ ⟨h1, h2⟩ => ⟨h1, h.below h2⟩
end
section
variable {w0 : World} {Z : Nat} {P : Nat} {tv lv0 : Value} {S : Src} {s0 : Ps} {w w' : World} {lv lv' : Value} {s s' : Ps} {ks : Kds} {bs : Bxs} {W : World}
theorem FIn.callNm {f : Nat} {args : Array Value} {r : PT × Ps} (h : FIn w0 Z P tv lv0 S s0 w lv s ks bs) (hb : Below w.heap.size w W) (c : PIn W P tv lv S s → Calls Tryz.prog f args W (NEnd W P tv lv S s r)) :
 Calls Tryz.prog f args W fun e w' => ∃ lv' nk nt na ne nao ncap nks, e = .returned (.agg #[.int .i64 nk, .string nt, .int .i64 na, .int .i64 ne, .slice nao nks.length ncap]) ∧ FIn w0 Z P tv lv0 S s0 w' lv' r.2 (ks ++ [(Nd.mk nk nt na ne (.slice nao nks.length ncap) nks, r.1)]) bs ∧ s.at_ ≤ r.2.at_ :=
 have g := h.below hb
 (c g.pin).mono fun _ _ ⟨lv', nk, nt, na, ne, nao, ncap, nks, h1, t1, t2, t3, t4, t5, t6⟩ => ⟨lv', nk, nt, na, ne, nao, ncap, nks, h1, g.nsend t1 t2 t3 t4 t5 t6, t6⟩
end
theorem FIn.bxZ {w0 : World} {Z : Nat} {P : Nat} {tv lv0 : Value} {S : Src} {s0 : Ps} {w : World} {lv : Value} {s : Ps} {ks : Kds} {bs : Bxs} (h : FIn w0 Z P tv lv0 S s0 w lv s ks bs) (i : Nat) {b : Nat} {n : Nd} (hi : bs[i]? = some (b, n)) : Z ≠ b ∧ b ≠ Z := by
 have := (h.boxes _ (List.mem_of_getElem? hi)).2.2
 simp only at this
 omega
set_option maxRecDepth 100000 in
set_option maxHeartbeats 4000000 in
theorem binlev_walk {w : World} {P : Nat} {tv lv : Value} {S : Src} {s : Ps} (h : PIn w P tv lv S s) (lev : Int) (hl1 : 1 ≤ lev ∧ lev ≤ 6) (hl3 : (lev == 3) = false) (hl4 : (lev == 4) = false) (f : M PT) (n : Nat) (hf : FnX P tv S (lev + 1) f n) (hn : S.L.length < s.at_ + n) (ws : List ByteArray) (ho : OpsOk lev ws) (hwl : ws.length < 1000) :
 Calls Tryz.prog 45 #[.pointer (some ⟨P, 0, none⟩), .int .i64 lev] w (NEnd w P tv lv S s (binary S.A f ws s)) := by
 have f0 := Lib.hid (FIn.start h)
 have cat := h.cell.2.2.1
 have cla := h.cell.2.2.2.1
 have hP := lt_of_block h.box
 have hF := Lib.hid hf
 have hO := Lib.hid ho
 have hl7 : (lev == 7) = false := by rw [beq_eq_false_iff_ne]; omega
 have hm : Hid (binary S.A f ws s = binMore S.A f ws s.at_ S.A.length (f s).1 (f s).2) := rfl
 have h1 := Lib.hid (fun (W : World) (lvq : Value) (q : PIn W P tv lvq S s) => hF.out W lvq s q hn)
 obtain ⟨R, hR⟩ : ∃ R, binMore S.A f ws s.at_ S.A.length (f s).1 (f s).2 = R := ⟨_, rfl⟩
 rw [hR] at hm
 have hR' := Lib.hid hR
 clear hR hf ho
 generalize binary S.A f ws s = m at *
 generalize f s = k1 at *
 obtain ⟨kk1, s1⟩ := k1
 obtain ⟨r1, r2⟩ := R
 clear h
 go_enter Tryz.func45, Tryz.ntmps45
 go_upto_region 1 with fail
 go_region
 go_wp2_with (first
  | (go_at_call 45; refine (f0.out.callN (by repeat (first | exact Below.refl _ _ | apply bl_drew | apply bl_alloc)) (h1.out _ _)).mono ?_; rintro e w1 ⟨lv1, nk1, nt1, na1, ne1, nao1, ncap1, nks1, rfl, g⟩; have f1 := Lib.hid (g.box1 (k := nk1) (t := nt1) (a := na1) (e := ne1) (v := .slice nao1 nks1.length ncap1) nks1 rfl); clear g))
 generalize hb1 : w1.heap.size = b1 at *
 go_loopw [11] (fun sv wr => ∃ (k : Nat) (lv2 : Value) (s2 : Ps) (nk : Int) (nt : ByteArray) (na ne : Int) (nao : Option Addr) (nl ncap : Nat) (nks : List Nd) (t : PT), FIn w w.heap.size P tv lv S s wr lv2 s2 [(Nd.mk nk nt na ne (.slice nao nl ncap) nks, t)] [(b1, Nd.mk nk nt na ne (.slice nao nl ncap) nks)] ∧ S.L.length ≤ s2.at_ + k ∧ Hid (binMore S.A f ws s.at_ k t s2 = (r1, r2))) (fun _ wr => S.L.length - atOf P wr)
 case atStart => exact ⟨S.A.length, lv1, s1, nk1, nt1, na1, ne1, nao1, _, ncap1, nks1, kk1, f1.out, by rw [Src.len]; omega, hR'⟩
 case round =>
  obtain ⟨k, lv4, s4, nk, nt, na, ne, nao, nl, ncap, nks, t, e5', hk, hmo⟩ := hrel
  have e5 := Lib.hid e5'
  have hlt := e5'.pin.sok.lt
  have hmon := e5'.mono
  have hato := Lib.hid e5'.pin.atOf
  clear e5'
  cases hc : isB S.A ws s4 with
  | true =>
   have hc' := Lib.hid hc
   obtain ⟨k', rfl⟩ : ∃ k', k = k' + 1 := ⟨k - 1, by omega⟩
   have hmo2 := Lib.hid ((bin_go hc).symm.trans hmo.out)
   have hnx : (next S.A s4).2.at_ = s4.at_ + 1 := rfl
   clear hc
   have hNx := Lib.hid (fun (W : World) (lv2 : Value) (q : PIn W P tv lv2 S s4) => read_walk q (isB_kind hc'.out))
   generalize (next S.A s4).1 = x6 at *
   generalize (next S.A s4).2 = s6 at *
   have hF2 := Lib.hid (fun (W : World) (lv2 : Value) (q : PIn W P tv lv2 S s6) => hF.out W lv2 s6 q (by omega))
   generalize f s6 = k7 at *
   obtain ⟨kk7, s7⟩ := k7
   go_wp2_with (first
    | (go_at_call 38; refine (f8.out.callNode (by repeat (first | exact Below.refl _ _ | apply bl_drew | apply bl_alloc)) 40 s.at_ (Nat.le_refl _) x6 rfl (by simp) rfl (by simp)).mono ?_; rintro e w9 ⟨rfl, g⟩; obtain ⟨q00, q01, q02, q03, q04, q05, q06⟩ := g.fin.bx 0 rfl; have f9 := Lib.hid ((g.kid 40 s.at_ x6).forget); have hat9 := g.fin.mono; clear g)
    | (go_at_call 45; refine (f7.out.callNm (by repeat (first | exact Below.refl _ _ | apply bl_drew | apply bl_alloc)) (hF2.out _ _)).mono ?_; rintro e w8 ⟨lv8, nk8, nt8, na8, ne8, nao8, ncap8, nks8, rfl, g, hm8⟩; obtain ⟨y00, y01, y02, y03, y04, y05, y06⟩ := g.bx 0 rfl; have f8 := Lib.hid (g.box1 (k := nk8) (t := nt8) (a := na8) (e := ne8) (v := .slice nao8 nks8.length ncap8) nks8 rfl); clear g)
    | (go_at_call 37; refine (f6.out.callS (by repeat (first | exact Below.refl _ _ | apply bl_drew | apply bl_alloc)) (hNx.out _ _)).mono ?_; rintro e w7 ⟨lv7, rfl, g⟩; have f7 := Lib.hid g; clear g)
    | (go_at_call 33; refine (f51.out.callIsS hs51.out true hc'.out hwl).mono ?_; rintro e w6 ⟨rfl, g⟩; have f6 := Lib.hid g; clear g)
    | (go_at_call 98; refine (e5.out.callOps (by repeat (first | exact Below.refl _ _ | apply bl_drew | apply bl_alloc)) hO.out).mono ?_; rintro e w51 ⟨o51, n51, c51, rfl, hs, g⟩; have f51 := Lib.hid g; have hs51 := Lib.hid hs; clear g hs))
   go_roundw
   case rel => exact ⟨k', lv8, s7, _, _, _, _, _, _, _, _, _, FIn.over (bs := []) f9.out 1, by omega, hmo2⟩
   case measure => rw [(FIn.over (k' := 40) (t' := x6) (a' := S.at_ s.at_ s7.at_) (e' := S.last s7.at_) (v' := .slice (some ⟨w8.heap.size + 1, 0, none⟩) 2 2) (nks' := []) (bs := []) f9.out 1).pin.atOf, hato.out]; omega
  | false =>
   have hc' := Lib.hid hc
   have hst := bin_stop hc |>.symm.trans hmo.out
   obtain ⟨rfl, rfl⟩ : t = r1 ∧ s4 = r2 := by simpa using hst
   clear hc hst
   go_wp2_with (first
    | (go_at_call 33; refine (f51.out.callIsS hs51.out false hc'.out hwl).mono ?_; rintro e w6 ⟨rfl, g⟩; obtain ⟨y00, y01, y02, y03, y04, y05, y06⟩ := g.bx 0 rfl; obtain ⟨z0, z1, z2, z3, z4, z5⟩ := g.cells; have f6 := Lib.hid g; clear g)
    | (go_at_call 98; refine (e5.out.callOps (by repeat (first | exact Below.refl _ _ | apply bl_drew | apply bl_alloc)) hO.out).mono ?_; rintro e w51 ⟨o51, n51, c51, rfl, hs, g⟩; have f51 := Lib.hid g; have hs51 := Lib.hid hs; clear g hs))
   refine bodyPost_ret (v := .agg #[.int .i64 nk, .string nt, .int .i64 na, .int .i64 ne, .slice nao nl ncap]) (by simp [results, Tryz.results45, go_sem, z0, z1, z2, z3, z4] <;> rfl) rfl ?_
   rw [hm.out]
   exact f6.out.done (kept5 _ _ _ _ _ _ _) _ _ (f6.out.kids _ (List.mem_singleton.2 rfl)).2 ((f6.out.kids _ (List.mem_singleton.2 rfl)).1.mono (fun b _ hq => ⟨hq.1, hq.2.1⟩)) _ rfl
theorem fx_bin {P : Nat} {tv : Value} {S : Src} {lev : Int} (hl1 : 1 ≤ lev ∧ lev ≤ 6) (hl3 : (lev == 3) = false) (hl4 : (lev == 4) = false) {f : M PT} {n : Nat} {ws : List ByteArray} (ho : OpsOk lev ws) (hwl : ws.length < 1000) {lev2 : Int} (he : lev2 = lev + 1) (hf : FnX P tv S lev2 f n) : FnX P tv S lev (binary S.A f ws) n := by
 subst he
 exact fun W lv s q hn => binlev_walk q lev hl1 hl3 hl4 f n hf hn ws ho hwl
end Go.Proofs.YthggagophcnkfaaGreatDoor.py
namespace Go.Proofs.YthggagophcnkfaaGreatDoor.py
open Go.RowKit Go.Proofs.YthggagophcnkfaaGreatDoor.agg Go.Proofs.YthggagophcnkfaaGreatDoor.sx Go.Proofs.YthggagophcnkfaaGreatDoor.px
set_option linter.unusedSimpArgs false
set_option linter.unusedVariables false
set_option maxRecDepth 100000 in
set_option maxHeartbeats 2000000 in
theorem primary_walk_1 {w : World} {P : Nat} {tv lv : Value} {S : Src} {s : Ps} (h : PIn w P tv lv S s) (ex : M PT) (n : Nat) (hE : FnX P tv S 1 ex n) (hn : S.L.length < s.at_ + (n + 1)) (c1 : Hid ((tok S.A s).kind = 3)) :
 Calls Tryz.prog 97 #[.pointer (some ⟨P, 0, none⟩)] w (NEnd w P tv lv S s (primary S.A ex s)) := by
 have f0 := Lib.hid (FIn.start h)
 have hP := lt_of_block h.box
 have hE2 := Lib.hid hE
 have hm0 : primary S.A ex s = ((number S.A s).1, (number S.A s).2) := by
  unfold primary
  simp only [c1.out, if_true, if_false, Bool.false_eq_true, Bool.true_eq_false, reduceIte, Nat.reduceEqDiff]
 have hm := Lib.hid hm0
 clear hm0
 generalize primary S.A ex s = m at *
 have h1 := Lib.hid (fun (W : World) (lvq : Value) (q : PIn W P tv lvq S s) => kind_b q 3 3 rfl (decide_eq_true c1.out))
 have h2 := Lib.hid (fun (W : World) (lvq : Value) (q : PIn W P tv lvq S s) => number_walk q)
 generalize number S.A s = k2 at *
 obtain ⟨kk2, s2⟩ := k2
 clear h
 go_enter Tryz.func97, Tryz.ntmps97
 go_wp2_with (first
  | (go_at_call 81; refine (f1.out.callN (by repeat (first | exact Below.refl _ _ | apply bl_drew | apply bl_alloc)) (h2.out _ _)).mono ?_; rintro e w2 ⟨lv2, nk2, nt2, na2, ne2, nao2, ncap2, nks2, rfl, g⟩; have f2 := Lib.hid g; clear g; obtain ⟨z0, z1, z2, z3, z4, z5⟩ := f2.out.cells)
  | (go_at_call 32; refine (f0.out.callB (by repeat (first | exact Below.refl _ _ | apply bl_drew | apply bl_alloc)) (h1.out _ _)).mono ?_; rintro e w1 ⟨rfl, g⟩; have f1 := Lib.hid g; clear g))
 refine bodyPost_ret (v := .agg #[.int .i64 nk2, .string nt2, .int .i64 na2, .int .i64 ne2, .slice nao2 nks2.length ncap2]) (by simp [results, Tryz.results97, go_sem, z0, z1, z2, z3, z4] <;> rfl) rfl ?_
 rw [hm.out]
 exact f2.out.pass (kept5 _ _ _ _ _ _ _)
set_option maxRecDepth 100000 in
set_option maxHeartbeats 2000000 in
theorem primary_walk_2 {w : World} {P : Nat} {tv lv : Value} {S : Src} {s : Ps} (h : PIn w P tv lv S s) (ex : M PT) (n : Nat) (hE : FnX P tv S 1 ex n) (hn : S.L.length < s.at_ + (n + 1)) (c1 : Hid (¬ (tok S.A s).kind = 3)) (c2 : Hid ((tok S.A s).kind = 1)) :
 Calls Tryz.prog 97 #[.pointer (some ⟨P, 0, none⟩)] w (NEnd w P tv lv S s (primary S.A ex s)) := by
 have f0 := Lib.hid (FIn.start h)
 have hP := lt_of_block h.box
 have hE2 := Lib.hid hE
 have hm0 : primary S.A ex s = ((named S.A s).1, (named S.A s).2) := by
  unfold primary
  simp only [c1.out, c2.out, if_true, if_false, Bool.false_eq_true, Bool.true_eq_false, reduceIte, Nat.reduceEqDiff]
 have hm := Lib.hid hm0
 clear hm0
 generalize primary S.A ex s = m at *
 have h1 := Lib.hid (fun (W : World) (lvq : Value) (q : PIn W P tv lvq S s) => kind_b q 3 3 rfl (decide_eq_false c1.out))
 have h2 := Lib.hid (fun (W : World) (lvq : Value) (q : PIn W P tv lvq S s) => kind_b q 1 1 rfl (decide_eq_true c2.out))
 have h3 := Lib.hid (fun (W : World) (lvq : Value) (q : PIn W P tv lvq S s) => named_walk q)
 generalize named S.A s = k3 at *
 obtain ⟨kk3, s3⟩ := k3
 clear h
 go_enter Tryz.func97, Tryz.ntmps97
 go_wp2_with (first
  | (go_at_call 81; refine (f2.out.callN (by repeat (first | exact Below.refl _ _ | apply bl_drew | apply bl_alloc)) (h3.out _ _)).mono ?_; rintro e w3 ⟨lv3, nk3, nt3, na3, ne3, nao3, ncap3, nks3, rfl, g⟩; have f3 := Lib.hid g; clear g; obtain ⟨z0, z1, z2, z3, z4, z5⟩ := f3.out.cells)
  | (go_at_call 32; refine (f1.out.callB (by repeat (first | exact Below.refl _ _ | apply bl_drew | apply bl_alloc)) (h2.out _ _)).mono ?_; rintro e w2 ⟨rfl, g⟩; have f2 := Lib.hid g; clear g)
  | (go_at_call 32; refine (f0.out.callB (by repeat (first | exact Below.refl _ _ | apply bl_drew | apply bl_alloc)) (h1.out _ _)).mono ?_; rintro e w1 ⟨rfl, g⟩; have f1 := Lib.hid g; clear g))
 refine bodyPost_ret (v := .agg #[.int .i64 nk3, .string nt3, .int .i64 na3, .int .i64 ne3, .slice nao3 nks3.length ncap3]) (by simp [results, Tryz.results97, go_sem, z0, z1, z2, z3, z4] <;> rfl) rfl ?_
 rw [hm.out]
 exact f3.out.pass (kept5 _ _ _ _ _ _ _)
set_option maxRecDepth 100000 in
set_option maxHeartbeats 2000000 in
theorem primary_walk_3 {w : World} {P : Nat} {tv lv : Value} {S : Src} {s : Ps} (h : PIn w P tv lv S s) (ex : M PT) (n : Nat) (hE : FnX P tv S 1 ex n) (hn : S.L.length < s.at_ + (n + 1)) (c1 : Hid (¬ (tok S.A s).kind = 3)) (c2 : Hid (¬ (tok S.A s).kind = 1)) (c3 : Hid (isB S.A [(ByteArray.mk #[40])] s = true)) :
 Calls Tryz.prog 97 #[.pointer (some ⟨P, 0, none⟩)] w (NEnd w P tv lv S s (primary S.A ex s)) := by
 have f0 := Lib.hid (FIn.start h)
 have hP := lt_of_block h.box
 have hE2 := Lib.hid hE
 have hm0 : primary S.A ex s = ((ex (next S.A s).2).1, (demand S.A (ByteArray.mk #[41]) (ex (next S.A s).2).2).2) := by
  unfold primary
  simp only [c1.out, c2.out, c3.out, if_true, if_false, Bool.false_eq_true, Bool.true_eq_false, reduceIte, Nat.reduceEqDiff]
 have hm := Lib.hid hm0
 clear hm0
 generalize primary S.A ex s = m at *
 have h1 := Lib.hid (fun (W : World) (lvq : Value) (q : PIn W P tv lvq S s) => kind_b q 3 3 rfl (decide_eq_false c1.out))
 have h2 := Lib.hid (fun (W : World) (lvq : Value) (q : PIn W P tv lvq S s) => kind_b q 1 1 rfl (decide_eq_false c2.out))
 have hq1 : S.L.length < (next S.A s).2.at_ + n := by show _ < s.at_ + 1 + n; omega
 have h3 := Lib.hid (fun (W : World) (lvq : Value) (q : PIn W P tv lvq S s) => opt_yes q (ByteArray.mk #[40]) c3.out)
 generalize (next S.A s).2 = s3 at *
 have h4 := Lib.hid (fun (W : World) (lvq : Value) (q : PIn W P tv lvq S s3) => hE2.out _ _ _ q hq1)
 generalize ex s3 = k4 at *
 obtain ⟨kk4, s4⟩ := k4
 have h5 := Lib.hid (fun (W : World) (lvq : Value) (q : PIn W P tv lvq S s4) => expect_walk q (ByteArray.mk #[41]) (by decide))
 generalize (demand S.A (ByteArray.mk #[41]) s4).1 = x5 at *
 generalize (demand S.A (ByteArray.mk #[41]) s4).2 = s5 at *
 clear h
 go_enter Tryz.func97, Tryz.ntmps97
 go_wp2_with (first
  | (go_at_call 83; refine ((f4.out.box1 nks4 rfl).callS (by repeat (first | exact Below.refl _ _ | apply bl_drew | apply bl_alloc)) (h5.out _ _)).mono ?_; rintro e w5 ⟨lv5, rfl, g⟩; have f5 := Lib.hid g; clear g; obtain ⟨y00, y01, y02, y03, y04, y05, y06⟩ := f5.out.bx 0 rfl; obtain ⟨z0, z1, z2, z3, z4, z5⟩ := f5.out.cells)
  | (go_at_call 45; refine (f3.out.callN (by repeat (first | exact Below.refl _ _ | apply bl_drew | apply bl_alloc)) (h4.out _ _)).mono ?_; rintro e w4 ⟨lv4, nk4, nt4, na4, ne4, nao4, ncap4, nks4, rfl, g⟩; have f4 := Lib.hid g; clear g)
  | (go_at_call 96; refine (f2.out.callS (by repeat (first | exact Below.refl _ _ | apply bl_drew | apply bl_alloc)) (h3.out _ _)).mono ?_; rintro e w3 ⟨lv3, rfl, g⟩; have f3 := Lib.hid g; clear g)
  | (go_at_call 32; refine (f1.out.callB (by repeat (first | exact Below.refl _ _ | apply bl_drew | apply bl_alloc)) (h2.out _ _)).mono ?_; rintro e w2 ⟨rfl, g⟩; have f2 := Lib.hid g; clear g)
  | (go_at_call 32; refine (f0.out.callB (by repeat (first | exact Below.refl _ _ | apply bl_drew | apply bl_alloc)) (h1.out _ _)).mono ?_; rintro e w1 ⟨rfl, g⟩; have f1 := Lib.hid g; clear g))
 refine bodyPost_ret (v := .agg #[.int .i64 nk4, .string nt4, .int .i64 na4, .int .i64 ne4, .slice nao4 nks4.length ncap4]) (by simp [results, Tryz.results97, go_sem, z0, z1, z2, z3, z4] <;> rfl) rfl ?_
 rw [hm.out]
 exact f5.out.pass (kept5 _ _ _ _ _ _ _)
set_option maxRecDepth 100000 in
set_option maxHeartbeats 2000000 in
theorem primary_walk_4 {w : World} {P : Nat} {tv lv : Value} {S : Src} {s : Ps} (h : PIn w P tv lv S s) (ex : M PT) (n : Nat) (hE : FnX P tv S 1 ex n) (hn : S.L.length < s.at_ + (n + 1)) (c1 : Hid (¬ (tok S.A s).kind = 3)) (c2 : Hid (¬ (tok S.A s).kind = 1)) (c3 : Hid (isB S.A [(ByteArray.mk #[40])] s = false)) :
 Calls Tryz.prog 97 #[.pointer (some ⟨P, 0, none⟩)] w (NEnd w P tv lv S s (primary S.A ex s)) := by
 have f0 := Lib.hid (FIn.start h)
 have hP := lt_of_block h.box
 have hE2 := Lib.hid hE
 have hm0 : primary S.A ex s = ((missing 0 (report 5 ⟨#[]⟩ s)), (report 5 ⟨#[]⟩ s)) := by
  unfold primary
  simp only [c1.out, c2.out, c3.out, if_true, if_false, Bool.false_eq_true, Bool.true_eq_false, reduceIte, Nat.reduceEqDiff]
 have hm := Lib.hid hm0
 clear hm0
 generalize primary S.A ex s = m at *
 have h1 := Lib.hid (fun (W : World) (lvq : Value) (q : PIn W P tv lvq S s) => kind_b q 3 3 rfl (decide_eq_false c1.out))
 have h2 := Lib.hid (fun (W : World) (lvq : Value) (q : PIn W P tv lvq S s) => kind_b q 1 1 rfl (decide_eq_false c2.out))
 have h3 := Lib.hid (fun (W : World) (lvq : Value) (q : PIn W P tv lvq S s) => opt_no q (ByteArray.mk #[40]) c3.out)
 have h4 := Lib.hid (fun (W : World) (lvq : Value) (q : PIn W P tv lvq S s) => report_walk q 5 ⟨#[]⟩ ⟨by decide, by decide, by simp⟩)
 generalize report 5 ⟨#[]⟩ s = s4 at *
 have h5 := Lib.hid (fun (W : World) (lvq : Value) (q : PIn W P tv lvq S s4) => missing_walk q 0)
 clear h
 go_enter Tryz.func97, Tryz.ntmps97
 go_wp2_with (first
  | (go_at_call 136; refine (f4.out.callN (by repeat (first | exact Below.refl _ _ | apply bl_drew | apply bl_alloc)) (h5.out _ _)).mono ?_; rintro e w5 ⟨lv5, nk5, nt5, na5, ne5, nao5, ncap5, nks5, rfl, g⟩; have f5 := Lib.hid g; clear g; obtain ⟨z0, z1, z2, z3, z4, z5⟩ := f5.out.cells)
  | (go_at_call 36; refine (f3.out.callS (by repeat (first | exact Below.refl _ _ | apply bl_drew | apply bl_alloc)) (h4.out _ _)).mono ?_; rintro e w4 ⟨lv4, rfl, g⟩; have f4 := Lib.hid g; clear g)
  | (go_at_call 96; refine (f2.out.callS (by repeat (first | exact Below.refl _ _ | apply bl_drew | apply bl_alloc)) (h3.out _ _)).mono ?_; rintro e w3 ⟨lv3, rfl, g⟩; have f3 := Lib.hid g; clear g)
  | (go_at_call 32; refine (f1.out.callB (by repeat (first | exact Below.refl _ _ | apply bl_drew | apply bl_alloc)) (h2.out _ _)).mono ?_; rintro e w2 ⟨rfl, g⟩; have f2 := Lib.hid g; clear g)
  | (go_at_call 32; refine (f0.out.callB (by repeat (first | exact Below.refl _ _ | apply bl_drew | apply bl_alloc)) (h1.out _ _)).mono ?_; rintro e w1 ⟨rfl, g⟩; have f1 := Lib.hid g; clear g))
 refine bodyPost_ret (v := .agg #[.int .i64 nk5, .string nt5, .int .i64 na5, .int .i64 ne5, .slice nao5 nks5.length ncap5]) (by simp [results, Tryz.results97, go_sem, z0, z1, z2, z3, z4] <;> rfl) rfl ?_
 rw [hm.out]
 exact f5.out.pass (kept5 _ _ _ _ _ _ _)
theorem primary_walk {w : World} {P : Nat} {tv lv : Value} {S : Src} {s : Ps} (h : PIn w P tv lv S s) (ex : M PT) (n : Nat) (hE : FnX P tv S 1 ex n) (hn : S.L.length < s.at_ + (n + 1)) :
 Calls Tryz.prog 97 #[.pointer (some ⟨P, 0, none⟩)] w (NEnd w P tv lv S s (primary S.A ex s)) := by
 by_cases q1 : (tok S.A s).kind = 3
 ·skip
  exact primary_walk_1 h ex n hE hn (Lib.hid q1)
 ·skip
  by_cases q2 : (tok S.A s).kind = 1
  ·skip
   exact primary_walk_2 h ex n hE hn (Lib.hid q1) (Lib.hid q2)
  ·skip
   cases q3 : isB S.A [(ByteArray.mk #[40])] s with
   | true =>
    exact primary_walk_3 h ex n hE hn (Lib.hid q1) (Lib.hid q2) (Lib.hid q3)
   | false =>
    exact primary_walk_4 h ex n hE hn (Lib.hid q1) (Lib.hid q2) (Lib.hid q3)
theorem isB_nil (A : List Tk) (s : Ps) : isB A [] s = false := by unfold isB; simp [hasS]
def FnP (P : Nat) (tv : Value) (S : Src) (f : M PT) (n : Nat) : Prop := ∀ (W : World) (lv : Value) (s : Ps), PIn W P tv lv S s → S.L.length < s.at_ + n → Calls Tryz.prog 97 #[.pointer (some ⟨P, 0, none⟩)] W (NEnd W P tv lv S s (f s))
set_option maxRecDepth 100000 in
set_option maxHeartbeats 2000000 in
theorem neg_walk_1 {w : World} {P : Nat} {tv lv : Value} {S : Src} {s : Ps} (h : PIn w P tv lv S s) (f : M PT) (n m : Nat) (hf : FnX P tv S 7 f n) (hn : S.L.length < s.at_ + 1 + n) (base : M PT) (hb : FnP P tv S base m) (hn2 : S.L.length < s.at_ + m) (c1 : Hid (isB S.A [(ByteArray.mk #[45])] s = true)) :
 Calls Tryz.prog 45 #[.pointer (some ⟨P, 0, none⟩), .int .i64 7] w (NEnd w P tv lv S s (pre1 S.A (ByteArray.mk #[45]) f base s)) := by
 have f0 := Lib.hid (FIn.start h)
 have cat := h.cell.2.2.1
 have cla := h.cell.2.2.2.1
 have hP := lt_of_block h.box
 have hf2 := Lib.hid hf
 have hb2 := Lib.hid hb
 clear hf hb
 have hm0 : pre1 S.A (ByteArray.mk #[45]) f base s = (node 39 s.at_ ((ByteArray.mk #[45])) [(f (next S.A s).2).1] (f (next S.A s).2).2, (f (next S.A s).2).2) := by
  unfold pre1 unary node1
  simp only [is1_word c1.out, c1.out, if_true, if_false, Bool.false_eq_true, Bool.true_eq_false, reduceIte, Nat.reduceEqDiff]
 have hm := Lib.hid hm0
 clear hm0
 generalize pre1 S.A (ByteArray.mk #[45]) f base s = m at *
 have hq1 : S.L.length < (next S.A s).2.at_ + n := hn
 have h1 := Lib.hid (fun (W : World) (lvq : Value) (q : PIn W P tv lvq S s) => opt_yes q (ByteArray.mk #[45]) c1.out)
 generalize (next S.A s).2 = s1 at *
 have h2 := Lib.hid (fun (W : World) (lvq : Value) (q : PIn W P tv lvq S s1) => hf2.out _ _ _ q hq1)
 generalize f s1 = k2 at *
 obtain ⟨kk2, s2⟩ := k2
 clear h
 go_enter Tryz.func45, Tryz.ntmps45
 go_upto_region 1 with fail
 go_region
 go_wp2_with (first
  | (go_at_call 38; refine ((f2.out.box1 nks2 rfl).callNode (by repeat (first | exact Below.refl _ _ | apply bl_drew | apply bl_alloc)) 39 s.at_ (Nat.le_refl _) (ByteArray.mk #[45]) rfl (by simp) rfl (by simp)).mono ?_; rintro e w3 ⟨rfl, g⟩; have f3 := Lib.hid g; clear g; obtain ⟨z0, z1, z2, z3, z4, z5⟩ := f3.out.fin.cells)
  | (go_at_call 45; refine (f1.out.callN (by repeat (first | exact Below.refl _ _ | apply bl_drew | apply bl_alloc)) (h2.out _ _)).mono ?_; rintro e w2 ⟨lv2, nk2, nt2, na2, ne2, nao2, ncap2, nks2, rfl, g⟩; have f2 := Lib.hid g; clear g)
  | (go_at_call 96; refine (f0.out.callS (by repeat (first | exact Below.refl _ _ | apply bl_drew | apply bl_alloc)) (h1.out _ _)).mono ?_; rintro e w1 ⟨lv1, rfl, g⟩; have f1 := Lib.hid g; clear g))
 refine bodyPost_ret (v := .agg #[.int .i64 39, .string ((ByteArray.mk #[45])), .int .i64 (S.at_ s.at_ s2.at_), .int .i64 (S.last s2.at_), .slice _ 1 1]) (by simp [results, Tryz.results45, go_sem, z0, z1, z2, z3, z4] <;> rfl) rfl ?_
 rw [hm.out]
 exact f3.out.end_ (kept5 _ _ _ _ _ _ _) 39 s.at_ (ByteArray.mk #[45])
set_option maxRecDepth 100000 in
set_option maxHeartbeats 2000000 in
theorem neg_walk_2 {w : World} {P : Nat} {tv lv : Value} {S : Src} {s : Ps} (h : PIn w P tv lv S s) (f : M PT) (n m : Nat) (hf : FnX P tv S 7 f n) (hn : S.L.length < s.at_ + 1 + n) (base : M PT) (hb : FnP P tv S base m) (hn2 : S.L.length < s.at_ + m) (c1 : Hid (isB S.A [(ByteArray.mk #[45])] s = false)) :
 Calls Tryz.prog 45 #[.pointer (some ⟨P, 0, none⟩), .int .i64 7] w (NEnd w P tv lv S s (pre1 S.A (ByteArray.mk #[45]) f base s)) := by
 have f0 := Lib.hid (FIn.start h)
 have cat := h.cell.2.2.1
 have cla := h.cell.2.2.2.1
 have hP := lt_of_block h.box
 have hf2 := Lib.hid hf
 have hb2 := Lib.hid hb
 clear hf hb
 have hm0 : pre1 S.A (ByteArray.mk #[45]) f base s = ((base s).1, (base s).2) := by
  unfold pre1
  simp only [c1.out, if_true, if_false, Bool.false_eq_true, Bool.true_eq_false, reduceIte, Nat.reduceEqDiff]
 have hm := Lib.hid hm0
 clear hm0
 generalize pre1 S.A (ByteArray.mk #[45]) f base s = m at *
 have h1 := Lib.hid (fun (W : World) (lvq : Value) (q : PIn W P tv lvq S s) => opt_no q (ByteArray.mk #[45]) c1.out)
 have h2 := Lib.hid (fun (W : World) (lvq : Value) (q : PIn W P tv lvq S s) => hb2.out _ _ _ q hn2)
 generalize base s = k2 at *
 obtain ⟨kk2, s2⟩ := k2
 clear h
 go_enter Tryz.func45, Tryz.ntmps45
 go_upto_region 1 with fail
 go_region
 go_wp2_with (first
  | (go_at_call 97; refine (f1.out.callN (by repeat (first | exact Below.refl _ _ | apply bl_drew | apply bl_alloc)) (h2.out _ _)).mono ?_; rintro e w2 ⟨lv2, nk2, nt2, na2, ne2, nao2, ncap2, nks2, rfl, g⟩; have f2 := Lib.hid g; clear g; obtain ⟨z0, z1, z2, z3, z4, z5⟩ := f2.out.cells)
  | (go_at_call 96; refine (f0.out.callS (by repeat (first | exact Below.refl _ _ | apply bl_drew | apply bl_alloc)) (h1.out _ _)).mono ?_; rintro e w1 ⟨lv1, rfl, g⟩; have f1 := Lib.hid g; clear g))
 refine bodyPost_ret (v := .agg #[.int .i64 nk2, .string nt2, .int .i64 na2, .int .i64 ne2, .slice nao2 nks2.length ncap2]) (by simp [results, Tryz.results45, go_sem, z0, z1, z2, z3, z4] <;> rfl) rfl ?_
 rw [hm.out]
 exact f2.out.pass (kept5 _ _ _ _ _ _ _)
set_option maxRecDepth 100000 in
set_option maxHeartbeats 2000000 in
theorem not_walk_1 {w : World} {P : Nat} {tv lv : Value} {S : Src} {s : Ps} (h : PIn w P tv lv S s) (f : M PT) (n m : Nat) (hf : FnX P tv S 3 f n) (hn : S.L.length < s.at_ + 1 + n) (base : M PT) (hb : FnX P tv S 4 base m) (hn2 : S.L.length < s.at_ + m) (c1 : Hid (isB S.A [(ByteArray.mk #[110, 111, 116])] s = true)) :
 Calls Tryz.prog 45 #[.pointer (some ⟨P, 0, none⟩), .int .i64 3] w (NEnd w P tv lv S s (pre1 S.A (ByteArray.mk #[110, 111, 116]) f base s)) := by
 have f0 := Lib.hid (FIn.start h)
 have cat := h.cell.2.2.1
 have cla := h.cell.2.2.2.1
 have hP := lt_of_block h.box
 have hf2 := Lib.hid hf
 have hb2 := Lib.hid hb
 clear hf hb
 have hm0 : pre1 S.A (ByteArray.mk #[110, 111, 116]) f base s = (node 39 s.at_ ((ByteArray.mk #[110, 111, 116])) [(f (next S.A s).2).1] (f (next S.A s).2).2, (f (next S.A s).2).2) := by
  unfold pre1 unary node1
  simp only [is1_word c1.out, c1.out, if_true, if_false, Bool.false_eq_true, Bool.true_eq_false, reduceIte, Nat.reduceEqDiff]
 have hm := Lib.hid hm0
 clear hm0
 generalize pre1 S.A (ByteArray.mk #[110, 111, 116]) f base s = m at *
 have hq1 : S.L.length < (next S.A s).2.at_ + n := hn
 have h1 := Lib.hid (fun (W : World) (lvq : Value) (q : PIn W P tv lvq S s) => opt_yes q (ByteArray.mk #[110, 111, 116]) c1.out)
 generalize (next S.A s).2 = s1 at *
 have h2 := Lib.hid (fun (W : World) (lvq : Value) (q : PIn W P tv lvq S s1) => hf2.out _ _ _ q hq1)
 generalize f s1 = k2 at *
 obtain ⟨kk2, s2⟩ := k2
 clear h
 go_enter Tryz.func45, Tryz.ntmps45
 go_upto_region 1 with fail
 go_region
 go_wp2_with (first
  | (go_at_call 38; refine ((f2.out.box1 nks2 rfl).callNode (by repeat (first | exact Below.refl _ _ | apply bl_drew | apply bl_alloc)) 39 s.at_ (Nat.le_refl _) (ByteArray.mk #[110, 111, 116]) rfl (by simp) rfl (by simp)).mono ?_; rintro e w3 ⟨rfl, g⟩; have f3 := Lib.hid g; clear g; obtain ⟨z0, z1, z2, z3, z4, z5⟩ := f3.out.fin.cells)
  | (go_at_call 45; refine (f1.out.callN (by repeat (first | exact Below.refl _ _ | apply bl_drew | apply bl_alloc)) (h2.out _ _)).mono ?_; rintro e w2 ⟨lv2, nk2, nt2, na2, ne2, nao2, ncap2, nks2, rfl, g⟩; have f2 := Lib.hid g; clear g)
  | (go_at_call 96; refine (f0.out.callS (by repeat (first | exact Below.refl _ _ | apply bl_drew | apply bl_alloc)) (h1.out _ _)).mono ?_; rintro e w1 ⟨lv1, rfl, g⟩; have f1 := Lib.hid g; clear g))
 refine bodyPost_ret (v := .agg #[.int .i64 39, .string ((ByteArray.mk #[110, 111, 116])), .int .i64 (S.at_ s.at_ s2.at_), .int .i64 (S.last s2.at_), .slice _ 1 1]) (by simp [results, Tryz.results45, go_sem, z0, z1, z2, z3, z4] <;> rfl) rfl ?_
 rw [hm.out]
 exact f3.out.end_ (kept5 _ _ _ _ _ _ _) 39 s.at_ (ByteArray.mk #[110, 111, 116])
set_option maxRecDepth 100000 in
set_option maxHeartbeats 2000000 in
theorem not_walk_2 {w : World} {P : Nat} {tv lv : Value} {S : Src} {s : Ps} (h : PIn w P tv lv S s) (f : M PT) (n m : Nat) (hf : FnX P tv S 3 f n) (hn : S.L.length < s.at_ + 1 + n) (base : M PT) (hb : FnX P tv S 4 base m) (hn2 : S.L.length < s.at_ + m) (c1 : Hid (isB S.A [(ByteArray.mk #[110, 111, 116])] s = false)) :
 Calls Tryz.prog 45 #[.pointer (some ⟨P, 0, none⟩), .int .i64 3] w (NEnd w P tv lv S s (pre1 S.A (ByteArray.mk #[110, 111, 116]) f base s)) := by
 have f0 := Lib.hid (FIn.start h)
 have cat := h.cell.2.2.1
 have cla := h.cell.2.2.2.1
 have hP := lt_of_block h.box
 have hf2 := Lib.hid hf
 have hb2 := Lib.hid hb
 clear hf hb
 have hm0 : pre1 S.A (ByteArray.mk #[110, 111, 116]) f base s = ((base s).1, (base s).2) := by
  unfold pre1
  simp only [c1.out, if_true, if_false, Bool.false_eq_true, Bool.true_eq_false, reduceIte, Nat.reduceEqDiff]
 have hm := Lib.hid hm0
 clear hm0
 generalize pre1 S.A (ByteArray.mk #[110, 111, 116]) f base s = m at *
 have h1 := Lib.hid (fun (W : World) (lvq : Value) (q : PIn W P tv lvq S s) => opt_no q (ByteArray.mk #[110, 111, 116]) c1.out)
 have h2 := Lib.hid (fun (W : World) (lvq : Value) (q : PIn W P tv lvq S s) => hb2.out _ _ _ q hn2)
 generalize base s = k2 at *
 obtain ⟨kk2, s2⟩ := k2
 clear h
 go_enter Tryz.func45, Tryz.ntmps45
 go_upto_region 1 with fail
 go_region
 go_wp2_with (first
  | (go_at_call 45; refine (f1.out.callN (by repeat (first | exact Below.refl _ _ | apply bl_drew | apply bl_alloc)) (h2.out _ _)).mono ?_; rintro e w2 ⟨lv2, nk2, nt2, na2, ne2, nao2, ncap2, nks2, rfl, g⟩; have f2 := Lib.hid g; clear g)
  | (go_at_call 96; refine (f0.out.callS (by repeat (first | exact Below.refl _ _ | apply bl_drew | apply bl_alloc)) (h1.out _ _)).mono ?_; rintro e w1 ⟨lv1, rfl, g⟩; have f1 := Lib.hid g; clear g))
 refine wp_loop_once ?_
 go_wp2_with (first
  | (go_at_call 33; refine (f3.out.callIsS hs3.out false (isB_nil _ _) (by decide)).mono ?_; rintro e w4 ⟨rfl, g⟩; have f4 := Lib.hid g; clear g; obtain ⟨y00, y01, y02, y03, y04, y05, y06⟩ := f4.out.bx 0 rfl; obtain ⟨z0, z1, z2, z3, z4, z5⟩ := f4.out.cells)
  | (go_at_call 98; refine ((f2.out.box1 nks2 rfl).callOps (by repeat (first | exact Below.refl _ _ | apply bl_drew | apply bl_alloc)) ops_3).mono ?_; rintro e w3 ⟨o3, n3, c3, rfl, hs, g⟩; have f3 := Lib.hid g; have hs3 := Lib.hid hs; clear g hs))
 refine bodyPost_ret (v := .agg #[.int .i64 nk2, .string nt2, .int .i64 na2, .int .i64 ne2, .slice nao2 nks2.length ncap2]) (by simp [results, Tryz.results45, go_sem, z0, z1, z2, z3, z4] <;> rfl) rfl ?_
 rw [hm.out]
 exact f4.out.pass (kept5 _ _ _ _ _ _ _)
set_option maxRecDepth 100000 in
set_option maxHeartbeats 2000000 in
theorem comparison_walk_1 {w : World} {P : Nat} {tv lv : Value} {S : Src} {s : Ps} (h : PIn w P tv lv S s) (ex : M PT) (n : Nat) (hd : FnX P tv S 5 (difference S.A ex) n) (hn : S.L.length < s.at_ + n) (c1 : Hid (isB S.A [(ByteArray.mk #[61, 61]), (ByteArray.mk #[33, 61]), (ByteArray.mk #[60]), (ByteArray.mk #[60, 61]), (ByteArray.mk #[62]), (ByteArray.mk #[62, 61])] (difference S.A ex s).2 = true)) :
 Calls Tryz.prog 45 #[.pointer (some ⟨P, 0, none⟩), .int .i64 4] w (NEnd w P tv lv S s (comparison S.A ex s)) := by
 have f0 := Lib.hid (FIn.start h)
 have cat := h.cell.2.2.1
 have cla := h.cell.2.2.2.1
 have hP := lt_of_block h.box
 have hd2 := Lib.hid hd
 clear hd
 have hm0 : comparison S.A ex s = (node 40 s.at_ ((next S.A (difference S.A ex s).2).1) [(difference S.A ex s).1, (difference S.A ex (next S.A (difference S.A ex s).2).2).1] (difference S.A ex (next S.A (difference S.A ex s).2).2).2, (difference S.A ex (next S.A (difference S.A ex s).2).2).2) := by
  unfold comparison
  simp only [cmpWords, c1.out, if_true, if_false, Bool.false_eq_true, Bool.true_eq_false, reduceIte, Nat.reduceEqDiff]
 have hm := Lib.hid hm0
 clear hm0
 generalize comparison S.A ex s = m at *
 have h1 := Lib.hid (fun (W : World) (lvq : Value) (q : PIn W P tv lvq S s) => hd2.out _ _ _ q hn)
 generalize difference S.A ex s = k1 at *
 obtain ⟨kk1, s1⟩ := k1
 have h4 := Lib.hid (fun (W : World) (lvq : Value) (q : PIn W P tv lvq S s1) => read_walk q (isB_kind c1.out))
 generalize (next S.A s1).1 = x4 at *
 generalize (next S.A s1).2 = s4 at *
 have h5 := Lib.hid (fun (W : World) (lvq : Value) (q : PIn W P tv lvq S s4) (hmo : s.at_ ≤ s4.at_) => hd2.out _ _ _ q (by omega))
 generalize difference S.A ex s4 = k5 at *
 obtain ⟨kk5, s5⟩ := k5
 clear h
 go_enter Tryz.func45, Tryz.ntmps45
 go_upto_region 1 with fail
 go_region
 go_wp2_with (first
  | (go_at_call 45; refine (f0.out.callN (by repeat (first | exact Below.refl _ _ | apply bl_drew | apply bl_alloc)) (h1.out _ _)).mono ?_; rintro e w1 ⟨lv1, nk1, nt1, na1, ne1, nao1, ncap1, nks1, rfl, g⟩; have f1 := Lib.hid g; clear g))
 refine wp_loop_once ?_
 go_wp2_with (first
  | (go_at_call 38; refine ((f5.out.box1 nks5 rfl).callNode (by repeat (first | exact Below.refl _ _ | apply bl_drew | apply bl_alloc)) 40 s.at_ (Nat.le_refl _) x4 rfl (by simp) rfl (by simp)).mono ?_; rintro e w6 ⟨rfl, g⟩; obtain ⟨q00, q01, q02, q03, q04, q05, q06⟩ := g.fin.bx 0 rfl; obtain ⟨z0, z1, z2, z3, z4, z5⟩ := g.fin.cells; obtain ⟨zb0, zb1⟩ := g.fin.bxZ 0 rfl; have f6 := Lib.hid ((g.kid 40 s.at_ x4).forget); clear g)
  | (go_at_call 45; refine (f4.out.callN (by repeat (first | exact Below.refl _ _ | apply bl_drew | apply bl_alloc)) (fun q => h5.out _ _ q f4.out.mono)).mono ?_; rintro e w5 ⟨lv5, nk5, nt5, na5, ne5, nao5, ncap5, nks5, rfl, g⟩; have f5 := Lib.hid g; clear g; obtain ⟨y00, y01, y02, y03, y04, y05, y06⟩ := f5.out.bx 0 rfl)
  | (go_at_call 37; refine (f3.out.callS (by repeat (first | exact Below.refl _ _ | apply bl_drew | apply bl_alloc)) (h4.out _ _)).mono ?_; rintro e w4 ⟨lv4, rfl, g⟩; have f4 := Lib.hid g; clear g)
  | (go_at_call 33; refine (f2.out.callIsS hs2.out true c1.out (by decide)).mono ?_; rintro e w3 ⟨rfl, g⟩; have f3 := Lib.hid g; clear g)
  | (go_at_call 98; refine ((f1.out.box1 nks1 rfl).callOps (by repeat (first | exact Below.refl _ _ | apply bl_drew | apply bl_alloc)) ops_4).mono ?_; rintro e w2 ⟨o2, n2, c2, rfl, hs, g⟩; have f2 := Lib.hid g; have hs2 := Lib.hid hs; clear g hs))
 refine bodyPost_ret (v := .agg #[.int .i64 40, .string x4, .int .i64 (S.at_ s.at_ s5.at_), .int .i64 (S.last s5.at_), .slice _ 2 2]) (by simp [results, Tryz.results45, go_sem, z0, z1, z2, z3, z4] <;> rfl) rfl ?_
 rw [hm.out]
 have f7 := FIn.over (k' := 40) (t' := x4) (a' := S.at_ s.at_ s5.at_) (e' := S.last s5.at_) (v' := .slice (some ⟨w5.heap.size + 1, 0, none⟩) 2 2) (nks' := []) (bs := []) f6.out 1
 exact f7.done (kept5 _ _ _ _ _ _ _) _ _ (f7.kids _ (List.mem_singleton.2 rfl)).2 ((f7.kids _ (List.mem_singleton.2 rfl)).1.mono (fun b _ hq => ⟨hq.1, hq.2.1⟩)) _ rfl
set_option maxRecDepth 100000 in
set_option maxHeartbeats 2000000 in
theorem comparison_walk_2 {w : World} {P : Nat} {tv lv : Value} {S : Src} {s : Ps} (h : PIn w P tv lv S s) (ex : M PT) (n : Nat) (hd : FnX P tv S 5 (difference S.A ex) n) (hn : S.L.length < s.at_ + n) (c1 : Hid (isB S.A [(ByteArray.mk #[61, 61]), (ByteArray.mk #[33, 61]), (ByteArray.mk #[60]), (ByteArray.mk #[60, 61]), (ByteArray.mk #[62]), (ByteArray.mk #[62, 61])] (difference S.A ex s).2 = false)) :
 Calls Tryz.prog 45 #[.pointer (some ⟨P, 0, none⟩), .int .i64 4] w (NEnd w P tv lv S s (comparison S.A ex s)) := by
 have f0 := Lib.hid (FIn.start h)
 have cat := h.cell.2.2.1
 have cla := h.cell.2.2.2.1
 have hP := lt_of_block h.box
 have hd2 := Lib.hid hd
 clear hd
 have hm0 : comparison S.A ex s = ((difference S.A ex s).1, (difference S.A ex s).2) := by
  unfold comparison
  simp only [cmpWords, c1.out, if_true, if_false, Bool.false_eq_true, Bool.true_eq_false, reduceIte, Nat.reduceEqDiff]
 have hm := Lib.hid hm0
 clear hm0
 generalize comparison S.A ex s = m at *
 have h1 := Lib.hid (fun (W : World) (lvq : Value) (q : PIn W P tv lvq S s) => hd2.out _ _ _ q hn)
 generalize difference S.A ex s = k1 at *
 obtain ⟨kk1, s1⟩ := k1
 clear h
 go_enter Tryz.func45, Tryz.ntmps45
 go_upto_region 1 with fail
 go_region
 go_wp2_with (first
  | (go_at_call 45; refine (f0.out.callN (by repeat (first | exact Below.refl _ _ | apply bl_drew | apply bl_alloc)) (h1.out _ _)).mono ?_; rintro e w1 ⟨lv1, nk1, nt1, na1, ne1, nao1, ncap1, nks1, rfl, g⟩; have f1 := Lib.hid g; clear g))
 refine wp_loop_once ?_
 go_wp2_with (first
  | (go_at_call 33; refine (f2.out.callIsS hs2.out false c1.out (by decide)).mono ?_; rintro e w3 ⟨rfl, g⟩; have f3 := Lib.hid g; clear g; obtain ⟨y00, y01, y02, y03, y04, y05, y06⟩ := f3.out.bx 0 rfl; obtain ⟨z0, z1, z2, z3, z4, z5⟩ := f3.out.cells)
  | (go_at_call 98; refine ((f1.out.box1 nks1 rfl).callOps (by repeat (first | exact Below.refl _ _ | apply bl_drew | apply bl_alloc)) ops_4).mono ?_; rintro e w2 ⟨o2, n2, c2, rfl, hs, g⟩; have f2 := Lib.hid g; have hs2 := Lib.hid hs; clear g hs))
 refine bodyPost_ret (v := .agg #[.int .i64 nk1, .string nt1, .int .i64 na1, .int .i64 ne1, .slice nao1 nks1.length ncap1]) (by simp [results, Tryz.results45, go_sem, z0, z1, z2, z3, z4] <;> rfl) rfl ?_
 rw [hm.out]
 exact f3.out.pass (kept5 _ _ _ _ _ _ _)
theorem comparison_walk {w : World} {P : Nat} {tv lv : Value} {S : Src} {s : Ps} (h : PIn w P tv lv S s) (ex : M PT) (n : Nat) (hd : FnX P tv S 5 (difference S.A ex) n) (hn : S.L.length < s.at_ + n) :
 Calls Tryz.prog 45 #[.pointer (some ⟨P, 0, none⟩), .int .i64 4] w (NEnd w P tv lv S s (comparison S.A ex s)) := by
 cases q1 : isB S.A [(ByteArray.mk #[61, 61]), (ByteArray.mk #[33, 61]), (ByteArray.mk #[60]), (ByteArray.mk #[60, 61]), (ByteArray.mk #[62]), (ByteArray.mk #[62, 61])] (difference S.A ex s).2 with
 | true =>
  exact comparison_walk_1 h ex n hd hn (Lib.hid q1)
 | false =>
  exact comparison_walk_2 h ex n hd hn (Lib.hid q1)
theorem fx_neg_at {P : Nat} {tv : Value} {S : Src} {base : M PT} {m : Nat} (hb : FnP P tv S base m) (k : Nat) : FnX P tv S 7 (pre S.A (ByteArray.mk #[45]) base k) (min m (k + 1)) := by
 induction k with
 | zero => exact fun W lv s q hn => by have := q.sok.lt; omega
 | succ k ih =>
  intro W lv s q hn
  rw [pre_succ]
  cases hc : isB S.A [(ByteArray.mk #[45])] s with
  | true => exact neg_walk_1 q _ _ m ih (by omega) base hb (by omega) (Lib.hid hc)
  | false => exact neg_walk_2 q _ _ m ih (by omega) base hb (by omega) (Lib.hid hc)
theorem fx_neg {P : Nat} {tv : Value} {S : Src} {base : M PT} {m : Nat} (hb : FnP P tv S base m) : FnX P tv S 7 (pre S.A (ByteArray.mk #[45]) base S.A.length) m :=
 fun W lv s q hn => fx_neg_at hb S.A.length W lv s q (by rw [Src.len]; omega)
theorem fx_not_at {P : Nat} {tv : Value} {S : Src} {base : M PT} {m : Nat} (hb : FnX P tv S 4 base m) (k : Nat) : FnX P tv S 3 (pre S.A (ByteArray.mk #[110, 111, 116]) base k) (min m (k + 1)) := by
 induction k with
 | zero => exact fun W lv s q hn => by have := q.sok.lt; omega
 | succ k ih =>
  intro W lv s q hn
  rw [pre_succ]
  cases hc : isB S.A [(ByteArray.mk #[110, 111, 116])] s with
  | true => exact not_walk_1 q _ _ m ih (by omega) base hb (by omega) (Lib.hid hc)
  | false => exact not_walk_2 q _ _ m ih (by omega) base hb (by omega) (Lib.hid hc)
theorem fx_not {P : Nat} {tv : Value} {S : Src} {base : M PT} {m : Nat} (hb : FnX P tv S 4 base m) : FnX P tv S 3 (pre S.A (ByteArray.mk #[110, 111, 116]) base S.A.length) m :=
 fun W lv s q hn => fx_not_at hb S.A.length W lv s q (by rw [Src.len]; omega)
theorem fx_expr {P : Nat} {tv : Value} {S : Src} (n : Nat) : FnX P tv S 1 (expr S.A n) n := by
 induction n with
 | zero => exact fun W lv s q hn => by have := q.sok.lt; omega
 | succ n ih =>
  have hp : FnP P tv S (primary S.A (expr S.A n)) (n + 1) := fun W lv s q hn => primary_walk q _ n ih hn
  have h6 : FnX P tv S 6 (product S.A (expr S.A n)) (n + 1) := fx_bin ⟨by decide, by decide⟩ (by decide) (by decide) ops_6 (by decide) rfl (fx_neg hp)
  have h5 : FnX P tv S 5 (difference S.A (expr S.A n)) (n + 1) := fx_bin ⟨by decide, by decide⟩ (by decide) (by decide) ops_5 (by decide) rfl h6
  have h4 : FnX P tv S 4 (comparison S.A (expr S.A n)) (n + 1) := fun W lv s q hn => comparison_walk q _ (n + 1) h5 hn
  have h3 : FnX P tv S 3 (negation S.A (expr S.A n)) (n + 1) := fx_not h4
  have h2 : FnX P tv S 2 (conjunction S.A (expr S.A n)) (n + 1) := fx_bin ⟨by decide, by decide⟩ (by decide) (by decide) ops_2 (by decide) rfl h3
  exact fx_bin ⟨by decide, by decide⟩ (by decide) (by decide) ops_1 (by decide) rfl h2
theorem fx_all (P : Nat) (tv : Value) (S : Src) : FnX P tv S 1 (expression S.A) (S.L.length + 1) := by
 have h := fx_expr (P := P) (tv := tv) (S := S) (S.A.length + 1)
 rw [Src.len] at h
 unfold expression
 rw [Src.len]
 exact h
theorem expression_all {w : World} {P : Nat} {tv lv : Value} {S : Src} {s : Ps} (h : PIn w P tv lv S s) : Calls Tryz.prog 45 #[.pointer (some ⟨P, 0, none⟩), .int .i64 1] w (NEnd w P tv lv S s (expression S.A s)) :=
 fx_all P tv S w lv s h (by omega)
end Go.Proofs.YthggagophcnkfaaGreatDoor.py
