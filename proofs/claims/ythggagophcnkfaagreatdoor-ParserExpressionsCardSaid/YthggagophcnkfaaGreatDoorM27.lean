/- The walk of the reference parser's block. What the walks of the reference parser's statement share. The walk of the reference parser's statement where there is none. -/
import Derived.Test.YthggagophcnkfaaGreatDoorM26
import Derived.Test.YthggagophcnkfaaGreatDoorM8
namespace Go.Proofs.YthggagophcnkfaaGreatDoor.py
open Go.RowKit Go.Proofs.YthggagophcnkfaaGreatDoor.agg Go.Proofs.YthggagophcnkfaaGreatDoor.sx Go.Proofs.YthggagophcnkfaaGreatDoor.px
set_option linter.unusedSimpArgs false
set_option linter.unusedVariables false
def WsOk (f : Nat) (args : Array Value) (ws : List ByteArray) : Prop := ∀ W : World, Calls Tryz.prog f args W fun e w' => ∃ ao n cap, e = .returned (.slice ao n cap) ∧ StrsIn w' (.slice ao n cap) ws ∧ Below W.heap.size W w'
set_option maxRecDepth 100000 in
set_option maxHeartbeats 1000000 in
theorem rpdeclarations_ok : WsOk 34 #[] declWords := by
 intro W
 go_enter Tryz.func34, Tryz.ntmps34
 go_wp2_with fail
 go_ret
 exact ⟨_, _, _, rfl, strs_new W declWords 7 rfl, (Below.refl _ W).alloc (Nat.le_refl _) _⟩
set_option maxRecDepth 100000 in
set_option maxHeartbeats 1000000 in
theorem rpstatements_ok : WsOk 162 #[] stmtWords := by
 intro W
 go_enter Tryz.func162, Tryz.ntmps162
 go_wp2_with fail
 go_ret
 exact ⟨_, _, _, rfl, strs_new W stmtWords 9 rfl, (Below.refl _ W).alloc (Nat.le_refl _) _⟩
section
variable {w0 : World} {Z : Nat} {Zo : Option Nat} {B : Nat} {P : Nat} {tv lv0 : Value} {S : Src} {s0 : Ps} {w w' : World} {lv lv' : Value} {s s' : Ps} {kv : Value} {ks : Kds} {bs : Bxs} {W : World}
theorem FIn.callWs {f : Nat} {args : Array Value} {ws : List ByteArray} (h : FIn w0 Z P tv lv0 S s0 w lv s ks bs) (hb : Below w.heap.size w W) (ho : WsOk f args ws) :
 Calls Tryz.prog f args W fun e w' => ∃ ao n cap, e = .returned (.slice ao n cap) ∧ StrsIn w' (.slice ao n cap) ws ∧ FIn w0 Z P tv lv0 S s0 w' lv s ks bs :=
 (ho W).mono fun _ _ ⟨ao, n, cap, h1, h2, h3⟩ => ⟨ao, n, cap, h1, h2, (h.below hb).below h3⟩
theorem EIn.callWs {f : Nat} {args : Array Value} {ws : List ByteArray} (h : EIn w0 Zo B P tv lv0 S s0 w lv s kv ks) (hb : Below w.heap.size w W) (ho : WsOk f args ws) :
 Calls Tryz.prog f args W fun e w' => ∃ ao n cap, e = .returned (.slice ao n cap) ∧ StrsIn w' (.slice ao n cap) ws ∧ EIn w0 Zo B P tv lv0 S s0 w' lv s kv ks :=
 (ho W).mono fun _ _ ⟨ao, n, cap, h1, h2, h3⟩ => ⟨ao, n, cap, h1, h2, (h.below hb).below h3⟩
theorem EIn.callIsS (h : EIn w0 Zo B P tv lv0 S s0 w lv s kv ks) {v : Value} {ws : List ByteArray} (hv : StrsIn w v ws) (b : Bool) (hi : isB S.A ws s = b) (hl : ws.length < 1000) :
 Calls Tryz.prog 33 #[.pointer (some ⟨P, 0, none⟩), v] w fun e w' => e = .returned (.bool b) ∧ EIn w0 Zo B P tv lv0 S s0 w' lv s kv ks := by
 subst hi
 exact (is_walk h.pin v ws hv hl).mono fun _ _ ⟨h1, h2⟩ => ⟨h1, h.below h2⟩
theorem FIn.collect0 (h : FIn w0 Z P tv lv0 S s0 w lv s [] []) : EIn w0 (some Z) (Z + 1) P tv lv0 S s0 (w.alloc (.cells #[] 25)) lv s (.slice (some ⟨w.heap.size, 0, none⟩) 0 0) [] := by
 have f := h.below ((Below.refl _ w).alloc (Nat.le_refl _) (.cells #[] 25))
 have hZ := h.hZ
 have hz := h.zlt
 refine ⟨f.pin, f.kept, f.fresh, f.mono, by omega, by simp; omega, fun b hb => by have := h.tlt b hb; omega, fun Z' e => ?_, ⟨⟨rfl, .inr ⟨w.heap.size, 0, #[], rfl, by omega, heap_alloc_new _ _, Nat.le_refl _, by decide, rfl, rfl⟩⟩, fun g hg e => ?_, by simp⟩, by simp⟩
 ·have e2 : Z = Z' := by simpa using e
  subst e2
  exact ⟨f.box, f.far, by omega, hZ⟩
 ·have e2 : w.heap.size = g := by simpa [Value.ownBlock] using hg
  have := h.pin.lt g e
  omega
end
def StM (P : Nat) (tv : Value) (S : Src) (st : M PT) (n : Nat) : Prop :=
 ∀ (W : World) (lv : Value) (s : Ps), PIn W P tv lv S s → S.L.length < s.at_ + n → atEnd S.A s = false → Calls Tryz.prog 139 #[.pointer (some ⟨P, 0, none⟩)] W (NEnd W P tv lv S { s with at_ := s.at_ + 1 } (st s))
section
variable {w0 : World} {Zo : Option Nat} {B : Nat} {P : Nat} {tv lv0 : Value} {S : Src} {s0 : Ps} {w w' : World} {lv lv' : Value} {s s' : Ps} {kv : Value} {ks : Kds} {W : World}
theorem EIn.callB {f : Nat} {args : Array Value} {v : Value} (h : EIn w0 Zo B P tv lv0 S s0 w lv s kv ks) (hb : Below w.heap.size w W) (c : PIn W P tv lv S s → Calls Tryz.prog f args W fun e w' => e = .returned v ∧ Below W.heap.size W w') :
 Calls Tryz.prog f args W fun e w' => e = .returned v ∧ EIn w0 Zo B P tv lv0 S s0 w' lv s kv ks :=
 have g := h.below hb
 (c g.pin).mono fun _ _ ⟨h1, h2⟩ => ⟨h1, g.below h2⟩
theorem EIn.callNs {f : Nat} {args : Array Value} {r : PT × Ps} (h : EIn w0 Zo B P tv lv0 S s0 w lv s kv ks) (hb : Below w.heap.size w W) (hs : s.at_ ≤ s'.at_) (c : PIn W P tv lv S s → Calls Tryz.prog f args W (NEnd W P tv lv S s' r)) :
 Calls Tryz.prog f args W fun e w' => ∃ lv' nk nt na ne nao ncap nks, e = .returned (.agg #[.int .i64 nk, .string nt, .int .i64 na, .int .i64 ne, .slice nao nks.length ncap]) ∧ EPend w0 Zo B P tv lv0 S s0 w' lv' r.2 kv ks (Nd.mk nk nt na ne (.slice nao nks.length ncap) nks) r.1 ∧ s'.at_ ≤ r.2.at_ :=
 have g := h.below hb
 (c g.pin).mono fun _ _ ⟨lv', nk, nt, na, ne, nao, ncap, nks, h1, t1, t2, t3, t4, t5, t6⟩ => ⟨lv', nk, nt, na, ne, nao, ncap, nks, h1, ⟨g.send t3 t4 t5 (Nat.le_trans hs t6), t2.mono (fun b _ hn => ⟨Nat.le_trans g.bb hn.1, hn.2, fun e => by have := (g.kr.lt b e).2; omega⟩), t1⟩, t6⟩
end
theorem FIn.rebase {w0 : World} {Z : Nat} {P : Nat} {tv lv0 : Value} {S : Src} {s0 s1 : Ps} {w : World} {lv : Value} {s : Ps} {ks : Kds} {bs : Bxs} (h : FIn w0 Z P tv lv0 S s0 w lv s ks bs) (hs : s1.at_ ≤ s.at_) : FIn w0 Z P tv lv0 S s1 w lv s ks bs :=
 ⟨h.pin, h.kept, h.fresh, h.box, h.hZ, h.far, hs, h.tlt, h.kids, h.boxes, h.dist⟩
section
variable {A : List Tk} {stop : Ps → Bool} {k : Nat} {s : Ps}
end
theorem end_b {w : World} {P : Nat} {tv lv : Value} {S : Src} {s : Ps} {la fo : Int} (h : PAt w P tv lv S s la fo) {b : Bool} (hb : atEnd S.A s = b) :
 Calls Tryz.prog 32 #[.pointer (some ⟨P, 0, none⟩), .int .i64 0] w fun e w' => e = .returned (.bool b) ∧ Below w.heap.size w w' := kind_b h 0 0 rfl hb
set_option maxRecDepth 100000 in
set_option maxHeartbeats 4000000 in
theorem block_walk {w : World} {P : Nat} {tv lv : Value} {S : Src} {s : Ps} (h : PIn w P tv lv S s) (st : M PT) (n : Nat) (hst : StM P tv S st n) (hn : S.L.length < s.at_ + n) :
 Calls Tryz.prog 88 #[.pointer (some ⟨P, 0, none⟩)] w (NEnd w P tv lv S s (block S.A st s)) := by
 have f0 := Lib.hid (FIn.start h)
 have cat := h.cell.2.2.1
 have cla := h.cell.2.2.2.1
 have hP := lt_of_block h.box
 have hst' := Lib.hid hst
 clear hst
 cases hi : isB S.A [(ByteArray.mk #[123])] s with
 | false =>
  have hi' := Lib.hid hi
  have hm : Hid (block S.A st s = (missing 25 (report 4 (ByteArray.mk #[123]) s), report 4 (ByteArray.mk #[123]) s)) := by
   have e1 : demand S.A (ByteArray.mk #[123]) s = (false, report 4 (ByteArray.mk #[123]) s) := by unfold demand; rw [if_neg (by rw [hi]; simp)]
   unfold block
   rw [e1]
   exact rfl
  have h0 := Lib.hid (fun (W : World) (lvq : Value) (q : PIn W P tv lvq S s) => opt_no q (ByteArray.mk #[123]) hi'.out)
  have h1 := Lib.hid (fun (W : World) (lvq : Value) (q : PIn W P tv lvq S s) => report_walk q 4 (ByteArray.mk #[123]) (rp4 (by decide)))
  generalize report 4 (ByteArray.mk #[123]) s = s1 at *
  have h2 := Lib.hid (fun (W : World) (lvq : Value) (q : PIn W P tv lvq S s1) => missing_walk q 25)
  generalize block S.A st s = m at *
  clear hi h
  go_enter Tryz.func88, Tryz.ntmps88
  go_upto_region 1 with fail
  go_region
  go_wp2_with (first
   | (go_at_call 136; refine (f1.out.callN (by repeat (first | exact Below.refl _ _ | apply bl_drew | apply bl_alloc)) (h2.out _ _)).mono ?_; rintro e w2 ⟨lv2, nk2, nt2, na2, ne2, nao2, ncap2, nks2, rfl, g⟩; have f2 := Lib.hid g; clear g; obtain ⟨z0, z1, z2, z3, z4, z5⟩ := f2.out.cells)
   | (go_at_call 36; refine (f00.out.callS (by repeat (first | exact Below.refl _ _ | apply bl_drew | apply bl_alloc)) (h1.out _ _)).mono ?_; rintro e w1 ⟨lv1, rfl, g⟩; have f1 := Lib.hid g; clear g)
   | (go_at_call 96; refine (f0.out.callS (by repeat (first | exact Below.refl _ _ | apply bl_drew | apply bl_alloc)) (h0.out _ _)).mono ?_; rintro e w1 ⟨lv1, rfl, g⟩; have f00 := Lib.hid g; clear g))
  refine bodyPost_ret (v := .agg #[.int .i64 nk2, .string nt2, .int .i64 na2, .int .i64 ne2, .slice nao2 nks2.length ncap2]) (by simp [results, Tryz.results88, go_sem, z0, z1, z2, z3, z4] <;> rfl) rfl ?_
  rw [hm.out]
  exact f2.out.pass (kept5 _ _ _ _ _ _ _)
 | true =>
  have hi' := Lib.hid hi
  obtain ⟨R, hR⟩ : ∃ R, stmts S.A st S.A.length [] (next S.A s).2 = R := ⟨_, rfl⟩
  have hm : Hid (block S.A st s = (node 25 s.at_ ⟨#[]⟩ R.1 (demand S.A (ByteArray.mk #[125]) R.2).2, (demand S.A (ByteArray.mk #[125]) R.2).2)) := by
   rw [← hR]
   have e1 : demand S.A (ByteArray.mk #[123]) s = (true, (next S.A s).2) := by unfold demand; rw [if_pos hi]
   unfold block
   rw [e1]
   exact rfl
  have hR' := Lib.hid hR
  have h1 := Lib.hid (fun (W : World) (lvq : Value) (q : PIn W P tv lvq S s) => opt_yes q (ByteArray.mk #[123]) hi'.out)
  generalize (next S.A s).2 = s1 at *
  obtain ⟨r1, r2⟩ := R
  have h3 := Lib.hid (fun (W : World) (lvq : Value) (q : PIn W P tv lvq S r2) => expect_walk q (ByteArray.mk #[125]) (by decide))
  simp only at hm
  generalize (demand S.A (ByteArray.mk #[125]) r2).2 = s9 at *
  generalize block S.A st s = m at *
  clear hi hR h
  go_enter Tryz.func88, Tryz.ntmps88
  go_upto_region 1 with fail
  go_region
  go_wp2_with (first
   | (go_at_call 96; refine (f0.out.callS (by repeat (first | exact Below.refl _ _ | apply bl_drew | apply bl_alloc)) (h1.out _ _)).mono ?_; rintro e w1 ⟨lv1, rfl, g⟩; have f1 := Lib.hid g; clear g))
  have e4 := Lib.hid f1.out.collect0
  go_wp2_with fail
  go_loopw [5] (fun v wr => ∃ (k : Nat) (lv2 : Value) (s2 : Ps) (ao : Option Addr) (cp : Nat) (ks : Kds), v = .slice ao ks.length cp ∧ EIn w (some w.heap.size) (w.heap.size + 1) P tv lv S s wr lv2 s2 (.slice ao ks.length cp) ks ∧ ks.length ≤ s2.at_ ∧ S.L.length ≤ s2.at_ + k ∧ Hid (stmts S.A st k (ks.map Prod.snd) s2 = (r1, r2))) (fun _ wr => S.L.length - atOf P wr)
  case atStart => exact ⟨S.A.length, lv1, s1, _, 0, [], rfl, e4.out, by simp, by rw [Src.len]; omega, hR'⟩
  case round =>
   obtain ⟨k, lv4, s4, ao, cp, ks, rfl, e5', hkl, hk, hmo⟩ := hrel
   have e5 := Lib.hid e5'
   have hlt := e5'.pin.sok.lt
   have hmon := e5'.mono
   have hato := Lib.hid e5'.pin.atOf
   clear e5'
   have hgo := Lib.hid (fun (h0 : (isB S.A [(ByteArray.mk #[125])] s4 || declares S.A s4 || atEnd S.A s4) = false) (k' : Nat) (e : k = k' + 1) => (stmts_go h0 (k := k') (l := ks.map Prod.snd) (st := st)).symm.trans (e ▸ hmo.out))
   have hstop := Lib.hid (fun (h0 : (isB S.A [(ByteArray.mk #[125])] s4 || declares S.A s4 || atEnd S.A s4) = true) => (stmts_stop h0 (k := k) (l := ks.map Prod.snd) (st := st)).symm.trans hmo.out)
   have hend := Lib.hid (fun (h0 : atEnd S.A s4 = false) (W : World) (lvq : Value) (q : PIn W P tv lvq S s4) => hst'.out W lvq s4 q (by omega) h0)
   obtain ⟨b0, hb0⟩ : ∃ b, isB S.A [(ByteArray.mk #[125])] s4 = b := ⟨_, rfl⟩
   obtain ⟨b1, hb1⟩ : ∃ b, declares S.A s4 = b := ⟨_, rfl⟩
   obtain ⟨b2, hb2⟩ : ∃ b, atEnd S.A s4 = b := ⟨_, rfl⟩
   rw [hb0, hb1, hb2] at hgo hstop
   rw [hb2] at hend
   have hb0' := Lib.hid hb0
   have hb1' := Lib.hid hb1
   have hE := Lib.hid (fun (W : World) (lvq : Value) (q : PIn W P tv lvq S s4) => end_b q hb2)
   clear hb0 hb1 hb2
   have hcase : (b0 = true) ∨ (b0 = false ∧ b1 = true) ∨ (b0 = false ∧ b1 = false ∧ b2 = true) ∨ (b0 = false ∧ b1 = false ∧ b2 = false) := by
    cases b0 <;> cases b1 <;> cases b2 <;> simp
   rcases hcase with rfl | ⟨rfl, rfl⟩ | ⟨rfl, rfl, rfl⟩ | ⟨rfl, rfl, rfl⟩
   case' inr.inr.inr =>
    obtain ⟨k', rfl⟩ : ∃ k', k = k' + 1 := ⟨k - 1, by omega⟩
    have hmo2 := Lib.hid (hgo.out rfl k' rfl)
    have hS := Lib.hid (hend.out rfl)
    clear hgo hstop hend
    generalize st s4 = k7 at *
    obtain ⟨kk7, s7⟩ := k7
    go_wp2_with (first
     | (at_builtin; refine wpList_app e9.out rfl (.tmp 37) (.tmp 40) rfl rfl rfl (by omega) ?_; intro g cap w10 e; have e10 := Lib.hid e; clear e)
     | (go_at_call 139; refine (e8.out.callNs (by repeat (first | exact Below.refl _ _ | apply bl_drew | apply bl_alloc)) (Nat.le_succ _) (hS.out _ _)).mono ?_; rintro e w9 ⟨lv9, nk9, nt9, na9, ne9, nao9, ncap9, nks9, rfl, g, hm9⟩; simp only at hm9; have e9 := Lib.hid g; clear g)
     | (go_at_call 32; refine (e7.out.callB (by repeat (first | exact Below.refl _ _ | apply bl_drew | apply bl_alloc)) (hE.out _ _)).mono ?_; rintro e w8 ⟨rfl, g⟩; have e8 := Lib.hid g; clear g)
     | (go_at_call 33; refine (e61.out.callIsS hs61.out false hb1'.out (by decide)).mono ?_; rintro e w7 ⟨rfl, g⟩; have e7 := Lib.hid g; clear g)
     | (go_at_call 34; refine (e6.out.callWs (by repeat (first | exact Below.refl _ _ | apply bl_drew | apply bl_alloc)) rpdeclarations_ok).mono ?_; rintro e w61 ⟨o61, n61, c61, rfl, hs, g⟩; have e61 := Lib.hid g; have hs61 := Lib.hid hs; clear g hs)
     | (go_at_call 33; refine (e5.out.callIs (by repeat (first | exact Below.refl _ _ | apply bl_drew | apply bl_alloc)) [(ByteArray.mk #[125])] false hb0'.out rfl (by decide) (by simp) rfl).mono ?_; rintro e w6 ⟨rfl, g⟩; have e6 := Lib.hid g; clear g))
    go_roundw
    case rel => exact ⟨k', lv9, s7, some ⟨g, 0, none⟩, cap, ks ++ [_], by simp, by simpa using e10.out, by simp; omega, by omega, by simpa using hmo2⟩
    case measure => rw [e10.out.pin.atOf, hato.out]; omega
   all_goals
    have hst := hstop.out rfl
    obtain ⟨rfl, rfl⟩ : ks.map Prod.snd = r1 ∧ s4 = r2 := by simpa using hst
    clear hst hgo hstop hend
    go_wp2_with (first
     | (go_at_call 38; refine (f10.out.callNode (by repeat (first | exact Below.refl _ _ | apply bl_drew | apply bl_alloc)) 25 s.at_ (Nat.le_refl _) ⟨#[]⟩).mono ?_; rintro e w11 ⟨rfl, g⟩; have f11 := Lib.hid g; clear g; obtain ⟨z0, z1, z2, z3, z4, z5⟩ := f11.out.fin.cells)
     | (go_at_call 83; (first | refine (e8.out.callS (by repeat (first | exact Below.refl _ _ | apply bl_drew | apply bl_alloc)) (h3.out _ _)).mono ?_ | refine (e7.out.callS (by repeat (first | exact Below.refl _ _ | apply bl_drew | apply bl_alloc)) (h3.out _ _)).mono ?_ | refine (e6.out.callS (by repeat (first | exact Below.refl _ _ | apply bl_drew | apply bl_alloc)) (h3.out _ _)).mono ?_); rintro e w10 ⟨lv10, rfl, g⟩; have f10 := Lib.hid (g.toRow rfl); clear g)
     | (go_at_call 32; refine (e7.out.callB (by repeat (first | exact Below.refl _ _ | apply bl_drew | apply bl_alloc)) (hE.out _ _)).mono ?_; rintro e w8 ⟨rfl, g⟩; have e8 := Lib.hid g; clear g)
     | (go_at_call 33; refine (e61.out.callIsS hs61.out _ hb1'.out (by decide)).mono ?_; rintro e w7 ⟨rfl, g⟩; have e7 := Lib.hid g; clear g)
     | (go_at_call 34; refine (e6.out.callWs (by repeat (first | exact Below.refl _ _ | apply bl_drew | apply bl_alloc)) rpdeclarations_ok).mono ?_; rintro e w61 ⟨o61, n61, c61, rfl, hs, g⟩; have e61 := Lib.hid g; have hs61 := Lib.hid hs; clear g hs)
     | (go_at_call 33; refine (e5.out.callIs (by repeat (first | exact Below.refl _ _ | apply bl_drew | apply bl_alloc)) [(ByteArray.mk #[125])] _ hb0'.out rfl (by decide) (by simp) rfl).mono ?_; rintro e w6 ⟨rfl, g⟩; have e6 := Lib.hid g; clear g))
    refine bodyPost_ret (v := .agg #[.int .i64 25, .string ⟨#[]⟩, .int .i64 (S.at_ s.at_ s9.at_), .int .i64 (S.last s9.at_), .slice ao ks.length cp]) (by simp [results, Tryz.results88, go_sem, z0, z1, z2, z3, z4] <;> rfl) rfl ?_
    rw [hm.out]
    exact f11.out.end_ (kept5 _ _ _ _ _ _ _) 25 s.at_ ⟨#[]⟩
end Go.Proofs.YthggagophcnkfaaGreatDoor.py
namespace Go.Proofs.YthggagophcnkfaaGreatDoor.py
open Go.RowKit Go.Proofs.YthggagophcnkfaaGreatDoor.agg Go.Proofs.YthggagophcnkfaaGreatDoor.sx Go.Proofs.YthggagophcnkfaaGreatDoor.px
set_option linter.unusedSimpArgs false
set_option linter.unusedVariables false
theorem next_is {w : World} {P : Nat} {tv lv : Value} {S : Src} {s : Ps} (h : PIn w P tv lv S s) (hk : (tok S.A s).kind ≠ 0) (x : ByteArray) (hx : (next S.A s).1 = x) :
 Calls Tryz.prog 37 #[.pointer (some ⟨P, 0, none⟩)] w (SEnd w P tv lv S s (.string x) (next S.A s).2) := by
 subst hx
 exact read_walk h hk
theorem EIn.rebase {w0 : World} {Zo : Option Nat} {B : Nat} {P : Nat} {tv lv0 : Value} {S : Src} {s0 s1 : Ps} {w : World} {lv : Value} {s : Ps} {kv : Value} {ks : Kds} (h : EIn w0 Zo B P tv lv0 S s0 w lv s kv ks) (hs : s1.at_ ≤ s.at_) : EIn w0 Zo B P tv lv0 S s1 w lv s kv ks :=
 ⟨h.pin, h.kept, h.fresh, hs, h.bw, h.bb, h.tlt, h.box, h.kr, h.cnt⟩
end Go.Proofs.YthggagophcnkfaaGreatDoor.py
namespace Go.Proofs.YthggagophcnkfaaGreatDoor.py
open Go.RowKit Go.Proofs.YthggagophcnkfaaGreatDoor.agg Go.Proofs.YthggagophcnkfaaGreatDoor.sx Go.Proofs.YthggagophcnkfaaGreatDoor.px
set_option linter.unusedSimpArgs false
set_option linter.unusedVariables false
theorem FIn.callNw {w0 : World} {Z : Nat} {P : Nat} {tv lv0 : Value} {S : Src} {s0 : Ps} {w : World} {lv : Value} {s s' : Ps} {ks : Kds} {bs : Bxs} {W : World} {f : Nat} {args : Array Value} {r : PT × Ps} (h : FIn w0 Z P tv lv0 S s0 w lv s ks bs) (hb : Below w.heap.size w W) (hs : s.at_ ≤ s'.at_) (c : PIn W P tv lv S s → Calls Tryz.prog f args W (NEnd W P tv lv S s' r)) :
 Calls Tryz.prog f args W fun e w' => ∃ lv' nk nt na ne nao ncap nks, e = .returned (.agg #[.int .i64 nk, .string nt, .int .i64 na, .int .i64 ne, .slice nao nks.length ncap]) ∧ FIn w0 Z P tv lv0 S s' w' lv' r.2 (ks ++ [(Nd.mk nk nt na ne (.slice nao nks.length ncap) nks, r.1)]) bs :=
 have g := h.below hb
 (c g.pin).mono fun _ _ ⟨lv', nk, nt, na, ne, nao, ncap, nks, h1, t1, t2, t3, t4, t5, t6⟩ => ⟨lv', nk, nt, na, ne, nao, ncap, nks, h1, (g.nsend t1 t2 t3 t4 t5 (Nat.le_trans hs t6)).rebase t6⟩
set_option maxRecDepth 100000 in
set_option maxHeartbeats 4000000 in
theorem stmt_skipped {w : World} {P : Nat} {tv lv : Value} {S : Src} {s : Ps} (h : PIn w P tv lv S s) (n : Nat) (hend : atEnd S.A s = false) (c1 : Hid (states S.A s = false)) :
 Calls Tryz.prog 139 #[.pointer (some ⟨P, 0, none⟩)] w (NEnd w P tv lv S { s with at_ := s.at_ + 1 } (stmt S.A (n + 1) s)) := by
 have f0 := Lib.hid (FIn.start h)
 have cat := h.cell.2.2.1
 have cla := h.cell.2.2.2.1
 have hP := lt_of_block h.box
 have hk1 : Hid ((tok S.A (report 6 ⟨#[]⟩ s)).kind ≠ 0) := atEnd_kind hend
 have hm : Hid (stmt S.A (n + 1) s = (node 0 s.at_ ⟨#[]⟩ [] (if (next S.A (report 6 ⟨#[]⟩ s)).1 = (ByteArray.mk #[59]) then (next S.A (report 6 ⟨#[]⟩ s)).2 else skipTo S.A (stopS S.A) S.A.length (next S.A (report 6 ⟨#[]⟩ s)).2), (if (next S.A (report 6 ⟨#[]⟩ s)).1 = (ByteArray.mk #[59]) then (next S.A (report 6 ⟨#[]⟩ s)).2 else skipTo S.A (stopS S.A) S.A.length (next S.A (report 6 ⟨#[]⟩ s)).2))) := by
  rw [stmt]
  simp only
  rw [if_pos c1.out]
  exact rfl
 generalize stmt S.A (n + 1) s = m at *
 have h1 := Lib.hid (fun (W : World) (lvq : Value) (q : PIn W P tv lvq S s) => report_walk q 6 ⟨#[]⟩ ⟨by decide, by decide, by simp⟩)
 have hs1 : (report 6 ⟨#[]⟩ s).at_ = s.at_ := rfl
 generalize report 6 ⟨#[]⟩ s = s1 at *
 have h2 := Lib.hid (fun (W : World) (lvq : Value) (q : PIn W P tv lvq S s1) => read_walk q hk1.out)
 have hs2 : Hid ((next S.A s1).2.at_ = s.at_ + 1) := by rw [← hs1]; exact rfl
 generalize (next S.A s1).1 = x2 at *
 generalize (next S.A s1).2 = s2 at *
 obtain ⟨R, hR⟩ : ∃ R, (if x2 = (ByteArray.mk #[59]) then s2 else skipTo S.A (stopS S.A) S.A.length s2) = R := ⟨_, rfl⟩
 rw [hR] at hm
 have hR' := Lib.hid hR
 clear hR h hend
 go_enter Tryz.func139, Tryz.ntmps139
 go_upto_region 1 with fail
 go_region
 go_wp2_with (first
  | (go_at_call 37; refine (f1.out.callS (by repeat (first | exact Below.refl _ _ | apply bl_drew | apply bl_alloc)) (h2.out _ _)).mono ?_; rintro e w2 ⟨lv2, rfl, g⟩; have f2 := Lib.hid (g.rebase (s1 := { s with at_ := s.at_ + 1 }) (by have := hs2.out; simp only; omega)); clear g)
  | (go_at_call 36; refine (f02.out.callS (by repeat (first | exact Below.refl _ _ | apply bl_drew | apply bl_alloc)) (h1.out _ _)).mono ?_; rintro e w1 ⟨lv1, rfl, g⟩; have f1 := Lib.hid g; clear g)
  | (go_at_call 33; refine (f01.out.callIsS hs01.out false (show isB S.A stmtWords s = false from c1.out) (by decide)).mono ?_; rintro e w02 ⟨rfl, g⟩; have f02 := Lib.hid g; clear g)
  | (go_at_call 162; refine (f0.out.callWs (by repeat (first | exact Below.refl _ _ | apply bl_drew | apply bl_alloc)) rpstatements_ok).mono ?_; rintro e w01 ⟨ow, nw, cw, rfl, hs, g⟩; have f01 := Lib.hid g; have hs01 := Lib.hid hs; clear g hs))
 go_loopw [5] (fun v wr => ∃ (k : Nat) (x : ByteArray) (lv2 : Value) (s2 : Ps), v = .string x ∧ FIn w w.heap.size P tv lv S { s with at_ := s.at_ + 1 } wr lv2 s2 [] [] ∧ S.L.length ≤ s2.at_ + k ∧ Hid ((if x = (ByteArray.mk #[59]) then s2 else skipTo S.A (stopS S.A) k s2) = R)) (fun _ wr => S.L.length - atOf P wr)
 case atStart => exact ⟨S.A.length, x2, lv2, s2, rfl, f2.out, by rw [Src.len]; omega, hR'⟩
 case round =>
  obtain ⟨k, x, lv4, s4, rfl, e5', hk, hmo⟩ := hrel
  have f5 := Lib.hid e5'
  have hlt := e5'.pin.sok.lt
  have hato := Lib.hid e5'.pin.atOf
  clear e5'
  by_cases hx : x = (ByteArray.mk #[59])
  ·subst hx
   have hRR := hmo.out
   rw [if_pos rfl] at hRR
   subst hRR
   clear hmo
   go_wp2_with (first
    | (go_at_call 38; refine (f5.out.callLeaf (by repeat (first | exact Below.refl _ _ | apply bl_drew | apply bl_alloc)) 0 s.at_ (Nat.le_succ _) ⟨#[]⟩).mono ?_; rintro e w12 ⟨rfl, g⟩; have f12 := Lib.hid g; clear g; obtain ⟨z0, z1, z2, z3, z4, z5⟩ := f12.out.fin.cells))
   refine bodyPost_ret (v := .agg #[.int .i64 0, .string ⟨#[]⟩, .int .i64 (S.at_ s.at_ s4.at_), .int .i64 (S.last s4.at_), .slice none 0 0]) (by simp [results, Tryz.results139, go_sem, z0, z1, z2, z3, z4] <;> rfl) rfl ?_
   rw [hm.out]
   exact f12.out.end_ (kept5 _ _ _ _ _ _ _) 0 s.at_ ⟨#[]⟩
  ·have hmo' := Lib.hid hmo.out
   rw [if_neg hx] at hmo'
   have e1 := str_eq hx
   have e2 := str_ne hx
   rw [list59] at e1 e2
   have hst : Hid (stopS S.A s4 = (atEnd S.A s4 || isB S.A [(ByteArray.mk #[125])] s4 || isB S.A declWords s4 || isB S.A stmtWords s4)) := rfl
   have hE := Lib.hid (fun (b : Bool) (hb : atEnd S.A s4 = b) (W : World) (lvq : Value) (q : PIn W P tv lvq S s4) => end_b q hb)
   have hN := Lib.hid (fun (he : atEnd S.A s4 = false) (W : World) (lvq : Value) (q : PIn W P tv lvq S s4) => read_walk q (atEnd_kind he))
   obtain ⟨b1, hb1⟩ : ∃ b, isB S.A [(ByteArray.mk #[125])] s4 = b := ⟨_, rfl⟩
   obtain ⟨b2, hb2⟩ : ∃ b, isB S.A declWords s4 = b := ⟨_, rfl⟩
   obtain ⟨b3, hb3⟩ : ∃ b, isB S.A stmtWords s4 = b := ⟨_, rfl⟩
   rw [hb1, hb2, hb3] at hst
   have hb1' := Lib.hid hb1
   have hb2' := Lib.hid hb2
   have hb3' := Lib.hid hb3
   have hs6 : Hid ((next S.A s4).2.at_ = s4.at_ + 1) := rfl
   have hstop := Lib.hid (fun (h0 : stopS S.A s4 = true) => (skip_stop h0 (k := k)).symm.trans hmo'.out)
   have hgo := Lib.hid (fun (h0 : stopS S.A s4 = false) (k' : Nat) (e : k = k' + 1) => show Hid ((if (next S.A s4).1 = (ByteArray.mk #[59]) then (next S.A s4).2 else skipTo S.A (stopS S.A) k' (next S.A s4).2) = R) from by
    have h9 := e ▸ hmo'.out
    rw [skipTo, if_neg (by rw [h0]; simp)] at h9
    exact Lib.hid h9)
   clear hb1 hb2 hb3 hmo' hmo
   obtain ⟨b0, hb0⟩ : ∃ b, atEnd S.A s4 = b := ⟨_, rfl⟩
   rw [hb0] at hst
   have hE2 := Lib.hid (hE.out b0 hb0)
   have hN2 := Lib.hid (fun (e : b0 = false) => hN.out (hb0.trans e))
   clear hb0 hE hN hx
   generalize stopS S.A s4 = bs at *
   generalize (next S.A s4).1 = x6 at *
   generalize (next S.A s4).2 = s6 at *
   have hcase : (b1 = true) ∨ (b1 = false ∧ b2 = true) ∨ (b1 = false ∧ b2 = false ∧ b3 = true) ∨ (b1 = false ∧ b2 = false ∧ b3 = false ∧ b0 = true) ∨ (b1 = false ∧ b2 = false ∧ b3 = false ∧ b0 = false) := by
    cases b0 <;> cases b1 <;> cases b2 <;> cases b3 <;> simp
   rcases hcase with rfl | ⟨rfl, rfl⟩ | ⟨rfl, rfl, rfl⟩ | ⟨rfl, rfl, rfl, rfl⟩ | ⟨rfl, rfl, rfl, rfl⟩
   case' inr.inr.inr.inr =>
    obtain ⟨k', rfl⟩ : ∃ k', k = k' + 1 := ⟨k - 1, by omega⟩
    have hN3 := Lib.hid (hN2.out rfl)
    have hbs : bs = false := hst.out
    have hgo2 := hgo.out hbs k' rfl
    clear hstop hgo hN2 hst hbs
    go_wp2_with (first
     | (go_at_call 37; refine (f9.out.callS (by repeat (first | exact Below.refl _ _ | apply bl_drew | apply bl_alloc)) (hN3.out _ _)).mono ?_; rintro e w10 ⟨lv10, rfl, g⟩; have f10 := Lib.hid g; clear g)
     | (go_at_call 32; refine (f8.out.callB (by repeat (first | exact Below.refl _ _ | apply bl_drew | apply bl_alloc)) (hE2.out _ _)).mono ?_; rintro e w9 ⟨rfl, g⟩; have f9 := Lib.hid g; clear g)
     | (go_at_call 33; refine (f71.out.callIsS hs71.out _ hb3'.out (by decide)).mono ?_; rintro e w8 ⟨rfl, g⟩; have f8 := Lib.hid g; clear g)
     | (go_at_call 162; refine (f7.out.callWs (by repeat (first | exact Below.refl _ _ | apply bl_drew | apply bl_alloc)) rpstatements_ok).mono ?_; rintro e w71 ⟨o71, n71, c71, rfl, hs, g⟩; have f71 := Lib.hid g; have hs71 := Lib.hid hs; clear g hs)
     | (go_at_call 33; refine (f61.out.callIsS hs61.out _ hb2'.out (by decide)).mono ?_; rintro e w7 ⟨rfl, g⟩; have f7 := Lib.hid g; clear g)
     | (go_at_call 34; refine (f6.out.callWs (by repeat (first | exact Below.refl _ _ | apply bl_drew | apply bl_alloc)) rpdeclarations_ok).mono ?_; rintro e w61 ⟨o61, n61, c61, rfl, hs, g⟩; have f61 := Lib.hid g; have hs61 := Lib.hid hs; clear g hs)
     | (go_at_call 33; refine (f5.out.callIs (by repeat (first | exact Below.refl _ _ | apply bl_drew | apply bl_alloc)) [(ByteArray.mk #[125])] _ hb1'.out rfl (by decide) (by simp) rfl).mono ?_; rintro e w6 ⟨rfl, g⟩; have f6 := Lib.hid g; clear g))
    go_roundw
    case rel => exact ⟨k', x6, lv10, s6, rfl, f10.out, by have := hs6.out; omega, hgo2⟩
    case measure => rw [f10.out.pin.atOf, hato.out]; have := hs6.out; omega
   all_goals
    have hbs : bs = true := by rw [hst.out]; simp
    have hRR := hstop.out hbs
    subst hRR
    clear hstop hgo hN2 hst hbs
    go_wp2_with (first
     | (go_at_call 38; (first | refine (f9.out.callLeaf (by repeat (first | exact Below.refl _ _ | apply bl_drew | apply bl_alloc)) 0 s.at_ (Nat.le_succ _) ⟨#[]⟩).mono ?_ | refine (f8.out.callLeaf (by repeat (first | exact Below.refl _ _ | apply bl_drew | apply bl_alloc)) 0 s.at_ (Nat.le_succ _) ⟨#[]⟩).mono ?_ | refine (f7.out.callLeaf (by repeat (first | exact Below.refl _ _ | apply bl_drew | apply bl_alloc)) 0 s.at_ (Nat.le_succ _) ⟨#[]⟩).mono ?_ | refine (f6.out.callLeaf (by repeat (first | exact Below.refl _ _ | apply bl_drew | apply bl_alloc)) 0 s.at_ (Nat.le_succ _) ⟨#[]⟩).mono ?_); rintro e w12 ⟨rfl, g⟩; have f12 := Lib.hid g; clear g; obtain ⟨z0, z1, z2, z3, z4, z5⟩ := f12.out.fin.cells)
     | (go_at_call 32; refine (f8.out.callB (by repeat (first | exact Below.refl _ _ | apply bl_drew | apply bl_alloc)) (hE2.out _ _)).mono ?_; rintro e w9 ⟨rfl, g⟩; have f9 := Lib.hid g; clear g)
     | (go_at_call 33; refine (f71.out.callIsS hs71.out _ hb3'.out (by decide)).mono ?_; rintro e w8 ⟨rfl, g⟩; have f8 := Lib.hid g; clear g)
     | (go_at_call 162; refine (f7.out.callWs (by repeat (first | exact Below.refl _ _ | apply bl_drew | apply bl_alloc)) rpstatements_ok).mono ?_; rintro e w71 ⟨o71, n71, c71, rfl, hs, g⟩; have f71 := Lib.hid g; have hs71 := Lib.hid hs; clear g hs)
     | (go_at_call 33; refine (f61.out.callIsS hs61.out _ hb2'.out (by decide)).mono ?_; rintro e w7 ⟨rfl, g⟩; have f7 := Lib.hid g; clear g)
     | (go_at_call 34; refine (f6.out.callWs (by repeat (first | exact Below.refl _ _ | apply bl_drew | apply bl_alloc)) rpdeclarations_ok).mono ?_; rintro e w61 ⟨o61, n61, c61, rfl, hs, g⟩; have f61 := Lib.hid g; have hs61 := Lib.hid hs; clear g hs)
     | (go_at_call 33; refine (f5.out.callIs (by repeat (first | exact Below.refl _ _ | apply bl_drew | apply bl_alloc)) [(ByteArray.mk #[125])] _ hb1'.out rfl (by decide) (by simp) rfl).mono ?_; rintro e w6 ⟨rfl, g⟩; have f6 := Lib.hid g; clear g))
    refine bodyPost_ret (v := .agg #[.int .i64 0, .string ⟨#[]⟩, .int .i64 (S.at_ s.at_ s4.at_), .int .i64 (S.last s4.at_), .slice none 0 0]) (by simp [results, Tryz.results139, go_sem, z0, z1, z2, z3, z4] <;> rfl) rfl ?_
    rw [hm.out]
    exact f12.out.end_ (kept5 _ _ _ _ _ _ _) 0 s.at_ ⟨#[]⟩
end Go.Proofs.YthggagophcnkfaaGreatDoor.py
