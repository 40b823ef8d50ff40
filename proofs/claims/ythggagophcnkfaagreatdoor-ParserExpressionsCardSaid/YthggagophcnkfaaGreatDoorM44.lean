/- The walk of the parser's binary. The walks of the parser's primary, negative, negation, product, difference, conjunction and expression, over their operands. -/
import Derived.Test.YthggagophcnkfaaGreatDoorPPart
namespace Go.Proofs.YthggagophcnkfaaGreatDoor.px
open Go.RowKit Go.Proofs.YthggagophcnkfaaGreatDoor.agg Go.Proofs.YthggagophcnkfaaGreatDoor.sx
set_option linter.unusedSimpArgs false
set_option linter.unusedVariables false
def Wds (P : Nat) (lv : Value) (w : World) (v : Value) (ws : List ByteArray) : Prop :=
 ∃ b cap, v = .slice (some ⟨b, 0, none⟩) ws.length cap ∧ w.heap[b]? = some (.cells (ws.map Value.string).toArray 9 (0, 0)) ∧ ¬ pfoot P lv b
section
variable {w0 : World} {Z : Nat} {P : Nat} {tv lv0 : Value} {S : Src} {s0 : Ps} {w w' : World} {lv lv' : Value} {s s' : Ps} {ks : Kds} {bs : Bxs} {W : World}
theorem FIn.words {v : Value} {ws : List ByteArray} (h : FIn w0 Z P tv lv0 S s0 w lv s ks bs) (hv : Wds P lv0 w0 v ws) : StrsIn w v ws := by
 obtain ⟨b, cap, rfl, hb, hp⟩ := hv
 have hlt := lt_of_block hb
 have h1 := (h.kept.block b hlt hp).trans hb
 refine ⟨_, cap, rfl, fun j hj => ⟨b, 0, rfl, lt_of_block h1, ?_⟩⟩
 rw [cell_of_row _ _ _ _ _ _ h1, Nat.zero_add]
 simp [hj]
theorem FIn.callNm {f : Nat} {args : Array Value} {r : PT × Ps} (h : FIn w0 Z P tv lv0 S s0 w lv s ks bs) (hb : Below w.heap.size w W) (c : PIn W P tv lv S s → Calls Tryz.prog f args W (NEnd W P tv lv S s r)) :
 Calls Tryz.prog f args W fun e w' => ∃ lv' nk nt na ne nao ncap nks, e = .returned (.agg #[.int .i64 nk, .string nt, .int .i64 na, .int .i64 ne, .slice nao nks.length ncap]) ∧ FIn w0 Z P tv lv0 S s0 w' lv' r.2 (ks ++ [(Nd.mk nk nt na ne (.slice nao nks.length ncap) nks, r.1)]) bs ∧ s.at_ ≤ r.2.at_ :=
 have g := h.below hb
 (c g.pin).mono fun _ _ ⟨lv', nk, nt, na, ne, nao, ncap, nks, h1, t1, t2, t3, t4, t5, t6⟩ => ⟨lv', nk, nt, na, ne, nao, ncap, nks, h1, g.nsend t1 t2 t3 t4 t5 t6, t6⟩
theorem FIn.callIsV (h : FIn w0 Z P tv lv0 S s0 w lv s ks bs) (hb : Below w.heap.size w W) {v : Value} {ws : List ByteArray} (hv : Wds P lv0 w0 v ws) (b : Bool) (hi : isB S.A ws s = b) (hl : ws.length < 1000) :
 Calls Tryz.prog 117 #[.pointer (some ⟨P, 0, none⟩), v] W fun e w' => e = .returned (.bool b) ∧ FIn w0 Z P tv lv0 S s0 w' lv s ks bs := by
 have g := h.below hb
 subst hi
 exact (is_walk g.pin v ws (g.words hv) hl).mono fun _ _ ⟨h1, h2⟩ => ⟨h1, g.below h2⟩
end
theorem FIn.bxZ {w0 : World} {Z : Nat} {P : Nat} {tv lv0 : Value} {S : Src} {s0 : Ps} {w : World} {lv : Value} {s : Ps} {ks : Kds} {bs : Bxs} (h : FIn w0 Z P tv lv0 S s0 w lv s ks bs) (i : Nat) {b : Nat} {n : Nd} (hi : bs[i]? = some (b, n)) : Z ≠ b ∧ b ≠ Z := by
 have := (h.boxes _ (List.mem_of_getElem? hi)).2.2
 simp only at this
 omega
theorem bin_stop {A : List Tk} {f : M PT} {ws : List ByteArray} {a k : Nat} {t : PT} {s : Ps} (h : isB A ws s = false) : binMore A f ws a k t s = (t, s) := by
 cases k with
 | zero => rfl
 | succ k => rw [binMore, h]; rfl
theorem bin_go {A : List Tk} {f : M PT} {ws : List ByteArray} {a k : Nat} {t : PT} {s : Ps} (h : isB A ws s = true) : binMore A f ws a (k + 1) t s = binMore A f ws a k (node 40 a (next A s).1 [t, (f (next A s).2).1] (f (next A s).2).2) (f (next A s).2).2 := by
 rw [binMore, h]; rfl
set_option maxRecDepth 100000 in
set_option maxHeartbeats 4000000 in
theorem binary_walk {w : World} {P : Nat} {tv lv : Value} {S : Src} {s : Ps} (h : PIn w P tv lv S s) (K : Nat) (f : M PT) (n : Nat) (hf : FnM P tv S K f n) (hn : S.L.length < s.at_ + n) (v : Value) (ws : List ByteArray) (hv : Wds P lv w v ws) (hl : ws.length < 1000) :
 Calls Tryz.prog 94 #[.pointer (some ⟨P, 0, none⟩), .func (.func K) #[.pointer (some ⟨P, 0, none⟩)] #[], v] w (NEnd w P tv lv S s (binary S.A f ws s)) := by
 have f0 := Lib.hid (FIn.start h)
 have cat := h.cell.2.2.1
 have hP := lt_of_block h.box
 have eg := hf.1
 have hF := Lib.hid hf.2
 have hm : Hid (binary S.A f ws s = binMore S.A f ws s.at_ S.A.length (f s).1 (f s).2) := rfl
 have h1 := Lib.hid (fun (W : World) (lvq : Value) (q : PIn W P tv lvq S s) => hF.out W lvq s q hn)
 have hv' := Lib.hid hv
 obtain ⟨vb, vc, rfl, _⟩ := hv
 obtain ⟨R, hR⟩ : ∃ R, binMore S.A f ws s.at_ S.A.length (f s).1 (f s).2 = R := ⟨_, rfl⟩
 rw [hR] at hm
 have hR' := Lib.hid hR
 clear hR hf
 generalize binary S.A f ws s = m at *
 generalize f s = k1 at *
 obtain ⟨kk1, s1⟩ := k1
 obtain ⟨r1, r2⟩ := R
 clear h
 go_enter Tryz.func94, Tryz.ntmps94
 go_wp2_with (first
  | (go_at_fn K; refine (f0.out.callN (by repeat (first | exact Below.refl _ _ | apply bl_drew | apply bl_alloc)) (h1.out _ _)).mono ?_; rintro e w1 ⟨lv1, nk1, nt1, na1, ne1, nao1, ncap1, nks1, rfl, g⟩; have f1 := Lib.hid (g.box1 (k := nk1) (t := nt1) (a := na1) (e := ne1) (v := .slice nao1 nks1.length ncap1) nks1 rfl); clear g))
 generalize hb1 : w1.heap.size = b1 at *
 go_loopw [9] (fun sv wr => ∃ (k : Nat) (lv2 : Value) (s2 : Ps) (nk : Int) (nt : ByteArray) (na ne : Int) (nao : Option Addr) (nl ncap : Nat) (nks : List Nd) (t : PT), FIn w w.heap.size P tv lv S s wr lv2 s2 [(Nd.mk nk nt na ne (.slice nao nl ncap) nks, t)] [(b1, Nd.mk nk nt na ne (.slice nao nl ncap) nks)] ∧ S.L.length ≤ s2.at_ + k ∧ Hid (binMore S.A f ws s.at_ k t s2 = (r1, r2))) (fun _ wr => S.L.length - atOf P wr)
 case atStart => exact ⟨S.A.length, lv1, s1, nk1, nt1, na1, ne1, nao1, _, ncap1, nks1, kk1, f1.out, by rw [Src.len]; omega, hR'⟩
 case round =>
  obtain ⟨k, lv4, s4, nk, nt, na, ne, nao, nl, ncap, nks, t, e5', hk, hmo⟩ := hrel
  have e5 := Lib.hid e5'
  have hlt := e5'.pin.sok.lt
  have hmon := e5'.mono
  have hato := Lib.hid e5'.pin.atOf
  clear e5'
  cases hc : isB S.A ws s4 with
  | true =>
   have hc' := Lib.hid hc
   obtain ⟨k', rfl⟩ : ∃ k', k = k' + 1 := ⟨k - 1, by omega⟩
   have hmo2 := Lib.hid ((bin_go hc).symm.trans hmo.out)
   have hnx : (next S.A s4).2.at_ = s4.at_ + 1 := rfl
   clear hc
   have hNx := Lib.hid (fun (W : World) (lv2 : Value) (q : PIn W P tv lv2 S s4) => next_walk q (isB_kind hc'.out))
   generalize (next S.A s4).1 = x6 at *
   generalize (next S.A s4).2 = s6 at *
   have hF2 := Lib.hid (fun (W : World) (lv2 : Value) (q : PIn W P tv lv2 S s6) => hF.out W lv2 s6 q (by omega))
   generalize f s6 = k7 at *
   obtain ⟨kk7, s7⟩ := k7
   go_wp2_with (first
    | (go_at_call 63; refine (f8.out.callNode (by repeat (first | exact Below.refl _ _ | apply bl_drew | apply bl_alloc)) 40 s.at_ (Nat.le_refl _) x6 rfl (by simp) rfl (by simp)).mono ?_; rintro e w9 ⟨rfl, g⟩; obtain ⟨q00, q01, q02, q03, q04, q05, q06⟩ := g.fin.bx 0 rfl; have f9 := Lib.hid ((g.kid 40 s.at_ x6).forget); have hat9 := g.fin.mono; clear g)
    | (go_at_fn K; refine (f7.out.callNm (by repeat (first | exact Below.refl _ _ | apply bl_drew | apply bl_alloc)) (hF2.out _ _)).mono ?_; rintro e w8 ⟨lv8, nk8, nt8, na8, ne8, nao8, ncap8, nks8, rfl, g, hm8⟩; obtain ⟨y00, y01, y02, y03, y04, y05, y06⟩ := g.bx 0 rfl; have f8 := Lib.hid (g.box1 (k := nk8) (t := nt8) (a := na8) (e := ne8) (v := .slice nao8 nks8.length ncap8) nks8 rfl); clear g)
    | (go_at_call 62; refine (f6.out.callS (by repeat (first | exact Below.refl _ _ | apply bl_drew | apply bl_alloc)) (hNx.out _ _)).mono ?_; rintro e w7 ⟨lv7, rfl, g⟩; have f7 := Lib.hid g; clear g)
    | (go_at_call 117; refine (e5.out.callIsV (by repeat (first | exact Below.refl _ _ | apply bl_drew | apply bl_alloc)) hv'.out true hc'.out hl).mono ?_; rintro e w6 ⟨rfl, g⟩; have f6 := Lib.hid g; clear g))
   go_roundw
   case rel => exact ⟨k', lv8, s7, _, _, _, _, _, _, _, _, _, FIn.over (bs := []) f9.out 1, by omega, hmo2⟩
   case measure => rw [(FIn.over (k' := 40) (t' := x6) (a' := S.at_ s.at_ s7.at_) (e' := S.last s7.at_) (v' := .slice (some ⟨w8.heap.size + 1, 0, none⟩) 2 2) (nks' := []) (bs := []) f9.out 1).pin.atOf, hato.out]; omega
  | false =>
   have hc' := Lib.hid hc
   have hst := bin_stop hc |>.symm.trans hmo.out
   obtain ⟨rfl, rfl⟩ : t = r1 ∧ s4 = r2 := by simpa using hst
   clear hc hst
   go_wp2_with (first
    | (go_at_call 117; refine (e5.out.callIsV (by repeat (first | exact Below.refl _ _ | apply bl_drew | apply bl_alloc)) hv'.out false hc'.out hl).mono ?_; rintro e w6 ⟨rfl, g⟩; obtain ⟨y00, y01, y02, y03, y04, y05, y06⟩ := g.bx 0 rfl; obtain ⟨z0, z1, z2, z3, z4, z5⟩ := g.cells; have f6 := Lib.hid g; clear g))
   refine bodyPost_ret (v := .agg #[.int .i64 nk, .string nt, .int .i64 na, .int .i64 ne, .slice nao nl ncap]) (by simp [results, Tryz.results94, go_sem, z0, z1, z2, z3, z4] <;> rfl) rfl ?_
   rw [hm.out]
   exact f6.out.done (kept5 _ _ _ _ _ _ _) _ _ (f6.out.kids _ (List.mem_singleton.2 rfl)).2 ((f6.out.kids _ (List.mem_singleton.2 rfl)).1.mono (fun b _ hq => ⟨hq.1, hq.2.1⟩)) _ rfl
theorem FIn.callBin {w0 : World} {Z : Nat} {P : Nat} {tv lv0 : Value} {S : Src} {s0 : Ps} {w : World} {lv : Value} {s : Ps} {ks : Kds} {bs : Bxs} {W0 : World} (h : FIn w0 Z P tv lv0 S s0 w lv s ks bs) (hb : Below w.heap.size w W0) (K : Nat) (f : M PT) (n : Nat) (hf : FnM P tv S K f n) (hn : S.L.length < s.at_ + n) (ws : List ByteArray) {m : Nat} (hm : m = ws.length) (hl : m < 1000) {a : Nat} (ha : a = W0.heap.size) {cs : Array Value} (hc : cs = (ws.map Value.string).toArray) :
 Calls Tryz.prog 94 #[.pointer (some ⟨P, 0, none⟩), .func (.func K) #[.pointer (some ⟨P, 0, none⟩)] #[], .slice (some ⟨a, 0, none⟩) m m] (W0.alloc (.cells cs 9)) fun e w' => ∃ lv' nk nt na ne nao ncap nks, e = .returned (.agg #[.int .i64 nk, .string nt, .int .i64 na, .int .i64 ne, .slice nao nks.length ncap]) ∧ FIn w0 Z P tv lv0 S s0 w' lv' (binary S.A f ws s).2 (ks ++ [(Nd.mk nk nt na ne (.slice nao nks.length ncap) nks, (binary S.A f ws s).1)]) bs := by
 have h0 := h.below hb
 have h1 := h0.below ((Below.refl _ W0).alloc (Nat.le_refl _) (.cells cs 9))
 subst hm ha hc
 refine h1.callN (Below.refl _ _) (fun q => binary_walk q K f n hf hn _ ws ⟨_, _, rfl, heap_alloc_new _ _, fun e => ?_⟩ hl)
 have := h0.pin.lt _ e
 omega
end Go.Proofs.YthggagophcnkfaaGreatDoor.px
namespace Go.Proofs.YthggagophcnkfaaGreatDoor.px
open Go.RowKit Go.Proofs.YthggagophcnkfaaGreatDoor.agg Go.Proofs.YthggagophcnkfaaGreatDoor.sx
set_option linter.unusedSimpArgs false
set_option linter.unusedVariables false
theorem enters_pexpression : ∀ args w, (callFunc 43 args).run Tryz.prog w = .ok (.enter 43 args) w := fun _ _ => by kernel_rfl
theorem enters_pconjunction : ∀ args w, (callFunc 95 args).run Tryz.prog w = .ok (.enter 95 args) w := fun _ _ => by kernel_rfl
theorem enters_pnegation : ∀ args w, (callFunc 141 args).run Tryz.prog w = .ok (.enter 141 args) w := fun _ _ => by kernel_rfl
theorem enters_pcomparison : ∀ args w, (callFunc 166 args).run Tryz.prog w = .ok (.enter 166 args) w := fun _ _ => by kernel_rfl
theorem enters_pdifference : ∀ args w, (callFunc 183 args).run Tryz.prog w = .ok (.enter 183 args) w := fun _ _ => by kernel_rfl
theorem enters_pproduct : ∀ args w, (callFunc 191 args).run Tryz.prog w = .ok (.enter 191 args) w := fun _ _ => by kernel_rfl
theorem enters_pnegative : ∀ args w, (callFunc 197 args).run Tryz.prog w = .ok (.enter 197 args) w := fun _ _ => by kernel_rfl
theorem enters_pprimary : ∀ args w, (callFunc 199 args).run Tryz.prog w = .ok (.enter 199 args) w := fun _ _ => by kernel_rfl
set_option maxRecDepth 100000 in
set_option maxHeartbeats 2000000 in
theorem primary_walk_1 {w : World} {P : Nat} {tv lv : Value} {S : Src} {s : Ps} (h : PIn w P tv lv S s) (ex : M PT) (n : Nat) (hE : FnM P tv S 43 ex n) (hn : S.L.length < s.at_ + (n + 1)) (c1 : Hid ((tok S.A s).kind = 3)) :
 Calls Tryz.prog 199 #[.pointer (some ⟨P, 0, none⟩)] w (NEnd w P tv lv S s (primary S.A ex s)) := by
 have f0 := Lib.hid (FIn.start h)
 have hP := lt_of_block h.box
 have hE2 := Lib.hid hE.2
 have hm0 : primary S.A ex s = ((number S.A s).1, (number S.A s).2) := by
  unfold primary
  simp only [c1.out, if_true, if_false, Bool.false_eq_true, Bool.true_eq_false, reduceIte, Nat.reduceEqDiff]
 have hm := Lib.hid hm0
 clear hm0
 generalize primary S.A ex s = m at *
 have h1 := Lib.hid (fun (W : World) (lvq : Value) (q : PIn W P tv lvq S s) => token_k q c1.out)
 have h2 := Lib.hid (fun (W : World) (lvq : Value) (q : PIn W P tv lvq S s) => number_walk q)
 generalize number S.A s = k2 at *
 obtain ⟨kk2, s2⟩ := k2
 clear h
 go_enter Tryz.func199, Tryz.ntmps199
 go_wp2_with (first
  | (go_at_call 65; refine (f1.out.callN (by repeat (first | exact Below.refl _ _ | apply bl_drew | apply bl_alloc)) (h2.out _ _)).mono ?_; rintro e w2 ⟨lv2, nk2, nt2, na2, ne2, nao2, ncap2, nks2, rfl, g⟩; have f2 := Lib.hid g; clear g; obtain ⟨z0, z1, z2, z3, z4, z5⟩ := f2.out.cells)
  | (go_at_call 60; refine (f0.out.callB (by repeat (first | exact Below.refl _ _ | apply bl_drew | apply bl_alloc)) (h1.out _ _)).mono ?_; rintro e w1 ⟨rfl, g⟩; have f1 := Lib.hid g; clear g))
 refine bodyPost_ret (v := .agg #[.int .i64 nk2, .string nt2, .int .i64 na2, .int .i64 ne2, .slice nao2 nks2.length ncap2]) (by simp [results, Tryz.results199, go_sem, z0, z1, z2, z3, z4] <;> rfl) rfl ?_
 rw [hm.out]
 exact f2.out.pass (kept5 _ _ _ _ _ _ _)
set_option maxRecDepth 100000 in
set_option maxHeartbeats 2000000 in
theorem primary_walk_2 {w : World} {P : Nat} {tv lv : Value} {S : Src} {s : Ps} (h : PIn w P tv lv S s) (ex : M PT) (n : Nat) (hE : FnM P tv S 43 ex n) (hn : S.L.length < s.at_ + (n + 1)) (c1 : Hid (¬ (tok S.A s).kind = 3)) (c2 : Hid ((tok S.A s).kind = 1)) :
 Calls Tryz.prog 199 #[.pointer (some ⟨P, 0, none⟩)] w (NEnd w P tv lv S s (primary S.A ex s)) := by
 have f0 := Lib.hid (FIn.start h)
 have hP := lt_of_block h.box
 have hE2 := Lib.hid hE.2
 have hm0 : primary S.A ex s = ((named S.A s).1, (named S.A s).2) := by
  unfold primary
  simp only [c1.out, c2.out, if_true, if_false, Bool.false_eq_true, Bool.true_eq_false, reduceIte, Nat.reduceEqDiff]
 have hm := Lib.hid hm0
 clear hm0
 have nc1 : (((tok S.A s).kind : Int) == 3) = false := by have := c1.out; simp; omega
 generalize primary S.A ex s = m at *
 have h1 := Lib.hid (fun (W : World) (lvq : Value) (q : PIn W P tv lvq S s) => token_lit q)
 have h2 := Lib.hid (fun (W : World) (lvq : Value) (q : PIn W P tv lvq S s) => token_k q c2.out)
 have h3 := Lib.hid (fun (W : World) (lvq : Value) (q : PIn W P tv lvq S s) => named_walk q)
 generalize named S.A s = k3 at *
 obtain ⟨kk3, s3⟩ := k3
 clear h
 go_enter Tryz.func199, Tryz.ntmps199
 go_wp2_with (first
  | (go_at_call 126; refine (f2.out.callN (by repeat (first | exact Below.refl _ _ | apply bl_drew | apply bl_alloc)) (h3.out _ _)).mono ?_; rintro e w3 ⟨lv3, nk3, nt3, na3, ne3, nao3, ncap3, nks3, rfl, g⟩; have f3 := Lib.hid g; clear g; obtain ⟨z0, z1, z2, z3, z4, z5⟩ := f3.out.cells)
  | (go_at_call 60; refine (f1.out.callB (by repeat (first | exact Below.refl _ _ | apply bl_drew | apply bl_alloc)) (h2.out _ _)).mono ?_; rintro e w2 ⟨rfl, g⟩; have f2 := Lib.hid g; clear g)
  | (go_at_call 60; refine (f0.out.callB (by repeat (first | exact Below.refl _ _ | apply bl_drew | apply bl_alloc)) (h1.out _ _)).mono ?_; rintro e w1 ⟨rfl, g⟩; have f1 := Lib.hid g; clear g))
 refine bodyPost_ret (v := .agg #[.int .i64 nk3, .string nt3, .int .i64 na3, .int .i64 ne3, .slice nao3 nks3.length ncap3]) (by simp [results, Tryz.results199, go_sem, z0, z1, z2, z3, z4] <;> rfl) rfl ?_
 rw [hm.out]
 exact f3.out.pass (kept5 _ _ _ _ _ _ _)
set_option maxRecDepth 100000 in
set_option maxHeartbeats 2000000 in
theorem primary_walk_3 {w : World} {P : Nat} {tv lv : Value} {S : Src} {s : Ps} (h : PIn w P tv lv S s) (ex : M PT) (n : Nat) (hE : FnM P tv S 43 ex n) (hn : S.L.length < s.at_ + (n + 1)) (c1 : Hid (¬ (tok S.A s).kind = 3)) (c2 : Hid (¬ (tok S.A s).kind = 1)) (c3 : Hid (isB S.A [(ByteArray.mk #[40])] s = true)) :
 Calls Tryz.prog 199 #[.pointer (some ⟨P, 0, none⟩)] w (NEnd w P tv lv S s (primary S.A ex s)) := by
 have f0 := Lib.hid (FIn.start h)
 have hP := lt_of_block h.box
 have hE2 := Lib.hid hE.2
 have hm0 : primary S.A ex s = ((ex (next S.A s).2).1, (demand S.A (ByteArray.mk #[41]) (ex (next S.A s).2).2).2) := by
  unfold primary
  simp only [c1.out, c2.out, c3.out, if_true, if_false, Bool.false_eq_true, Bool.true_eq_false, reduceIte, Nat.reduceEqDiff]
 have hm := Lib.hid hm0
 clear hm0
 have nc1 : (((tok S.A s).kind : Int) == 3) = false := by have := c1.out; simp; omega
 have nc2 : (((tok S.A s).kind : Int) == 1) = false := by have := c2.out; simp; omega
 generalize primary S.A ex s = m at *
 have h1 := Lib.hid (fun (W : World) (lvq : Value) (q : PIn W P tv lvq S s) => token_lit q)
 have h2 := Lib.hid (fun (W : World) (lvq : Value) (q : PIn W P tv lvq S s) => token_lit q)
 have hq1 : S.L.length < (next S.A s).2.at_ + n := by show _ < s.at_ + 1 + n; omega
 have h3 := Lib.hid (fun (W : World) (lvq : Value) (q : PIn W P tv lvq S s) => opt_yes q (ByteArray.mk #[40]) c3.out)
 generalize (next S.A s).2 = s3 at *
 have h4 := Lib.hid (fun (W : World) (lvq : Value) (q : PIn W P tv lvq S s3) => hE2.out _ _ _ q hq1)
 generalize ex s3 = k4 at *
 obtain ⟨kk4, s4⟩ := k4
 have h5 := Lib.hid (fun (W : World) (lvq : Value) (q : PIn W P tv lvq S s4) => demand_walk q (ByteArray.mk #[41]) (by decide))
 generalize (demand S.A (ByteArray.mk #[41]) s4).1 = x5 at *
 generalize (demand S.A (ByteArray.mk #[41]) s4).2 = s5 at *
 clear h
 go_enter Tryz.func199, Tryz.ntmps199
 go_wp2_with (first
  | (go_at_call 67; refine ((f4.out.box1 nks4 rfl).callS (by repeat (first | exact Below.refl _ _ | apply bl_drew | apply bl_alloc)) (h5.out _ _)).mono ?_; rintro e w5 ⟨lv5, rfl, g⟩; have f5 := Lib.hid g; clear g; obtain ⟨y00, y01, y02, y03, y04, y05, y06⟩ := f5.out.bx 0 rfl; obtain ⟨z0, z1, z2, z3, z4, z5⟩ := f5.out.cells)
  | (go_at_call 43; refine (f3.out.callN (by repeat (first | exact Below.refl _ _ | apply bl_drew | apply bl_alloc)) (h4.out _ _)).mono ?_; rintro e w4 ⟨lv4, nk4, nt4, na4, ne4, nao4, ncap4, nks4, rfl, g⟩; have f4 := Lib.hid g; clear g)
  | (go_at_call 123; refine (f2.out.callS (by repeat (first | exact Below.refl _ _ | apply bl_drew | apply bl_alloc)) (h3.out _ _)).mono ?_; rintro e w3 ⟨lv3, rfl, g⟩; have f3 := Lib.hid g; clear g)
  | (go_at_call 60; refine (f1.out.callB (by repeat (first | exact Below.refl _ _ | apply bl_drew | apply bl_alloc)) (h2.out _ _)).mono ?_; rintro e w2 ⟨rfl, g⟩; have f2 := Lib.hid g; clear g)
  | (go_at_call 60; refine (f0.out.callB (by repeat (first | exact Below.refl _ _ | apply bl_drew | apply bl_alloc)) (h1.out _ _)).mono ?_; rintro e w1 ⟨rfl, g⟩; have f1 := Lib.hid g; clear g))
 refine bodyPost_ret (v := .agg #[.int .i64 nk4, .string nt4, .int .i64 na4, .int .i64 ne4, .slice nao4 nks4.length ncap4]) (by simp [results, Tryz.results199, go_sem, z0, z1, z2, z3, z4] <;> rfl) rfl ?_
 rw [hm.out]
 exact f5.out.pass (kept5 _ _ _ _ _ _ _)
set_option maxRecDepth 100000 in
set_option maxHeartbeats 2000000 in
theorem primary_walk_4 {w : World} {P : Nat} {tv lv : Value} {S : Src} {s : Ps} (h : PIn w P tv lv S s) (ex : M PT) (n : Nat) (hE : FnM P tv S 43 ex n) (hn : S.L.length < s.at_ + (n + 1)) (c1 : Hid (¬ (tok S.A s).kind = 3)) (c2 : Hid (¬ (tok S.A s).kind = 1)) (c3 : Hid (isB S.A [(ByteArray.mk #[40])] s = false)) :
 Calls Tryz.prog 199 #[.pointer (some ⟨P, 0, none⟩)] w (NEnd w P tv lv S s (primary S.A ex s)) := by
 have f0 := Lib.hid (FIn.start h)
 have hP := lt_of_block h.box
 have hE2 := Lib.hid hE.2
 have hm0 : primary S.A ex s = ((missing 0 (report 5 ⟨#[]⟩ s)), (report 5 ⟨#[]⟩ s)) := by
  unfold primary
  simp only [c1.out, c2.out, c3.out, if_true, if_false, Bool.false_eq_true, Bool.true_eq_false, reduceIte, Nat.reduceEqDiff]
 have hm := Lib.hid hm0
 clear hm0
 have nc1 : (((tok S.A s).kind : Int) == 3) = false := by have := c1.out; simp; omega
 have nc2 : (((tok S.A s).kind : Int) == 1) = false := by have := c2.out; simp; omega
 generalize primary S.A ex s = m at *
 have h1 := Lib.hid (fun (W : World) (lvq : Value) (q : PIn W P tv lvq S s) => token_lit q)
 have h2 := Lib.hid (fun (W : World) (lvq : Value) (q : PIn W P tv lvq S s) => token_lit q)
 have h3 := Lib.hid (fun (W : World) (lvq : Value) (q : PIn W P tv lvq S s) => opt_no q (ByteArray.mk #[40]) c3.out)
 have h4 := Lib.hid (fun (W : World) (lvq : Value) (q : PIn W P tv lvq S s) => report_walk q 5 ⟨#[]⟩ ⟨by decide, by decide, by simp⟩)
 generalize report 5 ⟨#[]⟩ s = s4 at *
 have h5 := Lib.hid (fun (W : World) (lvq : Value) (q : PIn W P tv lvq S s4) => missing_walk q 0)
 clear h
 go_enter Tryz.func199, Tryz.ntmps199
 go_wp2_with (first
  | (go_at_call 122; refine (f4.out.callN (by repeat (first | exact Below.refl _ _ | apply bl_drew | apply bl_alloc)) (h5.out _ _)).mono ?_; rintro e w5 ⟨lv5, nk5, nt5, na5, ne5, nao5, ncap5, nks5, rfl, g⟩; have f5 := Lib.hid g; clear g; obtain ⟨z0, z1, z2, z3, z4, z5⟩ := f5.out.cells)
  | (go_at_call 44; refine (f3.out.callS (by repeat (first | exact Below.refl _ _ | apply bl_drew | apply bl_alloc)) (h4.out _ _)).mono ?_; rintro e w4 ⟨lv4, rfl, g⟩; have f4 := Lib.hid g; clear g)
  | (go_at_call 123; refine (f2.out.callS (by repeat (first | exact Below.refl _ _ | apply bl_drew | apply bl_alloc)) (h3.out _ _)).mono ?_; rintro e w3 ⟨lv3, rfl, g⟩; have f3 := Lib.hid g; clear g)
  | (go_at_call 60; refine (f1.out.callB (by repeat (first | exact Below.refl _ _ | apply bl_drew | apply bl_alloc)) (h2.out _ _)).mono ?_; rintro e w2 ⟨rfl, g⟩; have f2 := Lib.hid g; clear g)
  | (go_at_call 60; refine (f0.out.callB (by repeat (first | exact Below.refl _ _ | apply bl_drew | apply bl_alloc)) (h1.out _ _)).mono ?_; rintro e w1 ⟨rfl, g⟩; have f1 := Lib.hid g; clear g))
 refine bodyPost_ret (v := .agg #[.int .i64 nk5, .string nt5, .int .i64 na5, .int .i64 ne5, .slice nao5 nks5.length ncap5]) (by simp [results, Tryz.results199, go_sem, z0, z1, z2, z3, z4] <;> rfl) rfl ?_
 rw [hm.out]
 exact f5.out.pass (kept5 _ _ _ _ _ _ _)
theorem primary_walk {w : World} {P : Nat} {tv lv : Value} {S : Src} {s : Ps} (h : PIn w P tv lv S s) (ex : M PT) (n : Nat) (hE : FnM P tv S 43 ex n) (hn : S.L.length < s.at_ + (n + 1)) :
 Calls Tryz.prog 199 #[.pointer (some ⟨P, 0, none⟩)] w (NEnd w P tv lv S s (primary S.A ex s)) := by
 by_cases q1 : (tok S.A s).kind = 3
 ·skip
  exact primary_walk_1 h ex n hE hn (Lib.hid q1)
 ·skip
  by_cases q2 : (tok S.A s).kind = 1
  ·skip
   exact primary_walk_2 h ex n hE hn (Lib.hid q1) (Lib.hid q2)
  ·skip
   cases q3 : isB S.A [(ByteArray.mk #[40])] s with
   | true =>
    exact primary_walk_3 h ex n hE hn (Lib.hid q1) (Lib.hid q2) (Lib.hid q3)
   | false =>
    exact primary_walk_4 h ex n hE hn (Lib.hid q1) (Lib.hid q2) (Lib.hid q3)
theorem fn_primary {P : Nat} {tv : Value} {S : Src} {ex : M PT} {n : Nat} (hE : FnM P tv S 43 ex n) : FnM P tv S 199 (primary S.A ex) (n + 1) := ⟨enters_pprimary, fun _ _ _ q hn => primary_walk q ex n hE hn⟩
def pre1 (A : List Tk) (w : ByteArray) (f base : M PT) : M PT := fun s => if isB A [w] s then unary A f s else base s
theorem pre_succ {A : List Tk} {w : ByteArray} {base : M PT} {k : Nat} {s : Ps} : pre A w base (k + 1) s = pre1 A w (pre A w base k) base s := rfl
set_option maxRecDepth 100000 in
set_option maxHeartbeats 2000000 in
theorem negative_walk_1 {w : World} {P : Nat} {tv lv : Value} {S : Src} {s : Ps} (h : PIn w P tv lv S s) (f : M PT) (n m : Nat) (hf : FnM P tv S 197 f n) (hn : S.L.length < s.at_ + 1 + n) (base : M PT) (hb : FnM P tv S 199 base m) (hn2 : S.L.length < s.at_ + m) (c1 : Hid (isB S.A [(ByteArray.mk #[45])] s = true)) :
 Calls Tryz.prog 197 #[.pointer (some ⟨P, 0, none⟩)] w (NEnd w P tv lv S s (pre1 S.A (ByteArray.mk #[45]) f base s)) := by
 have f0 := Lib.hid (FIn.start h)
 have hP := lt_of_block h.box
 have hf2 := Lib.hid hf
 have hb2 := Lib.hid hb.2
 clear hf hb
 have hm0 : pre1 S.A (ByteArray.mk #[45]) f base s = ((unary S.A f s).1, (unary S.A f s).2) := by
  unfold pre1
  simp only [c1.out, if_true, if_false, Bool.false_eq_true, Bool.true_eq_false, reduceIte, Nat.reduceEqDiff]
 have hm := Lib.hid hm0
 clear hm0
 generalize pre1 S.A (ByteArray.mk #[45]) f base s = m at *
 have h2 := Lib.hid (fun (W : World) (lvq : Value) (q : PIn W P tv lvq S s) => unary_walk q (isB_kind c1.out) 197 f n hf2.out hn)
 generalize unary S.A f s = k2 at *
 obtain ⟨kk2, s2⟩ := k2
 clear h
 go_enter Tryz.func197, Tryz.ntmps197
 go_wp2_with (first
  | (go_at_call 165; refine (f1.out.callN (by repeat (first | exact Below.refl _ _ | apply bl_drew | apply bl_alloc)) (h2.out _ _)).mono ?_; rintro e w2 ⟨lv2, nk2, nt2, na2, ne2, nao2, ncap2, nks2, rfl, g⟩; have f2 := Lib.hid g; clear g; obtain ⟨z0, z1, z2, z3, z4, z5⟩ := f2.out.cells)
  | (go_at_call 117; refine (f0.out.callIs (by repeat (first | exact Below.refl _ _ | apply bl_drew | apply bl_alloc)) [(ByteArray.mk #[45])] true c1.out rfl (by decide) (by simp) rfl).mono ?_; rintro e w1 ⟨rfl, g⟩; have f1 := Lib.hid g; clear g))
 refine bodyPost_ret (v := .agg #[.int .i64 nk2, .string nt2, .int .i64 na2, .int .i64 ne2, .slice nao2 nks2.length ncap2]) (by simp [results, Tryz.results197, go_sem, z0, z1, z2, z3, z4] <;> rfl) rfl ?_
 rw [hm.out]
 exact f2.out.pass (kept5 _ _ _ _ _ _ _)
set_option maxRecDepth 100000 in
set_option maxHeartbeats 2000000 in
theorem negative_walk_2 {w : World} {P : Nat} {tv lv : Value} {S : Src} {s : Ps} (h : PIn w P tv lv S s) (f : M PT) (n m : Nat) (hf : FnM P tv S 197 f n) (hn : S.L.length < s.at_ + 1 + n) (base : M PT) (hb : FnM P tv S 199 base m) (hn2 : S.L.length < s.at_ + m) (c1 : Hid (isB S.A [(ByteArray.mk #[45])] s = false)) :
 Calls Tryz.prog 197 #[.pointer (some ⟨P, 0, none⟩)] w (NEnd w P tv lv S s (pre1 S.A (ByteArray.mk #[45]) f base s)) := by
 have f0 := Lib.hid (FIn.start h)
 have hP := lt_of_block h.box
 have hf2 := Lib.hid hf
 have hb2 := Lib.hid hb.2
 clear hf hb
 have hm0 : pre1 S.A (ByteArray.mk #[45]) f base s = ((base s).1, (base s).2) := by
  unfold pre1
  simp only [c1.out, if_true, if_false, Bool.false_eq_true, Bool.true_eq_false, reduceIte, Nat.reduceEqDiff]
 have hm := Lib.hid hm0
 clear hm0
 generalize pre1 S.A (ByteArray.mk #[45]) f base s = m at *
 have h2 := Lib.hid (fun (W : World) (lvq : Value) (q : PIn W P tv lvq S s) => hb2.out _ _ _ q hn2)
 generalize base s = k2 at *
 obtain ⟨kk2, s2⟩ := k2
 clear h
 go_enter Tryz.func197, Tryz.ntmps197
 go_wp2_with (first
  | (go_at_call 199; refine (f1.out.callN (by repeat (first | exact Below.refl _ _ | apply bl_drew | apply bl_alloc)) (h2.out _ _)).mono ?_; rintro e w2 ⟨lv2, nk2, nt2, na2, ne2, nao2, ncap2, nks2, rfl, g⟩; have f2 := Lib.hid g; clear g; obtain ⟨z0, z1, z2, z3, z4, z5⟩ := f2.out.cells)
  | (go_at_call 117; refine (f0.out.callIs (by repeat (first | exact Below.refl _ _ | apply bl_drew | apply bl_alloc)) [(ByteArray.mk #[45])] false c1.out rfl (by decide) (by simp) rfl).mono ?_; rintro e w1 ⟨rfl, g⟩; have f1 := Lib.hid g; clear g))
 refine bodyPost_ret (v := .agg #[.int .i64 nk2, .string nt2, .int .i64 na2, .int .i64 ne2, .slice nao2 nks2.length ncap2]) (by simp [results, Tryz.results197, go_sem, z0, z1, z2, z3, z4] <;> rfl) rfl ?_
 rw [hm.out]
 exact f2.out.pass (kept5 _ _ _ _ _ _ _)
theorem fn_negative_at {P : Nat} {tv : Value} {S : Src} {base : M PT} {m : Nat} (hb : FnM P tv S 199 base m) (k : Nat) : FnM P tv S 197 (pre S.A (ByteArray.mk #[45]) base k) (min m (k + 1)) := by
 induction k with
 | zero => exact ⟨enters_pnegative, fun W lv s q hn => by have := q.sok.lt; omega⟩
 | succ k ih =>
  refine ⟨enters_pnegative, fun W lv s q hn => ?_⟩
  rw [pre_succ]
  cases hc : isB S.A [(ByteArray.mk #[45])] s with
  | true => exact negative_walk_1 q _ _ m ih (by omega) base hb (by omega) (Lib.hid hc)
  | false => exact negative_walk_2 q _ _ m ih (by omega) base hb (by omega) (Lib.hid hc)
theorem fn_negative {P : Nat} {tv : Value} {S : Src} {base : M PT} {m : Nat} (hb : FnM P tv S 199 base m) : FnM P tv S 197 (pre S.A (ByteArray.mk #[45]) base S.A.length) m :=
 ⟨enters_pnegative, fun W lv s q hn => (fn_negative_at hb S.A.length).2 W lv s q (by rw [Src.len]; omega)⟩
set_option maxRecDepth 100000 in
set_option maxHeartbeats 2000000 in
theorem negation_walk_1 {w : World} {P : Nat} {tv lv : Value} {S : Src} {s : Ps} (h : PIn w P tv lv S s) (f : M PT) (n m : Nat) (hf : FnM P tv S 141 f n) (hn : S.L.length < s.at_ + 1 + n) (base : M PT) (hb : FnM P tv S 166 base m) (hn2 : S.L.length < s.at_ + m) (c1 : Hid (isB S.A [(ByteArray.mk #[110, 111, 116])] s = true)) :
 Calls Tryz.prog 141 #[.pointer (some ⟨P, 0, none⟩)] w (NEnd w P tv lv S s (pre1 S.A (ByteArray.mk #[110, 111, 116]) f base s)) := by
 have f0 := Lib.hid (FIn.start h)
 have hP := lt_of_block h.box
 have hf2 := Lib.hid hf
 have hb2 := Lib.hid hb.2
 clear hf hb
 have hm0 : pre1 S.A (ByteArray.mk #[110, 111, 116]) f base s = ((unary S.A f s).1, (unary S.A f s).2) := by
  unfold pre1
  simp only [c1.out, if_true, if_false, Bool.false_eq_true, Bool.true_eq_false, reduceIte, Nat.reduceEqDiff]
 have hm := Lib.hid hm0
 clear hm0
 generalize pre1 S.A (ByteArray.mk #[110, 111, 116]) f base s = m at *
 have h2 := Lib.hid (fun (W : World) (lvq : Value) (q : PIn W P tv lvq S s) => unary_walk q (isB_kind c1.out) 141 f n hf2.out hn)
 generalize unary S.A f s = k2 at *
 obtain ⟨kk2, s2⟩ := k2
 clear h
 go_enter Tryz.func141, Tryz.ntmps141
 go_wp2_with (first
  | (go_at_call 165; refine (f1.out.callN (by repeat (first | exact Below.refl _ _ | apply bl_drew | apply bl_alloc)) (h2.out _ _)).mono ?_; rintro e w2 ⟨lv2, nk2, nt2, na2, ne2, nao2, ncap2, nks2, rfl, g⟩; have f2 := Lib.hid g; clear g; obtain ⟨z0, z1, z2, z3, z4, z5⟩ := f2.out.cells)
  | (go_at_call 117; refine (f0.out.callIs (by repeat (first | exact Below.refl _ _ | apply bl_drew | apply bl_alloc)) [(ByteArray.mk #[110, 111, 116])] true c1.out rfl (by decide) (by simp) rfl).mono ?_; rintro e w1 ⟨rfl, g⟩; have f1 := Lib.hid g; clear g))
 refine bodyPost_ret (v := .agg #[.int .i64 nk2, .string nt2, .int .i64 na2, .int .i64 ne2, .slice nao2 nks2.length ncap2]) (by simp [results, Tryz.results141, go_sem, z0, z1, z2, z3, z4] <;> rfl) rfl ?_
 rw [hm.out]
 exact f2.out.pass (kept5 _ _ _ _ _ _ _)
set_option maxRecDepth 100000 in
set_option maxHeartbeats 2000000 in
theorem negation_walk_2 {w : World} {P : Nat} {tv lv : Value} {S : Src} {s : Ps} (h : PIn w P tv lv S s) (f : M PT) (n m : Nat) (hf : FnM P tv S 141 f n) (hn : S.L.length < s.at_ + 1 + n) (base : M PT) (hb : FnM P tv S 166 base m) (hn2 : S.L.length < s.at_ + m) (c1 : Hid (isB S.A [(ByteArray.mk #[110, 111, 116])] s = false)) :
 Calls Tryz.prog 141 #[.pointer (some ⟨P, 0, none⟩)] w (NEnd w P tv lv S s (pre1 S.A (ByteArray.mk #[110, 111, 116]) f base s)) := by
 have f0 := Lib.hid (FIn.start h)
 have hP := lt_of_block h.box
 have hf2 := Lib.hid hf
 have hb2 := Lib.hid hb.2
 clear hf hb
 have hm0 : pre1 S.A (ByteArray.mk #[110, 111, 116]) f base s = ((base s).1, (base s).2) := by
  unfold pre1
  simp only [c1.out, if_true, if_false, Bool.false_eq_true, Bool.true_eq_false, reduceIte, Nat.reduceEqDiff]
 have hm := Lib.hid hm0
 clear hm0
 generalize pre1 S.A (ByteArray.mk #[110, 111, 116]) f base s = m at *
 have h2 := Lib.hid (fun (W : World) (lvq : Value) (q : PIn W P tv lvq S s) => hb2.out _ _ _ q hn2)
 generalize base s = k2 at *
 obtain ⟨kk2, s2⟩ := k2
 clear h
 go_enter Tryz.func141, Tryz.ntmps141
 go_wp2_with (first
  | (go_at_call 166; refine (f1.out.callN (by repeat (first | exact Below.refl _ _ | apply bl_drew | apply bl_alloc)) (h2.out _ _)).mono ?_; rintro e w2 ⟨lv2, nk2, nt2, na2, ne2, nao2, ncap2, nks2, rfl, g⟩; have f2 := Lib.hid g; clear g; obtain ⟨z0, z1, z2, z3, z4, z5⟩ := f2.out.cells)
  | (go_at_call 117; refine (f0.out.callIs (by repeat (first | exact Below.refl _ _ | apply bl_drew | apply bl_alloc)) [(ByteArray.mk #[110, 111, 116])] false c1.out rfl (by decide) (by simp) rfl).mono ?_; rintro e w1 ⟨rfl, g⟩; have f1 := Lib.hid g; clear g))
 refine bodyPost_ret (v := .agg #[.int .i64 nk2, .string nt2, .int .i64 na2, .int .i64 ne2, .slice nao2 nks2.length ncap2]) (by simp [results, Tryz.results141, go_sem, z0, z1, z2, z3, z4] <;> rfl) rfl ?_
 rw [hm.out]
 exact f2.out.pass (kept5 _ _ _ _ _ _ _)
theorem fn_negation_at {P : Nat} {tv : Value} {S : Src} {base : M PT} {m : Nat} (hb : FnM P tv S 166 base m) (k : Nat) : FnM P tv S 141 (pre S.A (ByteArray.mk #[110, 111, 116]) base k) (min m (k + 1)) := by
 induction k with
 | zero => exact ⟨enters_pnegation, fun W lv s q hn => by have := q.sok.lt; omega⟩
 | succ k ih =>
  refine ⟨enters_pnegation, fun W lv s q hn => ?_⟩
  rw [pre_succ]
  cases hc : isB S.A [(ByteArray.mk #[110, 111, 116])] s with
  | true => exact negation_walk_1 q _ _ m ih (by omega) base hb (by omega) (Lib.hid hc)
  | false => exact negation_walk_2 q _ _ m ih (by omega) base hb (by omega) (Lib.hid hc)
theorem fn_negation {P : Nat} {tv : Value} {S : Src} {base : M PT} {m : Nat} (hb : FnM P tv S 166 base m) : FnM P tv S 141 (pre S.A (ByteArray.mk #[110, 111, 116]) base S.A.length) m :=
 ⟨enters_pnegation, fun W lv s q hn => (fn_negation_at hb S.A.length).2 W lv s q (by rw [Src.len]; omega)⟩
set_option maxRecDepth 100000 in
set_option maxHeartbeats 2000000 in
theorem product_walk {w : World} {P : Nat} {tv lv : Value} {S : Src} {s : Ps} (h : PIn w P tv lv S s) (f : M PT) (n : Nat) (hf : FnM P tv S 197 f n) (hn : S.L.length < s.at_ + n) :
 Calls Tryz.prog 191 #[.pointer (some ⟨P, 0, none⟩)] w (NEnd w P tv lv S s (binary S.A f [(ByteArray.mk #[42])] s)) := by
 have f0 := Lib.hid (FIn.start h)
 have hP := lt_of_block h.box
 have hf2 := Lib.hid hf
 clear hf
 generalize hk1 : binary S.A f [(ByteArray.mk #[42])] s = k1 at *
 obtain ⟨kk1, s1⟩ := k1
 have hk1 := Lib.hid hk1
 clear h
 go_enter Tryz.func191, Tryz.ntmps191
 go_wp2_with (first
  | (go_at_call 94; refine (f0.out.callBin (by repeat (first | exact Below.refl _ _ | apply bl_drew | apply bl_alloc)) 197 f n hf2.out hn [(ByteArray.mk #[42])] rfl (by decide) (by simp) rfl).mono ?_; rintro e w1 ⟨lv1, nk1, nt1, na1, ne1, nao1, ncap1, nks1, rfl, g⟩; rw [hk1.out] at g; have f1 := Lib.hid g; clear g; obtain ⟨z0, z1, z2, z3, z4, z5⟩ := f1.out.cells))
 refine bodyPost_ret (v := .agg #[.int .i64 nk1, .string nt1, .int .i64 na1, .int .i64 ne1, .slice nao1 nks1.length ncap1]) (by simp [results, Tryz.results191, go_sem, z0, z1, z2, z3, z4] <;> rfl) rfl ?_
 exact f1.out.pass (kept5 _ _ _ _ _ _ _)
theorem fn_product {P : Nat} {tv : Value} {S : Src} {f : M PT} {n : Nat} (hf : FnM P tv S 197 f n) : FnM P tv S 191 (binary S.A f [(ByteArray.mk #[42])]) n := ⟨enters_pproduct, fun _ _ _ q hn => product_walk q f n hf hn⟩
set_option maxRecDepth 100000 in
set_option maxHeartbeats 2000000 in
theorem difference_walk {w : World} {P : Nat} {tv lv : Value} {S : Src} {s : Ps} (h : PIn w P tv lv S s) (f : M PT) (n : Nat) (hf : FnM P tv S 191 f n) (hn : S.L.length < s.at_ + n) :
 Calls Tryz.prog 183 #[.pointer (some ⟨P, 0, none⟩)] w (NEnd w P tv lv S s (binary S.A f [(ByteArray.mk #[43]), (ByteArray.mk #[45])] s)) := by
 have f0 := Lib.hid (FIn.start h)
 have hP := lt_of_block h.box
 have hf2 := Lib.hid hf
 clear hf
 generalize hk1 : binary S.A f [(ByteArray.mk #[43]), (ByteArray.mk #[45])] s = k1 at *
 obtain ⟨kk1, s1⟩ := k1
 have hk1 := Lib.hid hk1
 clear h
 go_enter Tryz.func183, Tryz.ntmps183
 go_wp2_with (first
  | (go_at_call 94; refine (f0.out.callBin (by repeat (first | exact Below.refl _ _ | apply bl_drew | apply bl_alloc)) 191 f n hf2.out hn [(ByteArray.mk #[43]), (ByteArray.mk #[45])] rfl (by decide) (by simp) rfl).mono ?_; rintro e w1 ⟨lv1, nk1, nt1, na1, ne1, nao1, ncap1, nks1, rfl, g⟩; rw [hk1.out] at g; have f1 := Lib.hid g; clear g; obtain ⟨z0, z1, z2, z3, z4, z5⟩ := f1.out.cells))
 refine bodyPost_ret (v := .agg #[.int .i64 nk1, .string nt1, .int .i64 na1, .int .i64 ne1, .slice nao1 nks1.length ncap1]) (by simp [results, Tryz.results183, go_sem, z0, z1, z2, z3, z4] <;> rfl) rfl ?_
 exact f1.out.pass (kept5 _ _ _ _ _ _ _)
theorem fn_difference {P : Nat} {tv : Value} {S : Src} {f : M PT} {n : Nat} (hf : FnM P tv S 191 f n) : FnM P tv S 183 (binary S.A f [(ByteArray.mk #[43]), (ByteArray.mk #[45])]) n := ⟨enters_pdifference, fun _ _ _ q hn => difference_walk q f n hf hn⟩
set_option maxRecDepth 100000 in
set_option maxHeartbeats 2000000 in
theorem conjunction_walk {w : World} {P : Nat} {tv lv : Value} {S : Src} {s : Ps} (h : PIn w P tv lv S s) (f : M PT) (n : Nat) (hf : FnM P tv S 141 f n) (hn : S.L.length < s.at_ + n) :
 Calls Tryz.prog 95 #[.pointer (some ⟨P, 0, none⟩)] w (NEnd w P tv lv S s (binary S.A f [(ByteArray.mk #[97, 110, 100])] s)) := by
 have f0 := Lib.hid (FIn.start h)
 have hP := lt_of_block h.box
 have hf2 := Lib.hid hf
 clear hf
 generalize hk1 : binary S.A f [(ByteArray.mk #[97, 110, 100])] s = k1 at *
 obtain ⟨kk1, s1⟩ := k1
 have hk1 := Lib.hid hk1
 clear h
 go_enter Tryz.func95, Tryz.ntmps95
 go_wp2_with (first
  | (go_at_call 94; refine (f0.out.callBin (by repeat (first | exact Below.refl _ _ | apply bl_drew | apply bl_alloc)) 141 f n hf2.out hn [(ByteArray.mk #[97, 110, 100])] rfl (by decide) (by simp) rfl).mono ?_; rintro e w1 ⟨lv1, nk1, nt1, na1, ne1, nao1, ncap1, nks1, rfl, g⟩; rw [hk1.out] at g; have f1 := Lib.hid g; clear g; obtain ⟨z0, z1, z2, z3, z4, z5⟩ := f1.out.cells))
 refine bodyPost_ret (v := .agg #[.int .i64 nk1, .string nt1, .int .i64 na1, .int .i64 ne1, .slice nao1 nks1.length ncap1]) (by simp [results, Tryz.results95, go_sem, z0, z1, z2, z3, z4] <;> rfl) rfl ?_
 exact f1.out.pass (kept5 _ _ _ _ _ _ _)
theorem fn_conjunction {P : Nat} {tv : Value} {S : Src} {f : M PT} {n : Nat} (hf : FnM P tv S 141 f n) : FnM P tv S 95 (binary S.A f [(ByteArray.mk #[97, 110, 100])]) n := ⟨enters_pconjunction, fun _ _ _ q hn => conjunction_walk q f n hf hn⟩
set_option maxRecDepth 100000 in
set_option maxHeartbeats 2000000 in
theorem expression_walk {w : World} {P : Nat} {tv lv : Value} {S : Src} {s : Ps} (h : PIn w P tv lv S s) (f : M PT) (n : Nat) (hf : FnM P tv S 95 f n) (hn : S.L.length < s.at_ + n) :
 Calls Tryz.prog 43 #[.pointer (some ⟨P, 0, none⟩)] w (NEnd w P tv lv S s (binary S.A f [(ByteArray.mk #[111, 114])] s)) := by
 have f0 := Lib.hid (FIn.start h)
 have hP := lt_of_block h.box
 have hf2 := Lib.hid hf
 clear hf
 generalize hk1 : binary S.A f [(ByteArray.mk #[111, 114])] s = k1 at *
 obtain ⟨kk1, s1⟩ := k1
 have hk1 := Lib.hid hk1
 clear h
 go_enter Tryz.func43, Tryz.ntmps43
 go_wp2_with (first
  | (go_at_call 94; refine (f0.out.callBin (by repeat (first | exact Below.refl _ _ | apply bl_drew | apply bl_alloc)) 95 f n hf2.out hn [(ByteArray.mk #[111, 114])] rfl (by decide) (by simp) rfl).mono ?_; rintro e w1 ⟨lv1, nk1, nt1, na1, ne1, nao1, ncap1, nks1, rfl, g⟩; rw [hk1.out] at g; have f1 := Lib.hid g; clear g; obtain ⟨z0, z1, z2, z3, z4, z5⟩ := f1.out.cells))
 refine bodyPost_ret (v := .agg #[.int .i64 nk1, .string nt1, .int .i64 na1, .int .i64 ne1, .slice nao1 nks1.length ncap1]) (by simp [results, Tryz.results43, go_sem, z0, z1, z2, z3, z4] <;> rfl) rfl ?_
 exact f1.out.pass (kept5 _ _ _ _ _ _ _)
theorem fn_expression {P : Nat} {tv : Value} {S : Src} {f : M PT} {n : Nat} (hf : FnM P tv S 95 f n) : FnM P tv S 43 (binary S.A f [(ByteArray.mk #[111, 114])]) n := ⟨enters_pexpression, fun _ _ _ q hn => expression_walk q f n hf hn⟩
end Go.Proofs.YthggagophcnkfaaGreatDoor.px
