/- The walk of the parser's binary. -/
import Derived.Test.YthggagophcnkfaaGreatDoorPPart
namespace Go.Proofs.YthggagophcnkfaaGreatDoor.px
open Go.RowKit Go.Proofs.YthggagophcnkfaaGreatDoor.agg Go.Proofs.YthggagophcnkfaaGreatDoor.sx
set_option linter.unusedSimpArgs false
set_option linter.unusedVariables false

/-- Words in a block that the parser leaves alone. -/
def Wds (P : Nat) (lv : Value) (w : World) (v : Value) (ws : List ByteArray) : Prop :=
  ∃ b cap, v = .slice (some ⟨b, 0, none⟩) ws.length cap ∧ w.heap[b]? = some (.cells (ws.map Value.string).toArray 9 (0, 0)) ∧ ¬ pfoot P lv b
section
variable {w0 : World} {Z : Nat} {P : Nat} {tv lv0 : Value} {S : Src} {s0 : Ps} {w w' : World} {lv lv' : Value} {s s' : Ps} {ks : Kds} {bs : Bxs} {W : World}
theorem FIn.words {v : Value} {ws : List ByteArray} (h : FIn w0 Z P tv lv0 S s0 w lv s ks bs) (hv : Wds P lv0 w0 v ws) : StrsIn w v ws := by
  obtain ⟨b, cap, rfl, hb, hp⟩ := hv
  have hlt := lt_of_block hb
  have h1 := (h.kept.block b hlt hp).trans hb
  refine ⟨_, cap, rfl, fun j hj => ⟨b, 0, rfl, lt_of_block h1, ?_⟩⟩
  rw [cell_of_row _ _ _ _ _ _ h1, Nat.zero_add]
  simp [hj]
theorem FIn.callNm {f : Nat} {args : Array Value} {r : PT × Ps} (h : FIn w0 Z P tv lv0 S s0 w lv s ks bs) (hb : Below w.heap.size w W) (c : PIn W P tv lv S s → Calls Tryz.prog f args W (NEnd W P tv lv S s r)) :
    Calls Tryz.prog f args W fun e w' => ∃ lv' nk nt na ne nao ncap nks, e = .returned (.agg #[.int .i64 nk, .string nt, .int .i64 na, .int .i64 ne, .slice nao nks.length ncap]) ∧ FIn w0 Z P tv lv0 S s0 w' lv' r.2 (ks ++ [(Nd.mk nk nt na ne (.slice nao nks.length ncap) nks, r.1)]) bs ∧ s.at_ ≤ r.2.at_ :=
  have g := h.below hb
  (c g.pin).mono fun _ _ ⟨lv', nk, nt, na, ne, nao, ncap, nks, h1, t1, t2, t3, t4, t5, t6⟩ => ⟨lv', nk, nt, na, ne, nao, ncap, nks, h1, g.nsend t1 t2 t3 t4 t5 t6, t6⟩
theorem FIn.callIsV (h : FIn w0 Z P tv lv0 S s0 w lv s ks bs) (hb : Below w.heap.size w W) {v : Value} {ws : List ByteArray} (hv : Wds P lv0 w0 v ws) (b : Bool) (hi : isB S.A ws s = b) (hl : ws.length < 1000) :
    Calls Tryz.prog 117 #[.pointer (some ⟨P, 0, none⟩), v] W fun e w' => e = .returned (.bool b) ∧ FIn w0 Z P tv lv0 S s0 w' lv s ks bs := by
  have g := h.below hb
  subst hi
  exact (is_walk g.pin v ws (g.words hv) hl).mono fun _ _ ⟨h1, h2⟩ => ⟨h1, g.below h2⟩
end
theorem FIn.bxZ {w0 : World} {Z : Nat} {P : Nat} {tv lv0 : Value} {S : Src} {s0 : Ps} {w : World} {lv : Value} {s : Ps} {ks : Kds} {bs : Bxs} (h : FIn w0 Z P tv lv0 S s0 w lv s ks bs) (i : Nat) {b : Nat} {n : Nd} (hi : bs[i]? = some (b, n)) : Z ≠ b ∧ b ≠ Z := by
  have := (h.boxes _ (List.mem_of_getElem? hi)).2.2
  simp only at this
  omega
theorem bin_stop {A : List Tk} {f : M PT} {ws : List ByteArray} {a k : Nat} {t : PT} {s : Ps} (h : isB A ws s = false) : binMore A f ws a k t s = (t, s) := by
  cases k with
  | zero => rfl
  | succ k => rw [binMore, h]; rfl
theorem bin_go {A : List Tk} {f : M PT} {ws : List ByteArray} {a k : Nat} {t : PT} {s : Ps} (h : isB A ws s = true) : binMore A f ws a (k + 1) t s = binMore A f ws a k (node 40 a (next A s).1 [t, (f (next A s).2).1] (f (next A s).2).2) (f (next A s).2).2 := by
  rw [binMore, h]; rfl
set_option maxRecDepth 100000 in
set_option maxHeartbeats 4000000 in
theorem binary_walk {w : World} {P : Nat} {tv lv : Value} {S : Src} {s : Ps} (h : PIn w P tv lv S s) (K : Nat) (f : M PT) (n : Nat) (hf : FnM P tv S K f n) (hn : S.L.length < s.at_ + n) (v : Value) (ws : List ByteArray) (hv : Wds P lv w v ws) (hl : ws.length < 1000) :
    Calls Tryz.prog 94 #[.pointer (some ⟨P, 0, none⟩), .func (.func K) #[.pointer (some ⟨P, 0, none⟩)] #[], v] w (NEnd w P tv lv S s (binary S.A f ws s)) := by
  have f0 := Lib.hid (FIn.start h)
  have cat := h.cell.2.2.1
  have hP := lt_of_block h.box
  have eg := hf.1
  have hF := Lib.hid hf.2
  have hm : Hid (binary S.A f ws s = binMore S.A f ws s.at_ S.A.length (f s).1 (f s).2) := rfl
  have h1 := Lib.hid (fun (W : World) (lvq : Value) (q : PIn W P tv lvq S s) => hF.out W lvq s q hn)
  have hv' := Lib.hid hv
  obtain ⟨vb, vc, rfl, _⟩ := hv
  obtain ⟨R, hR⟩ : ∃ R, binMore S.A f ws s.at_ S.A.length (f s).1 (f s).2 = R := ⟨_, rfl⟩
  rw [hR] at hm
  have hR' := Lib.hid hR
  clear hR hf
  generalize binary S.A f ws s = m at *
  generalize f s = k1 at *
  obtain ⟨kk1, s1⟩ := k1
  obtain ⟨r1, r2⟩ := R
  clear h
  go_enter Tryz.func94, Tryz.ntmps94
  go_wp2_with (first
    | (go_at_fn K; refine (f0.out.callN (by repeat (first | exact Below.refl _ _ | apply bl_drew | apply bl_alloc)) (h1.out _ _)).mono ?_; rintro e w1 ⟨lv1, nk1, nt1, na1, ne1, nao1, ncap1, nks1, rfl, g⟩; have f1 := Lib.hid (g.box1 (k := nk1) (t := nt1) (a := na1) (e := ne1) (v := .slice nao1 nks1.length ncap1) nks1 rfl); clear g))
  generalize hb1 : w1.heap.size = b1 at *
  go_loopw [9] (fun sv wr => ∃ (k : Nat) (lv2 : Value) (s2 : Ps) (nk : Int) (nt : ByteArray) (na ne : Int) (nao : Option Addr) (nl ncap : Nat) (nks : List Nd) (t : PT), FIn w w.heap.size P tv lv S s wr lv2 s2 [(Nd.mk nk nt na ne (.slice nao nl ncap) nks, t)] [(b1, Nd.mk nk nt na ne (.slice nao nl ncap) nks)] ∧ S.L.length ≤ s2.at_ + k ∧ Hid (binMore S.A f ws s.at_ k t s2 = (r1, r2))) (fun _ wr => S.L.length - atOf P wr)
  case atStart => exact ⟨S.A.length, lv1, s1, nk1, nt1, na1, ne1, nao1, _, ncap1, nks1, kk1, f1.out, by rw [Src.len]; omega, hR'⟩
  case round =>
    obtain ⟨k, lv4, s4, nk, nt, na, ne, nao, nl, ncap, nks, t, e5', hk, hmo⟩ := hrel
    have e5 := Lib.hid e5'
    have hlt := e5'.pin.sok.lt
    have hmon := e5'.mono
    have hato := Lib.hid e5'.pin.atOf
    clear e5'
    cases hc : isB S.A ws s4 with
    | true =>
      have hc' := Lib.hid hc
      obtain ⟨k', rfl⟩ : ∃ k', k = k' + 1 := ⟨k - 1, by omega⟩
      have hmo2 := Lib.hid ((bin_go hc).symm.trans hmo.out)
      have hnx : (next S.A s4).2.at_ = s4.at_ + 1 := rfl
      clear hc
      have hNx := Lib.hid (fun (W : World) (lv2 : Value) (q : PIn W P tv lv2 S s4) => next_walk q (isB_kind hc'.out))
      generalize (next S.A s4).1 = x6 at *
      generalize (next S.A s4).2 = s6 at *
      have hF2 := Lib.hid (fun (W : World) (lv2 : Value) (q : PIn W P tv lv2 S s6) => hF.out W lv2 s6 q (by omega))
      generalize f s6 = k7 at *
      obtain ⟨kk7, s7⟩ := k7
      go_wp2_with (first
        | (go_at_call 63; refine (f8.out.callNode (by repeat (first | exact Below.refl _ _ | apply bl_drew | apply bl_alloc)) 40 s.at_ (Nat.le_refl _) x6 rfl (by simp) rfl (by simp)).mono ?_; rintro e w9 ⟨rfl, g⟩; obtain ⟨q00, q01, q02, q03, q04, q05, q06⟩ := g.fin.bx 0 rfl; have f9 := Lib.hid ((g.kid 40 s.at_ x6).forget); have hat9 := g.fin.mono; clear g)
        | (go_at_fn K; refine (f7.out.callNm (by repeat (first | exact Below.refl _ _ | apply bl_drew | apply bl_alloc)) (hF2.out _ _)).mono ?_; rintro e w8 ⟨lv8, nk8, nt8, na8, ne8, nao8, ncap8, nks8, rfl, g, hm8⟩; obtain ⟨y00, y01, y02, y03, y04, y05, y06⟩ := g.bx 0 rfl; have f8 := Lib.hid (g.box1 (k := nk8) (t := nt8) (a := na8) (e := ne8) (v := .slice nao8 nks8.length ncap8) nks8 rfl); clear g)
        | (go_at_call 62; refine (f6.out.callS (by repeat (first | exact Below.refl _ _ | apply bl_drew | apply bl_alloc)) (hNx.out _ _)).mono ?_; rintro e w7 ⟨lv7, rfl, g⟩; have f7 := Lib.hid g; clear g)
        | (go_at_call 117; refine (e5.out.callIsV (by repeat (first | exact Below.refl _ _ | apply bl_drew | apply bl_alloc)) hv'.out true hc'.out hl).mono ?_; rintro e w6 ⟨rfl, g⟩; have f6 := Lib.hid g; clear g))
      go_roundw
      case rel => exact ⟨k', lv8, s7, _, _, _, _, _, _, _, _, _, FIn.over (bs := []) f9.out 1, by omega, hmo2⟩
      case measure => rw [(FIn.over (k' := 40) (t' := x6) (a' := S.at_ s.at_ s7.at_) (e' := S.last s7.at_) (v' := .slice (some ⟨w8.heap.size + 1, 0, none⟩) 2 2) (nks' := []) (bs := []) f9.out 1).pin.atOf, hato.out]; omega
    | false =>
      have hc' := Lib.hid hc
      have hst := bin_stop hc |>.symm.trans hmo.out
      obtain ⟨rfl, rfl⟩ : t = r1 ∧ s4 = r2 := by simpa using hst
      clear hc hst
      go_wp2_with (first
        | (go_at_call 117; refine (e5.out.callIsV (by repeat (first | exact Below.refl _ _ | apply bl_drew | apply bl_alloc)) hv'.out false hc'.out hl).mono ?_; rintro e w6 ⟨rfl, g⟩; obtain ⟨y00, y01, y02, y03, y04, y05, y06⟩ := g.bx 0 rfl; obtain ⟨z0, z1, z2, z3, z4, z5⟩ := g.cells; have f6 := Lib.hid g; clear g))
      refine bodyPost_ret (v := .agg #[.int .i64 nk, .string nt, .int .i64 na, .int .i64 ne, .slice nao nl ncap]) (by simp [results, Tryz.results94, go_sem, z0, z1, z2, z3, z4] <;> rfl) rfl ?_
      rw [hm.out]
      exact f6.out.done (kept5 _ _ _ _ _ _ _) _ _ (f6.out.kids _ (List.mem_singleton.2 rfl)).2 ((f6.out.kids _ (List.mem_singleton.2 rfl)).1.mono (fun b _ hq => ⟨hq.1, hq.2.1⟩)) _ rfl
/-- The call of binary, its words in a new slice. -/
theorem FIn.callBin {w0 : World} {Z : Nat} {P : Nat} {tv lv0 : Value} {S : Src} {s0 : Ps} {w : World} {lv : Value} {s : Ps} {ks : Kds} {bs : Bxs} {W0 : World} (h : FIn w0 Z P tv lv0 S s0 w lv s ks bs) (hb : Below w.heap.size w W0) (K : Nat) (f : M PT) (n : Nat) (hf : FnM P tv S K f n) (hn : S.L.length < s.at_ + n) (ws : List ByteArray) {m : Nat} (hm : m = ws.length) (hl : m < 1000) {a : Nat} (ha : a = W0.heap.size) {cs : Array Value} (hc : cs = (ws.map Value.string).toArray) :
    Calls Tryz.prog 94 #[.pointer (some ⟨P, 0, none⟩), .func (.func K) #[.pointer (some ⟨P, 0, none⟩)] #[], .slice (some ⟨a, 0, none⟩) m m] (W0.alloc (.cells cs 9)) fun e w' => ∃ lv' nk nt na ne nao ncap nks, e = .returned (.agg #[.int .i64 nk, .string nt, .int .i64 na, .int .i64 ne, .slice nao nks.length ncap]) ∧ FIn w0 Z P tv lv0 S s0 w' lv' (binary S.A f ws s).2 (ks ++ [(Nd.mk nk nt na ne (.slice nao nks.length ncap) nks, (binary S.A f ws s).1)]) bs := by
  have h0 := h.below hb
  have h1 := h0.below ((Below.refl _ W0).alloc (Nat.le_refl _) (.cells cs 9))
  subst hm ha hc
  refine h1.callN (Below.refl _ _) (fun q => binary_walk q K f n hf hn _ ws ⟨_, _, rfl, heap_alloc_new _ _, fun e => ?_⟩ hl)
  have := h0.pin.lt _ e
  omega
end Go.Proofs.YthggagophcnkfaaGreatDoor.px
