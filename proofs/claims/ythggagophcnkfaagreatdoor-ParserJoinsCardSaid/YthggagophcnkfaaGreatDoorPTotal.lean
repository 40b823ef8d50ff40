/- The walk of the parser's total. -/
import Derived.Test.YthggagophcnkfaaGreatDoorPTerm
namespace Go.Proofs.YthggagophcnkfaaGreatDoor.px
open Go.RowKit Go.Proofs.YthggagophcnkfaaGreatDoor.agg Go.Proofs.YthggagophcnkfaaGreatDoor.sx
set_option linter.unusedSimpArgs false
set_option linter.unusedVariables false

/-- The first kid lies in a row of its own. -/
theorem FIn.row1 {w0 : World} {Z : Nat} {P : Nat} {tv lv0 : Value} {S : Src} {s0 : Ps} {w : World} {lv : Value} {s : Ps} {nk : Int} {nt : ByteArray} {na ne : Int} {nao : Option Addr} {nl ncap : Nat} {nks : List Nd} {t : PT}
    (h : FIn w0 Z P tv lv0 S s0 w lv s [(Nd.mk nk nt na ne (.slice nao nl ncap) nks, t)] []) : EIn w0 (some Z) (Z + 1) P tv lv0 S s0 (w.alloc (.cells #[.int .i64 nk, .string nt, .int .i64 na, .int .i64 ne, .slice nao nl ncap] 25)) lv s (.slice (some ⟨w.heap.size, 0, none⟩) 1 1) [(Nd.mk nk nt na ne (.slice nao nl ncap) nks, t)] := by
  have f := h.below ((Below.refl _ w).alloc (Nat.le_refl _) (.cells #[.int .i64 nk, .string nt, .int .i64 na, .int .i64 ne, .slice nao nl ncap] 25))
  have hZ := h.hZ
  have hz := h.zlt
  refine ⟨f.pin, f.kept, f.fresh, f.mono, by omega, by simp; omega, fun b hb => by have := h.tlt b hb; omega, fun Z' e => ?_, ⟨?_, fun g hg e => ?_, fun p hp => ?_⟩, by simp⟩
  · have e2 : Z = Z' := by simpa using e
    subst e2
    exact ⟨f.box, f.far, by omega, hZ⟩
  · have := World.ownsRow_lit (base := Z + 1) (e := 25) (size := 5) w #[.int .i64 nk, .string nt, .int .i64 na, .int .i64 ne, .slice nao nl ncap] 1 (by omega) (by unfold maxLen; omega) rfl
    simpa [Nd.cells, Nd.kind, Nd.text, Nd.fr, Nd.to, Nd.kv] using this
  · have e2 : w.heap.size = g := by simpa [Value.ownBlock] using hg
    have := h.pin.lt g e
    omega
  · have h1 := h.kids p hp
    refine ⟨(h1.1.mono (fun b hb hq => ⟨hq.1, hq.2.1, fun e => ?_⟩)).later ((Below.refl _ w).alloc (Nat.le_refl _) _), h1.2⟩
    have e2 : w.heap.size = b := by simpa [Value.ownBlock] using e
    omega
theorem terms_stop {A : List Tk} {k : Nat} {l : List PT} {s : Ps} (h : isB A [(ByteArray.mk #[43]), (ByteArray.mk #[45])] s = false) : terms A k l s = (l, s) := by
  cases k with
  | zero => rfl
  | succ k => rw [terms, h]; rfl
theorem terms_go {A : List Tk} {k : Nat} {l : List PT} {s : Ps} (h : isB A [(ByteArray.mk #[43]), (ByteArray.mk #[45])] s = true) : terms A (k + 1) l s = terms A k (l ++ [(term A s.at_ (next A s).1 (next A s).2).1]) (term A s.at_ (next A s).1 (next A s).2).2 := by
  rw [terms, h]; rfl
set_option maxRecDepth 100000 in
set_option maxHeartbeats 4000000 in
theorem total_walk {w : World} {P : Nat} {tv lv : Value} {S : Src} {s : Ps} (h : PIn w P tv lv S s) :
    Calls Tryz.prog 128 #[.pointer (some ⟨P, 0, none⟩)] w (NEnd w P tv lv S s (total S.A s)) := by
  have f0 := Lib.hid (FIn.start h)
  have cat := h.cell.2.2.1
  have hP := lt_of_block h.box
  obtain ⟨x1, s1, hx1⟩ : ∃ x1 s1, (if isB S.A [(ByteArray.mk #[45])] s then next S.A s else ((ByteArray.mk #[43]), s) : ByteArray × Ps) = (x1, s1) := ⟨_, _, rfl⟩
  have hm : Hid (total S.A s = (node 20 s.at_ ⟨#[]⟩ (terms S.A S.A.length [(term S.A s.at_ x1 s1).1] (term S.A s.at_ x1 s1).2).1 (terms S.A S.A.length [(term S.A s.at_ x1 s1).1] (term S.A s.at_ x1 s1).2).2, (terms S.A S.A.length [(term S.A s.at_ x1 s1).1] (term S.A s.at_ x1 s1).2).2)) := by
    have h0 : total S.A s = (node 20 s.at_ ⟨#[]⟩ (terms S.A S.A.length [(term S.A s.at_ (if isB S.A [(ByteArray.mk #[45])] s then next S.A s else ((ByteArray.mk #[43]), s) : ByteArray × Ps).1 (if isB S.A [(ByteArray.mk #[45])] s then next S.A s else ((ByteArray.mk #[43]), s) : ByteArray × Ps).2).1] (term S.A s.at_ (if isB S.A [(ByteArray.mk #[45])] s then next S.A s else ((ByteArray.mk #[43]), s) : ByteArray × Ps).1 (if isB S.A [(ByteArray.mk #[45])] s then next S.A s else ((ByteArray.mk #[43]), s) : ByteArray × Ps).2).2).1 (terms S.A S.A.length [(term S.A s.at_ (if isB S.A [(ByteArray.mk #[45])] s then next S.A s else ((ByteArray.mk #[43]), s) : ByteArray × Ps).1 (if isB S.A [(ByteArray.mk #[45])] s then next S.A s else ((ByteArray.mk #[43]), s) : ByteArray × Ps).2).1] (term S.A s.at_ (if isB S.A [(ByteArray.mk #[45])] s then next S.A s else ((ByteArray.mk #[43]), s) : ByteArray × Ps).1 (if isB S.A [(ByteArray.mk #[45])] s then next S.A s else ((ByteArray.mk #[43]), s) : ByteArray × Ps).2).2).2, (terms S.A S.A.length [(term S.A s.at_ (if isB S.A [(ByteArray.mk #[45])] s then next S.A s else ((ByteArray.mk #[43]), s) : ByteArray × Ps).1 (if isB S.A [(ByteArray.mk #[45])] s then next S.A s else ((ByteArray.mk #[43]), s) : ByteArray × Ps).2).1] (term S.A s.at_ (if isB S.A [(ByteArray.mk #[45])] s then next S.A s else ((ByteArray.mk #[43]), s) : ByteArray × Ps).1 (if isB S.A [(ByteArray.mk #[45])] s then next S.A s else ((ByteArray.mk #[43]), s) : ByteArray × Ps).2).2).2) := rfl
    rw [hx1] at h0
    exact h0
  have h3 := Lib.hid (fun (W : World) (lvq : Value) (q : PIn W P tv lvq S s1) (hmo : s.at_ ≤ s1.at_) => term_walk q s.at_ hmo x1)
  obtain ⟨R, hR⟩ : ∃ R, terms S.A S.A.length [(term S.A s.at_ x1 s1).1] (term S.A s.at_ x1 s1).2 = R := ⟨_, rfl⟩
  rw [hR] at hm
  have hR' := Lib.hid hR
  clear hR
  generalize total S.A s = m at *
  generalize term S.A s.at_ x1 s1 = k3 at *
  obtain ⟨kk3, s3⟩ := k3
  obtain ⟨r1, r2⟩ := R
  have hx := Lib.hid hx1
  clear hx1
  cases hi : isB S.A [(ByteArray.mk #[45])] s
  case' true =>
    have hi' := Lib.hid hi
    have h2 := Lib.hid (fun (W : World) (lvq : Value) (q : PIn W P tv lvq S s) => next_walk q (isB_kind hi'.out))
    have hxx := hx.out
    rw [hi, if_pos rfl] at hxx
    rw [hxx] at h2
    clear hi hxx h
    simp only at h2
    go_enter Tryz.func128, Tryz.ntmps128
    go_wp2_with (first
      | (go_at_call 153; refine (f2.out.callN (by repeat (first | exact Below.refl _ _ | apply bl_drew | apply bl_alloc)) (fun q => h3.out _ _ q f2.out.mono)).mono ?_; rintro e w3 ⟨lv3, nk3, nt3, na3, ne3, nao3, ncap3, nks3, rfl, g⟩; have f3 := Lib.hid g; clear g)
      | (go_at_call 62; refine (f1.out.callS (by repeat (first | exact Below.refl _ _ | apply bl_drew | apply bl_alloc)) (h2.out _ _)).mono ?_; rintro e w2 ⟨lv2, rfl, g⟩; have f2 := Lib.hid g; clear g)
      | (go_at_call 117; refine (f0.out.callIs (by repeat (first | exact Below.refl _ _ | apply bl_drew | apply bl_alloc)) [(ByteArray.mk #[45])] true hi'.out rfl (by decide) (by simp) rfl).mono ?_; rintro e w1 ⟨rfl, g⟩; have f1 := Lib.hid g; clear g))
  case' false =>
    have hi' := Lib.hid hi
    have hxx := hx.out
    rw [hi, if_neg (by simp)] at hxx
    obtain ⟨rfl, rfl⟩ : (ByteArray.mk #[43]) = x1 ∧ s = s1 := by simpa using hxx
    clear hi hxx h
    go_enter Tryz.func128, Tryz.ntmps128
    go_wp2_with (first
      | (go_at_call 153; refine (f1.out.callN (by repeat (first | exact Below.refl _ _ | apply bl_drew | apply bl_alloc)) (fun q => h3.out _ _ q f1.out.mono)).mono ?_; rintro e w3 ⟨lv3, nk3, nt3, na3, ne3, nao3, ncap3, nks3, rfl, g⟩; have f3 := Lib.hid g; clear g)
      | (go_at_call 117; refine (f0.out.callIs (by repeat (first | exact Below.refl _ _ | apply bl_drew | apply bl_alloc)) [(ByteArray.mk #[45])] false hi'.out rfl (by decide) (by simp) rfl).mono ?_; rintro e w1 ⟨rfl, g⟩; have f1 := Lib.hid g; clear g))
  all_goals
    have e4 := Lib.hid (FIn.row1 f3.out)
    go_loopw [4, 5] (fun sv v wr => ∃ (k : Nat) (lv2 : Value) (s2 : Ps) (sg : ByteArray) (g cp : Nat) (ks : Kds), sv = .string sg ∧ v = .slice (some ⟨g, 0, none⟩) ks.length cp ∧ EIn w (some w.heap.size) (w.heap.size + 1) P tv lv S s wr lv2 s2 (.slice (some ⟨g, 0, none⟩) ks.length cp) ks ∧ S.L.length ≤ s2.at_ + k ∧ Hid (terms S.A k (ks.map Prod.snd) s2 = (r1, r2))) (fun _ _ wr => S.L.length - atOf P wr)
    case atStart => exact ⟨S.A.length, lv3, s3, _, _, 1, [_], rfl, rfl, e4.out, by rw [Src.len]; omega, hR'⟩
    case round =>
      obtain ⟨k, lv4, s4, sg, g, cp, ks, rfl, rfl, e5', hk, hmo⟩ := hrel
      have e5 := Lib.hid e5'
      have hlt := e5'.pin.sok.lt
      have hmon := e5'.mono
      have hcn := e5'.cnt
      have hato := Lib.hid e5'.pin.atOf
      clear e5'
      cases hc : isB S.A [(ByteArray.mk #[43]), (ByteArray.mk #[45])] s4 with
      | true =>
        have hc' := Lib.hid hc
        obtain ⟨k', rfl⟩ : ∃ k', k = k' + 1 := ⟨k - 1, by omega⟩
        have hmo2 := Lib.hid ((terms_go hc).symm.trans hmo.out)
        have hnx : (next S.A s4).2.at_ = s4.at_ + 1 := rfl
        clear hc
        have hNx := Lib.hid (fun (W : World) (lv2 : Value) (q : PIn W P tv lv2 S s4) => next_walk q (isB_kind hc'.out))
        generalize (next S.A s4).1 = x6 at *
        generalize (next S.A s4).2 = s6 at *
        have hF2 := Lib.hid (fun (W : World) (lv2 : Value) (q : PIn W P tv lv2 S s6) (hq : s4.at_ ≤ s6.at_) => term_walk q s4.at_ hq x6)
        generalize term S.A s4.at_ x6 s6 = k7 at *
        obtain ⟨kk7, s7⟩ := k7
        go_wp2_with (first
          | (at_builtin; refine wpList_app e8.out rfl (.tmp 30) (.tmp 35) rfl rfl rfl (by omega) ?_; intro g cap w9 e; have e9 := Lib.hid e; clear e)
          | (go_at_call 153; refine (e7.out.callN (by repeat (first | exact Below.refl _ _ | apply bl_drew | apply bl_alloc)) (fun q => hF2.out _ _ q (by omega))).mono ?_; rintro e w8 ⟨lv8, nk8, nt8, na8, ne8, nao8, ncap8, nks8, rfl, g, hm8⟩; have e8 := Lib.hid g; clear g)
          | (go_at_call 62; refine (e6.out.callS (by repeat (first | exact Below.refl _ _ | apply bl_drew | apply bl_alloc)) (hNx.out _ _)).mono ?_; rintro e w7 ⟨lv7, rfl, g⟩; have e7 := Lib.hid g; clear g)
          | (go_at_call 117; refine (e5.out.callIs (by repeat (first | exact Below.refl _ _ | apply bl_drew | apply bl_alloc)) [(ByteArray.mk #[43]), (ByteArray.mk #[45])] true hc'.out rfl (by decide) (by simp) rfl).mono ?_; rintro e w6 ⟨rfl, g⟩; obtain ⟨_, _, cat6, _⟩ := g.pin.cell; have e6 := Lib.hid g; clear g))
        go_roundw
        case rel => exact ⟨k', lv8, s7, _, g, cap, ks ++ [_], rfl, by simp, by simpa using e9.out, by omega, by simpa using hmo2⟩
        case measure => rw [e9.out.pin.atOf, hato.out]; omega
      | false =>
        have hc' := Lib.hid hc
        have hst := (terms_stop hc).symm.trans hmo.out
        obtain ⟨rfl, rfl⟩ : ks.map Prod.snd = r1 ∧ s4 = r2 := by simpa using hst
        clear hc hst
        have e5r := Lib.hid (e5.out.toRow rfl)
        go_wp2_with (first
          | (go_at_call 63; refine (e6.out.callNode (by repeat (first | exact Below.refl _ _ | apply bl_drew | apply bl_alloc)) 20 s.at_ (Nat.le_refl _) ⟨#[]⟩).mono ?_; rintro e w7 ⟨rfl, g⟩; have f7 := Lib.hid g; clear g; obtain ⟨z0, z1, z2, z3, z4, z5⟩ := f7.out.fin.cells)
          | (go_at_call 117; refine (e5.out.callIs (by repeat (first | exact Below.refl _ _ | apply bl_drew | apply bl_alloc)) [(ByteArray.mk #[43]), (ByteArray.mk #[45])] false hc'.out rfl (by decide) (by simp) rfl).mono ?_; rintro e w6 ⟨rfl, g⟩; have e6 := Lib.hid (g.toRow rfl); clear g))
        refine bodyPost_ret (v := .agg #[.int .i64 20, .string ⟨#[]⟩, .int .i64 (S.at_ s.at_ s4.at_), .int .i64 (S.last s4.at_), .slice (some ⟨g, 0, none⟩) ks.length cp]) (by simp [results, Tryz.results128, go_sem, z0, z1, z2, z3, z4] <;> rfl) rfl ?_
        rw [hm.out]
        exact f7.out.end_ (kept5 _ _ _ _ _ _ _) 20 s.at_ ⟨#[]⟩
end Go.Proofs.YthggagophcnkfaaGreatDoor.px
