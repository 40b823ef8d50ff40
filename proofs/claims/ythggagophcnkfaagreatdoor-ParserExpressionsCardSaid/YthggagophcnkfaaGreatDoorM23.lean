/- The walk of the reference parser's list. The walks of the reference parser's listed and cell. The walks of the reference parser's wordOf, perhaps and bound. The walk of the reference parser's term. -/
import Derived.Test.YthggagophcnkfaaGreatDoorM21
import Derived.Test.YthggagophcnkfaaGreatDoorM7
namespace Go.Proofs.YthggagophcnkfaaGreatDoor.py
open Go.RowKit Go.Proofs.YthggagophcnkfaaGreatDoor.agg Go.Proofs.YthggagophcnkfaaGreatDoor.sx Go.Proofs.YthggagophcnkfaaGreatDoor.px
set_option linter.unusedSimpArgs false
set_option linter.unusedVariables false
theorem PAt.atOf {w : World} {P : Nat} {tv lv : Value} {S : Src} {s : Ps} {la fo : Int} (h : PAt w P tv lv S s la fo) : atOf P w = s.at_ := by
 unfold px.atOf
 rw [h.cell.2.2.1]
 simp
theorem wpList_app {ops : Array Oper} {rest : List Oper} {o : Oper} {a : Act} {Q : Exit → Act → World → Prop} {w0 : World} {Zo : Option Nat} {B : Nat} {P : Nat} {tv lv0 : Value} {S : Src} {s0 : Ps} {w : World} {lv : Value} {s : Ps} {kv : Value} {ks : Kds} {nk : Int} {nt : ByteArray} {na ne : Int} {nao : Option Addr} {nl ncap : Nat} {nks : List Nd} {t : PT}
 (h : EPend w0 Zo B P tv lv0 S s0 w lv s kv ks (Nd.mk nk nt na ne (.slice nao nl ncap) nks) t) (hg : o.guard = none) (x y : Operand) (ho : o.op = .call { callee := .builtin .append, args := #[x, y], argTypes := #[23, 23] }) (hx : a.eval x = kv) (hy : a.eval y = .slice (some ⟨w.heap.size, 0, none⟩) 1 1) (hc : ks.length ≤ s.at_ + 3)
 (k : ∀ g cap w', EIn w0 Zo B P tv lv0 S s0 w' lv s (.slice (some ⟨g, 0, none⟩) (ks.length + 1) cap) (ks ++ [(Nd.mk nk nt na ne (.slice nao nl ncap) nks, t)]) → wpList Tryz.prog ops Q rest (a.put o.dst (.slice (some ⟨g, 0, none⟩) (ks.length + 1) cap)) w') :
 wpList Tryz.prog ops Q (o :: rest) a (w.alloc (.cells #[.int .i64 nk, .string nt, .int .i64 na, .int .i64 ne, .slice nao nl ncap] 25)) := by
 obtain ⟨i0, hi0, hz0, hz1, hz2⟩ := info_parts info_nd
 have hlt := h.ein.pin.sok.lt
 have hlen := h.ein.pin.ok.len
 have hbb := h.ein.bb
 refine wpList_append_mine hg x y 23 ho B 25 i0 _ 5 64 Tryz.underlying23 hi0 hz0 hz1 hz2 (by decide) kv ks.length _ hx (h.ein.kr.row.alloc _) ⟨w.heap.size, 0, none⟩ 1 1 (Nd.mk nk nt na ne (.slice nao nl ncap) nks).cells.toList hy rfl (by omega) (cells_new w (Nd.mk nk nt na ne (.slice nao nl ncap) nks).cells _) (cells_one _ _ _ _ _ _ ⟨_, _, _, rfl⟩) (by unfold maxLen; omega) (by omega) (by simp; omega) ?_
 intro g cap w' hown hgrow hnew
 exact k g cap w' (h.app ((Below.refl _ w).alloc (Nat.le_refl _) _) hgrow hown hnew hc)
theorem EIn.start0 {w : World} {P : Nat} {tv lv : Value} {S : Src} {s : Ps} (h : PIn w P tv lv S s) : EIn w none w.heap.size P tv lv S s (w.alloc (.cells #[] 25)) lv s (.slice (some ⟨w.heap.size, 0, none⟩) 0 0) [] := by
 have hb := (Below.refl _ w).alloc (Nat.le_refl _) (.cells #[] 25)
 refine ⟨h.below hb, .of_below hb, fresh_same _ _, Nat.le_refl _, Nat.le_refl _, hb.size, h.toks.lt, by simp, ⟨⟨rfl, .inr ⟨w.heap.size, 0, #[], rfl, Nat.le_refl _, heap_alloc_new _ _, Nat.le_refl _, by decide, rfl, rfl⟩⟩, fun g hg e => ?_, by simp⟩, by simp⟩
 have hg2 : w.heap.size = g := by simpa [Value.ownBlock] using hg
 have := h.lt _ e
 omega
set_option maxRecDepth 100000 in
set_option maxHeartbeats 4000000 in
theorem list_walk {w : World} {P : Nat} {tv lv : Value} {S : Src} {s : Ps} (h : PIn w P tv lv S s) (k : Int) (f : M PT) (hf : ∀ (W : World) (lv : Value) (s : Ps), PIn W P tv lv S s → Calls Tryz.prog 160 #[.pointer (some ⟨P, 0, none⟩), .int .i64 k] W (NEnd W P tv lv S s (f s))) :
 Calls Tryz.prog 134 #[.pointer (some ⟨P, 0, none⟩), .int .i64 k] w (EEnd w P tv lv S s (elements S.A f s)) := by
 have e0 := Lib.hid (EIn.start0 h)
 have hD := Lib.hid (fun (W : World) (lv2 : Value) (q : PIn W P tv lv2 S s) => expect_walk q (ByteArray.mk #[40]) (by decide))
 have hm : Hid (elements S.A f s = if isB S.A [(ByteArray.mk #[41])] (demand S.A (ByteArray.mk #[40]) s).2 then ([], (demand S.A (ByteArray.mk #[41]) (demand S.A (ByteArray.mk #[40]) s).2).2) else ((more S.A f S.A.length [(f (demand S.A (ByteArray.mk #[40]) s).2).1] (f (demand S.A (ByteArray.mk #[40]) s).2).2).1, (demand S.A (ByteArray.mk #[41]) (more S.A f S.A.length [(f (demand S.A (ByteArray.mk #[40]) s).2).1] (f (demand S.A (ByteArray.mk #[40]) s).2).2).2).2)) := rfl
 generalize elements S.A f s = m at *
 generalize (demand S.A (ByteArray.mk #[40]) s).1 = d1 at *
 generalize (demand S.A (ByteArray.mk #[40]) s).2 = s1 at *
 clear h
 have hF := Lib.hid hf
 clear hf
 obtain ⟨i0, hi0, hz0, hz1, hz2⟩ := info_parts info_nd
 cases hi : isB S.A [(ByteArray.mk #[41])] s1 with
 | true =>
  rw [hi, if_pos rfl] at hm
  have hE := Lib.hid (fun (W : World) (lv2 : Value) (q : PIn W P tv lv2 S s1) => expect_walk q (ByteArray.mk #[41]) (by decide))
  have hi' := Lib.hid hi
  generalize (demand S.A (ByteArray.mk #[41]) s1).1 = d2 at *
  generalize (demand S.A (ByteArray.mk #[41]) s1).2 = s2 at *
  clear hi
  go_enter Tryz.func134, Tryz.ntmps134
  go_wp2_with (first
   | (go_at_call 83; refine (e2.out.callS (by repeat (first | exact Below.refl _ _ | apply bl_drew | apply bl_alloc)) (hE.out _ _)).mono ?_; rintro e w3 ⟨lv3, rfl, g⟩; have e3 := Lib.hid g; clear g)
   | (go_at_call 33; refine (e1.out.callIs (by repeat (first | exact Below.refl _ _ | apply bl_drew | apply bl_alloc)) [(ByteArray.mk #[41])] true hi'.out rfl (by decide) (by first | rfl | simp) rfl).mono ?_; rintro e w2 ⟨rfl, g⟩; have e2 := Lib.hid g; clear g)
   | (go_at_call 83; refine (e0.out.callS (by repeat (first | exact Below.refl _ _ | apply bl_drew | apply bl_alloc)) (hD.out _ _)).mono ?_; rintro e w1 ⟨lv1, rfl, g⟩; have e1 := Lib.hid g; clear g))
  go_ret
  rw [hm.out]
  exact e3.out.end_ rfl rfl _ rfl
 | false =>
  rw [hi, if_neg (by simp)] at hm
  have hi' := Lib.hid hi
  clear hi
  have hF1 := Lib.hid (fun (W : World) (lv2 : Value) (q : PIn W P tv lv2 S s1) => hF.out W lv2 s1 q)
  obtain ⟨R, hR⟩ : ∃ R, more S.A f S.A.length [(f s1).1] (f s1).2 = R := ⟨_, rfl⟩
  rw [hR] at hm
  have hR' := Lib.hid hR
  clear hR
  generalize f s1 = k1 at *
  go_enter Tryz.func134, Tryz.ntmps134
  go_wp2_with (first
   | (at_builtin; refine wpList_app e3.out rfl (.tmp 13) (.tmp 17) rfl rfl rfl (Nat.zero_le _) ?_; intro g cap w4 e; have e4 := Lib.hid e; clear e)
   | (go_at_call 160; refine (e2.out.callN (by repeat (first | exact Below.refl _ _ | apply bl_drew | apply bl_alloc)) (fun q => hF1.out _ _ q)).mono ?_; rintro e w3 ⟨lv3, nk, nt, na, ne, nao, ncap, nks, rfl, g, _⟩; have e3 := Lib.hid g; clear g)
   | (go_at_call 33; refine (e1.out.callIs (by repeat (first | exact Below.refl _ _ | apply bl_drew | apply bl_alloc)) [(ByteArray.mk #[41])] false hi'.out rfl (by decide) (by first | rfl | simp) rfl).mono ?_; rintro e w2 ⟨rfl, g⟩; have e2 := Lib.hid g; clear g)
   | (go_at_call 83; refine (e0.out.callS (by repeat (first | exact Below.refl _ _ | apply bl_drew | apply bl_alloc)) (hD.out _ _)).mono ?_; rintro e w1 ⟨lv1, rfl, g⟩; have hm1 : s.at_ ≤ s1.at_ := g.mono; have e1 := Lib.hid g; clear g))
  go_loopw [5] (fun v wr => ∃ (k : Nat) (lv2 : Value) (s2 : Ps) (ao : Option Addr) (cp : Nat) (ks : Kds), v = .slice ao ks.length cp ∧ EIn w none w.heap.size P tv lv S s wr lv2 s2 (.slice ao ks.length cp) ks ∧ S.L.length ≤ s2.at_ + k ∧ Hid (more S.A f k (ks.map Prod.snd) s2 = R)) (fun _ wr => S.L.length - atOf P wr)
  case atStart => exact ⟨S.A.length, lv3, k1.2, _, cap, [_], rfl, e4.out, by rw [Src.len]; omega, hR'⟩
  case round =>
   obtain ⟨k, lv2, s2, ao, cp, ks, rfl, e5', hk, hmo⟩ := hrel
   have e5 := Lib.hid e5'
   have hlt := e5'.pin.sok.lt
   have hmon := e5'.mono
   have hcn := e5'.cnt
   have hato := Lib.hid e5'.pin.atOf
   clear e5'
   cases hc : isB S.A [(ByteArray.mk #[44])] s2 with
   | true =>
    have hc' := Lib.hid hc
    obtain ⟨k', rfl⟩ : ∃ k', k = k' + 1 := ⟨k - 1, by omega⟩
    have hmo2 := Lib.hid ((more_go hc).symm.trans hmo.out)
    have hnx : (next S.A s2).2.at_ = s2.at_ + 1 := rfl
    clear hc
    have hF2 := Lib.hid (fun (W : World) (lv2 : Value) (q : PIn W P tv lv2 S (next S.A s2).2) => hF.out W lv2 _ q)
    have hO := Lib.hid (fun (W : World) (lv3 : Value) (q : PIn W P tv lv3 S s2) => opt_yes q (ByteArray.mk #[44]) hc'.out)
    generalize (next S.A s2).2 = s3 at *
    generalize f s3 = k3 at *
    go_wp2_with (first
     | (at_builtin; refine wpList_app e7.out rfl (.tmp 21) (.tmp 25) rfl rfl rfl (by omega) ?_; intro g cap w8 e; have e8 := Lib.hid e; clear e)
     | (go_at_call 160; refine (e6.out.callN (by repeat (first | exact Below.refl _ _ | apply bl_drew | apply bl_alloc)) (fun q => hF2.out _ _ q)).mono ?_; rintro e w7 ⟨lv7, nk7, nt7, na7, ne7, nao7, ncap7, nks7, rfl, g, hm7⟩; have e7 := Lib.hid g; clear g)
     | (go_at_call 96; refine (e5.out.callS (by repeat (first | exact Below.refl _ _ | apply bl_drew | apply bl_alloc)) (hO.out _ _)).mono ?_; rintro e w6 ⟨lv6, rfl, g⟩; have e6 := Lib.hid g; clear g))
    go_roundw
    case rel => exact ⟨k', lv7, k3.2, some ⟨g, 0, none⟩, cap, ks ++ [_], by simp, by simpa using e8.out, by omega, by simpa using hmo2⟩
    case measure => rw [e8.out.pin.atOf, hato.out]; omega
   | false =>
    have hc' := Lib.hid hc
    have hst := Lib.hid ((more_stop hc).symm.trans hmo.out)
    clear hc
    have hO := Lib.hid (fun (W : World) (lv3 : Value) (q : PIn W P tv lv3 S s2) => opt_no q (ByteArray.mk #[44]) hc'.out)
    have hE := Lib.hid (fun (W : World) (lv2 : Value) (q : PIn W P tv lv2 S s2) => expect_walk q (ByteArray.mk #[41]) (by decide))
    generalize (demand S.A (ByteArray.mk #[41]) s2).1 = d2 at *
    generalize hs9 : (demand S.A (ByteArray.mk #[41]) s2).2 = s9 at *
    have hs9' := Lib.hid hs9
    clear hs9
    go_wp2_with (first
     | (go_at_call 83; refine (e6.out.callS (by repeat (first | exact Below.refl _ _ | apply bl_drew | apply bl_alloc)) (hE.out _ _)).mono ?_; rintro e w7 ⟨lv7, rfl, g⟩; have e7 := Lib.hid g; clear g)
     | (go_at_call 96; refine (e5.out.callS (by repeat (first | exact Below.refl _ _ | apply bl_drew | apply bl_alloc)) (hO.out _ _)).mono ?_; rintro e w6 ⟨lv6, rfl, g⟩; have e6 := Lib.hid g; clear g))
    go_ret
    rw [hm.out, ← hst.out]
    simp only
    rw [hs9'.out]
    exact e7.out.end_ rfl rfl _ rfl
end Go.Proofs.YthggagophcnkfaaGreatDoor.py
namespace Go.Proofs.YthggagophcnkfaaGreatDoor.py
open Go.RowKit Go.Proofs.YthggagophcnkfaaGreatDoor.agg Go.Proofs.YthggagophcnkfaaGreatDoor.sx Go.Proofs.YthggagophcnkfaaGreatDoor.px
set_option linter.unusedSimpArgs false
set_option linter.unusedVariables false
set_option maxRecDepth 100000 in
set_option maxHeartbeats 2000000 in
theorem listed_walk {w : World} {P : Nat} {tv lv : Value} {S : Src} {s : Ps} (h : PIn w P tv lv S s) (kind k : Int) (f : M PT) (hf : ∀ (W : World) (lv : Value) (s : Ps), PIn W P tv lv S s → Calls Tryz.prog 160 #[.pointer (some ⟨P, 0, none⟩), .int .i64 k] W (NEnd W P tv lv S s (f s))) :
 Calls Tryz.prog 82 #[.pointer (some ⟨P, 0, none⟩), .int .i64 kind, .int .i64 k] w (NEnd w P tv lv S s (list1 S.A kind f s)) := by
 have f0 := Lib.hid (FIn.start h)
 have cat := h.cell.2.2.1
 have cla := h.cell.2.2.2.1
 have hP := lt_of_block h.box
 have hm : Hid (list1 S.A kind f s = (node kind s.at_ (⟨#[]⟩) (elements S.A f s).1 (elements S.A f s).2, (elements S.A f s).2)) := rfl
 generalize list1 S.A kind f s = m at *
 have h1 := Lib.hid (fun (W : World) (lvq : Value) (q : PIn W P tv lvq S s) => list_walk q k f hf)
 generalize elements S.A f s = k1 at *
 obtain ⟨l1, s1⟩ := k1
 clear h
 go_enter Tryz.func82, Tryz.ntmps82
 go_upto_region 1 with fail
 go_region
 go_wp2_with (first
  | (go_at_call 38; refine (f1.out.callNode (by repeat (first | exact Below.refl _ _ | apply bl_drew | apply bl_alloc)) kind s.at_ (Nat.le_refl _) ⟨#[]⟩).mono ?_; rintro e w2 ⟨rfl, g⟩; have f2 := Lib.hid g; clear g; obtain ⟨z0, z1, z2, z3, z4, z5⟩ := f2.out.fin.cells)
  | (go_at_call 134; refine (f0.out.callE (by repeat (first | exact Below.refl _ _ | apply bl_drew | apply bl_alloc)) (h1.out _ _)).mono ?_; rintro e w1 ⟨lv1, ao1, n1, cap1, ks1, rfl, hks1, g⟩; have f1 := Lib.hid g; clear g))
 refine bodyPost_ret (v := .agg #[.int .i64 kind, .string ⟨#[]⟩, .int .i64 (S.at_ s.at_ s1.at_), .int .i64 (S.last s1.at_), .slice ao1 n1 cap1]) (by simp [results, Tryz.results82, go_sem, z0, z1, z2, z3, z4] <;> rfl) rfl ?_
 rw [hm.out]
 rw [← hks1]
 exact f2.out.end_ (kept5 _ _ _ _ _ _ _) kind s.at_ ⟨#[]⟩
theorem columns_walk {w : World} {P : Nat} {tv lv : Value} {S : Src} {s : Ps} (h : PIn w P tv lv S s) : Calls Tryz.prog 82 #[.pointer (some ⟨P, 0, none⟩), .int .i64 10, .int .i64 0] w (NEnd w P tv lv S s (columns S.A s)) := listed_walk h 10 0 (column S.A) (fun _ _ _ q => el_column q)
theorem names_walk {w : World} {P : Nat} {tv lv : Value} {S : Src} {s : Ps} (h : PIn w P tv lv S s) : Calls Tryz.prog 82 #[.pointer (some ⟨P, 0, none⟩), .int .i64 18, .int .i64 1] w (NEnd w P tv lv S s (names S.A s)) := listed_walk h 18 1 (named S.A) (fun _ _ _ q => el_named q)
theorem parameters_walk {w : World} {P : Nat} {tv lv : Value} {S : Src} {s : Ps} (h : PIn w P tv lv S s) : Calls Tryz.prog 82 #[.pointer (some ⟨P, 0, none⟩), .int .i64 23, .int .i64 3] w (NEnd w P tv lv S s (list1 S.A 23 (parameter S.A) s)) := listed_walk h 23 3 (parameter S.A) (fun _ _ _ q => el_parameter q)
set_option maxRecDepth 100000 in
set_option maxHeartbeats 2000000 in
theorem cell_walk {w : World} {P : Nat} {tv lv : Value} {S : Src} {s : Ps} (h : PIn w P tv lv S s) :
 Calls Tryz.prog 163 #[.pointer (some ⟨P, 0, none⟩)] w (NEnd w P tv lv S s (cell S.A s)) := by
 have f0 := Lib.hid (FIn.start h)
 have cat := h.cell.2.2.1
 have cla := h.cell.2.2.2.1
 have hP := lt_of_block h.box
 have hm : Hid (cell S.A s = (node 22 s.at_ ((name S.A s).1) (elements S.A (argument S.A) (name S.A s).2).1 (elements S.A (argument S.A) (name S.A s).2).2, (elements S.A (argument S.A) (name S.A s).2).2)) := rfl
 generalize cell S.A s = m at *
 have h1 := Lib.hid (fun (W : World) (lvq : Value) (q : PIn W P tv lvq S s) => name_walk q)
 generalize (name S.A s).1 = x1 at *
 generalize (name S.A s).2 = s1 at *
 have h2 := Lib.hid (fun (W : World) (lvq : Value) (q : PIn W P tv lvq S s1) => list_walk q 2 _ (fun _ _ _ q => argument_walk q))
 generalize elements S.A (argument S.A) s1 = k2 at *
 obtain ⟨l2, s2⟩ := k2
 clear h
 go_enter Tryz.func163, Tryz.ntmps163
 go_upto_region 1 with fail
 go_region
 go_wp2_with (first
  | (go_at_call 38; refine (f2.out.callNode (by repeat (first | exact Below.refl _ _ | apply bl_drew | apply bl_alloc)) 22 s.at_ (Nat.le_refl _) x1).mono ?_; rintro e w3 ⟨rfl, g⟩; have f3 := Lib.hid g; clear g; obtain ⟨z0, z1, z2, z3, z4, z5⟩ := f3.out.fin.cells)
  | (go_at_call 134; refine (f1.out.callE (by repeat (first | exact Below.refl _ _ | apply bl_drew | apply bl_alloc)) (h2.out _ _)).mono ?_; rintro e w2 ⟨lv2, ao2, n2, cap2, ks2, rfl, hks2, g⟩; have f2 := Lib.hid g; clear g)
  | (go_at_call 80; refine (f0.out.callS (by repeat (first | exact Below.refl _ _ | apply bl_drew | apply bl_alloc)) (h1.out _ _)).mono ?_; rintro e w1 ⟨lv1, rfl, g⟩; have f1 := Lib.hid g; clear g))
 refine bodyPost_ret (v := .agg #[.int .i64 22, .string x1, .int .i64 (S.at_ s.at_ s2.at_), .int .i64 (S.last s2.at_), .slice ao2 n2 cap2]) (by simp [results, Tryz.results163, go_sem, z0, z1, z2, z3, z4] <;> rfl) rfl ?_
 rw [hm.out]
 rw [← hks2]
 exact f3.out.end_ (kept5 _ _ _ _ _ _ _) 22 s.at_ x1
end Go.Proofs.YthggagophcnkfaaGreatDoor.py
namespace Go.Proofs.YthggagophcnkfaaGreatDoor.py
open Go.RowKit Go.Proofs.YthggagophcnkfaaGreatDoor.agg Go.Proofs.YthggagophcnkfaaGreatDoor.sx Go.Proofs.YthggagophcnkfaaGreatDoor.px
set_option linter.unusedSimpArgs false
set_option linter.unusedVariables false
theorem FIn.callIsD {w0 : World} {Z : Nat} {P : Nat} {tv lv0 : Value} {S : Src} {s0 : Ps} {w : World} {lv : Value} {s : Ps} {ks : Kds} {bs : Bxs} {W : World} (h : FIn w0 Z P tv lv0 S s0 w lv s ks bs) (hb : Below w.heap.size w W) (ws : List ByteArray) (b : Bool) (hi : isB S.A ws s = b) {n : Nat} (hn : n = ws.length) (hl : n < 1000) {a : Nat} (ha : a = W.heap.size) {cs : Array Value} (hc : cs = (ws.map Value.string).toArray) :
 Calls Tryz.prog 33 #[.pointer (some ⟨P, 0, none⟩), .slice (some ⟨a, 0, none⟩) n n] (W.alloc (.cells cs 9)).drew fun e w' => e = .returned (.bool b) ∧ FIn w0 Z P tv lv0 S s0 w' lv s ks bs :=
 FIn.callIs (W := W.drew) h hb.drew ws b hi hn hl ha hc
theorem is1_word {A : List Tk} {a : ByteArray} {s : Ps} (h : isB A [a] s = true) : (next A s).1 = a := by
 unfold isB at h
 rw [Bool.and_eq_true] at h
 have := hasS_iff.1 h.2
 exact List.mem_singleton.1 this
set_option maxRecDepth 100000 in
set_option maxHeartbeats 2000000 in
theorem chosen_walk_1 {w : World} {P : Nat} {tv lv : Value} {S : Src} {s : Ps} (h : PIn w P tv lv S s) (a b : ByteArray) (ha : a ≠ ⟨#[]⟩) (c1 : Hid (isB S.A [a, b] s = true)) :
 Calls Tryz.prog 85 #[.pointer (some ⟨P, 0, none⟩), .string a, .string b] w (NEnd w P tv lv S s (chosen S.A [a, b] s)) := by
 have f0 := Lib.hid (FIn.start h)
 have cat := h.cell.2.2.1
 have cla := h.cell.2.2.2.1
 have hP := lt_of_block h.box
 have hm0 : chosen S.A [a, b] s = (node 38 s.at_ ((next S.A s).1) [] (next S.A s).2, (next S.A s).2) := by
  unfold chosen
  simp only [List.headD_cons, c1.out, if_true, if_false, Bool.false_eq_true, Bool.true_eq_false, reduceIte, Nat.reduceEqDiff]
 have hm := Lib.hid hm0
 clear hm0
 generalize chosen S.A [a, b] s = m at *
 have h2 := Lib.hid (fun (W : World) (lvq : Value) (q : PIn W P tv lvq S s) => read_walk q (isB_kind c1.out))
 generalize (next S.A s).1 = x2 at *
 generalize (next S.A s).2 = s2 at *
 clear h
 go_enter Tryz.func85, Tryz.ntmps85
 go_upto_region 1 with fail
 go_region
 go_wp2_with (first
  | (go_at_call 38; refine (f2.out.callLeaf (by repeat (first | exact Below.refl _ _ | apply bl_drew | apply bl_alloc)) 38 s.at_ (Nat.le_refl _) x2).mono ?_; rintro e w3 ⟨rfl, g⟩; have f3 := Lib.hid g; clear g; obtain ⟨z0, z1, z2, z3, z4, z5⟩ := f3.out.fin.cells)
  | (go_at_call 37; refine (f1.out.callS (by repeat (first | exact Below.refl _ _ | apply bl_drew | apply bl_alloc)) (h2.out _ _)).mono ?_; rintro e w2 ⟨lv2, rfl, g⟩; have f2 := Lib.hid g; clear g)
  | (go_at_call 33; refine (f0.out.callIsD (by repeat (first | exact Below.refl _ _ | apply bl_drew | apply bl_alloc)) [a, b] true c1.out rfl (by simp) (by simp) rfl).mono ?_; rintro e w1 ⟨rfl, g⟩; have f1 := Lib.hid g; clear g))
 refine bodyPost_ret (v := .agg #[.int .i64 38, .string x2, .int .i64 (S.at_ s.at_ s2.at_), .int .i64 (S.last s2.at_), .slice none 0 0]) (by simp [results, Tryz.results85, go_sem, z0, z1, z2, z3, z4] <;> rfl) rfl ?_
 rw [hm.out]
 exact f3.out.end_ (kept5 _ _ _ _ _ _ _) 38 s.at_ x2
set_option maxRecDepth 100000 in
set_option maxHeartbeats 2000000 in
theorem chosen_walk_2 {w : World} {P : Nat} {tv lv : Value} {S : Src} {s : Ps} (h : PIn w P tv lv S s) (a b : ByteArray) (ha : a ≠ ⟨#[]⟩) (c1 : Hid (isB S.A [a, b] s = false)) :
 Calls Tryz.prog 85 #[.pointer (some ⟨P, 0, none⟩), .string a, .string b] w (NEnd w P tv lv S s (chosen S.A [a, b] s)) := by
 have f0 := Lib.hid (FIn.start h)
 have cat := h.cell.2.2.1
 have cla := h.cell.2.2.2.1
 have hP := lt_of_block h.box
 have hm0 : chosen S.A [a, b] s = ((missing 0 (report 4 a s)), (report 4 a s)) := by
  unfold chosen
  simp only [List.headD_cons, c1.out, if_true, if_false, Bool.false_eq_true, Bool.true_eq_false, reduceIte, Nat.reduceEqDiff]
 have hm := Lib.hid hm0
 clear hm0
 generalize chosen S.A [a, b] s = m at *
 have h2 := Lib.hid (fun (W : World) (lvq : Value) (q : PIn W P tv lvq S s) => report_walk q 4 a (rp4 ha))
 generalize report 4 a s = s2 at *
 have h3 := Lib.hid (fun (W : World) (lvq : Value) (q : PIn W P tv lvq S s2) => missing_walk q 0)
 clear h
 go_enter Tryz.func85, Tryz.ntmps85
 go_upto_region 1 with fail
 go_region
 go_wp2_with (first
  | (go_at_call 136; refine (f2.out.callN (by repeat (first | exact Below.refl _ _ | apply bl_drew | apply bl_alloc)) (h3.out _ _)).mono ?_; rintro e w3 ⟨lv3, nk3, nt3, na3, ne3, nao3, ncap3, nks3, rfl, g⟩; have f3 := Lib.hid g; clear g; obtain ⟨z0, z1, z2, z3, z4, z5⟩ := f3.out.cells)
  | (go_at_call 36; refine (f1.out.callS (by repeat (first | exact Below.refl _ _ | apply bl_drew | apply bl_alloc)) (h2.out _ _)).mono ?_; rintro e w2 ⟨lv2, rfl, g⟩; have f2 := Lib.hid g; clear g)
  | (go_at_call 33; refine (f0.out.callIsD (by repeat (first | exact Below.refl _ _ | apply bl_drew | apply bl_alloc)) [a, b] false c1.out rfl (by simp) (by simp) rfl).mono ?_; rintro e w1 ⟨rfl, g⟩; have f1 := Lib.hid g; clear g))
 refine bodyPost_ret (v := .agg #[.int .i64 nk3, .string nt3, .int .i64 na3, .int .i64 ne3, .slice nao3 nks3.length ncap3]) (by simp [results, Tryz.results85, go_sem, z0, z1, z2, z3, z4] <;> rfl) rfl ?_
 rw [hm.out]
 exact f3.out.pass (kept5 _ _ _ _ _ _ _)
theorem chosen_walk {w : World} {P : Nat} {tv lv : Value} {S : Src} {s : Ps} (h : PIn w P tv lv S s) (a b : ByteArray) (ha : a ≠ ⟨#[]⟩) :
 Calls Tryz.prog 85 #[.pointer (some ⟨P, 0, none⟩), .string a, .string b] w (NEnd w P tv lv S s (chosen S.A [a, b] s)) := by
 cases q1 : isB S.A [a, b] s with
 | true =>
  exact chosen_walk_1 h a b ha (Lib.hid q1)
 | false =>
  exact chosen_walk_2 h a b ha (Lib.hid q1)
set_option maxRecDepth 100000 in
set_option maxHeartbeats 2000000 in
theorem maybe_walk_1 {w : World} {P : Nat} {tv lv : Value} {S : Src} {s : Ps} (h : PIn w P tv lv S s) (a : ByteArray) (c1 : Hid (isB S.A [a] s = true)) :
 Calls Tryz.prog 87 #[.pointer (some ⟨P, 0, none⟩), .string a] w (NEnd w P tv lv S s (maybe S.A a s)) := by
 have f0 := Lib.hid (FIn.start h)
 have cat := h.cell.2.2.1
 have cla := h.cell.2.2.2.1
 have hP := lt_of_block h.box
 have hm0 : maybe S.A a s = (node 38 s.at_ (a) [] (next S.A s).2, (next S.A s).2) := by
  unfold maybe chosen
  simp only [c1.out, is1_word c1.out, if_true, if_false, Bool.false_eq_true, Bool.true_eq_false, reduceIte, Nat.reduceEqDiff]
 have hm := Lib.hid hm0
 clear hm0
 generalize maybe S.A a s = m at *
 have h1 := Lib.hid (fun (W : World) (lvq : Value) (q : PIn W P tv lvq S s) => opt_yes q a c1.out)
 generalize (next S.A s).2 = s1 at *
 clear h
 go_enter Tryz.func87, Tryz.ntmps87
 go_upto_region 1 with fail
 go_region
 go_wp2_with (first
  | (go_at_call 38; refine (f1.out.callLeaf (by repeat (first | exact Below.refl _ _ | apply bl_drew | apply bl_alloc)) 38 s.at_ (Nat.le_refl _) a).mono ?_; rintro e w2 ⟨rfl, g⟩; have f2 := Lib.hid g; clear g; obtain ⟨z0, z1, z2, z3, z4, z5⟩ := f2.out.fin.cells)
  | (go_at_call 96; refine (f0.out.callS (by repeat (first | exact Below.refl _ _ | apply bl_drew | apply bl_alloc)) (h1.out _ _)).mono ?_; rintro e w1 ⟨lv1, rfl, g⟩; have f1 := Lib.hid g; clear g))
 refine bodyPost_ret (v := .agg #[.int .i64 38, .string a, .int .i64 (S.at_ s.at_ s1.at_), .int .i64 (S.last s1.at_), .slice none 0 0]) (by simp [results, Tryz.results87, go_sem, z0, z1, z2, z3, z4] <;> rfl) rfl ?_
 rw [hm.out]
 exact f2.out.end_ (kept5 _ _ _ _ _ _ _) 38 s.at_ a
set_option maxRecDepth 100000 in
set_option maxHeartbeats 2000000 in
theorem maybe_walk_2 {w : World} {P : Nat} {tv lv : Value} {S : Src} {s : Ps} (h : PIn w P tv lv S s) (a : ByteArray) (c1 : Hid (isB S.A [a] s = false)) :
 Calls Tryz.prog 87 #[.pointer (some ⟨P, 0, none⟩), .string a] w (NEnd w P tv lv S s (maybe S.A a s)) := by
 have f0 := Lib.hid (FIn.start h)
 have cat := h.cell.2.2.1
 have cla := h.cell.2.2.2.1
 have hP := lt_of_block h.box
 have hm0 : maybe S.A a s = ((missing 1 s), s) := by
  unfold maybe chosen
  simp only [c1.out, if_true, if_false, Bool.false_eq_true, Bool.true_eq_false, reduceIte, Nat.reduceEqDiff]
 have hm := Lib.hid hm0
 clear hm0
 generalize maybe S.A a s = m at *
 have h1 := Lib.hid (fun (W : World) (lvq : Value) (q : PIn W P tv lvq S s) => opt_no q a c1.out)
 have h2 := Lib.hid (fun (W : World) (lvq : Value) (q : PIn W P tv lvq S s) => missing_walk q 1)
 clear h
 go_enter Tryz.func87, Tryz.ntmps87
 go_upto_region 1 with fail
 go_region
 go_wp2_with (first
  | (go_at_call 136; refine (f1.out.callN (by repeat (first | exact Below.refl _ _ | apply bl_drew | apply bl_alloc)) (h2.out _ _)).mono ?_; rintro e w2 ⟨lv2, nk2, nt2, na2, ne2, nao2, ncap2, nks2, rfl, g⟩; have f2 := Lib.hid g; clear g; obtain ⟨z0, z1, z2, z3, z4, z5⟩ := f2.out.cells)
  | (go_at_call 96; refine (f0.out.callS (by repeat (first | exact Below.refl _ _ | apply bl_drew | apply bl_alloc)) (h1.out _ _)).mono ?_; rintro e w1 ⟨lv1, rfl, g⟩; have f1 := Lib.hid g; clear g))
 refine bodyPost_ret (v := .agg #[.int .i64 nk2, .string nt2, .int .i64 na2, .int .i64 ne2, .slice nao2 nks2.length ncap2]) (by simp [results, Tryz.results87, go_sem, z0, z1, z2, z3, z4] <;> rfl) rfl ?_
 rw [hm.out]
 exact f2.out.pass (kept5 _ _ _ _ _ _ _)
theorem maybe_walk {w : World} {P : Nat} {tv lv : Value} {S : Src} {s : Ps} (h : PIn w P tv lv S s) (a : ByteArray) :
 Calls Tryz.prog 87 #[.pointer (some ⟨P, 0, none⟩), .string a] w (NEnd w P tv lv S s (maybe S.A a s)) := by
 cases q1 : isB S.A [a] s with
 | true =>
  exact maybe_walk_1 h a (Lib.hid q1)
 | false =>
  exact maybe_walk_2 h a (Lib.hid q1)
set_option maxRecDepth 100000 in
set_option maxHeartbeats 2000000 in
theorem bound_int_walk_1 {w : World} {P : Nat} {tv lv : Value} {S : Src} {s : Ps} (h : PIn w P tv lv S s) (c1 : Hid (isB S.A [(ByteArray.mk #[60, 61]), (ByteArray.mk #[62, 61])] s = true)) :
 Calls Tryz.prog 137 #[.pointer (some ⟨P, 0, none⟩), .bool false] w (NEnd w P tv lv S s (bound S.A (integer S.A) s)) := by
 have f0 := Lib.hid (FIn.start h)
 have cat := h.cell.2.2.1
 have cla := h.cell.2.2.2.1
 have hP := lt_of_block h.box
 have hm0 : bound S.A (integer S.A) s = (node 19 s.at_ ((next S.A s).1) [(integer S.A (next S.A s).2).1] (integer S.A (next S.A s).2).2, (integer S.A (next S.A s).2).2) := by
  unfold bound
  simp only [c1.out, if_true, if_false, Bool.false_eq_true, Bool.true_eq_false, reduceIte, Nat.reduceEqDiff]
 have hm := Lib.hid hm0
 clear hm0
 generalize bound S.A (integer S.A) s = m at *
 have h2 := Lib.hid (fun (W : World) (lvq : Value) (q : PIn W P tv lvq S s) => read_walk q (isB_kind c1.out))
 generalize (next S.A s).1 = x2 at *
 generalize (next S.A s).2 = s2 at *
 have h3 := Lib.hid (fun (W : World) (lvq : Value) (q : PIn W P tv lvq S s2) => integer_walk q)
 generalize integer S.A s2 = k3 at *
 obtain ⟨kk3, s3⟩ := k3
 clear h
 go_enter Tryz.func137, Tryz.ntmps137
 go_upto_region 1 with fail
 go_region
 go_wp2_with (first
  | (go_at_call 38; refine ((FIn.over (nks' := nks3) f3.out 1).callNode (by repeat (first | exact Below.refl _ _ | apply bl_drew | apply bl_alloc)) 19 s.at_ (Nat.le_refl _) x2 rfl (by simp) rfl (by simp)).mono ?_; rintro e w4 ⟨rfl, g⟩; have f4 := Lib.hid g; clear g; obtain ⟨z0, z1, z2, z3, z4, z5⟩ := f4.out.fin.cells)
  | (go_at_call 135; refine ((f2.out.box1 (k := 0) (t := ⟨#[]⟩) (a := 0) (e := 0) (v := .slice none 0 0) [] rfl).callN (by repeat (first | exact Below.refl _ _ | apply bl_drew | apply bl_alloc)) (h3.out _ _)).mono ?_; rintro e w3 ⟨lv3, nk3, nt3, na3, ne3, nao3, ncap3, nks3, rfl, g⟩; have f3 := Lib.hid g; clear g; obtain ⟨y00, y01, y02, y03, y04, y05, y06⟩ := f3.out.bx 0 rfl)
  | (go_at_call 37; refine (f1.out.callS (by repeat (first | exact Below.refl _ _ | apply bl_drew | apply bl_alloc)) (h2.out _ _)).mono ?_; rintro e w2 ⟨lv2, rfl, g⟩; have f2 := Lib.hid g; clear g)
  | (go_at_call 33; refine (f0.out.callIsD (by repeat (first | exact Below.refl _ _ | apply bl_drew | apply bl_alloc)) [(ByteArray.mk #[60, 61]), (ByteArray.mk #[62, 61])] true c1.out rfl (by decide) (by simp) rfl).mono ?_; rintro e w1 ⟨rfl, g⟩; have f1 := Lib.hid g; clear g))
 refine bodyPost_ret (v := .agg #[.int .i64 19, .string x2, .int .i64 (S.at_ s.at_ s3.at_), .int .i64 (S.last s3.at_), .slice _ 1 1]) (by simp [results, Tryz.results137, go_sem, z0, z1, z2, z3, z4] <;> rfl) rfl ?_
 rw [hm.out]
 exact f4.out.end_ (kept5 _ _ _ _ _ _ _) 19 s.at_ x2
set_option maxRecDepth 100000 in
set_option maxHeartbeats 2000000 in
theorem bound_int_walk_2 {w : World} {P : Nat} {tv lv : Value} {S : Src} {s : Ps} (h : PIn w P tv lv S s) (c1 : Hid (isB S.A [(ByteArray.mk #[60, 61]), (ByteArray.mk #[62, 61])] s = false)) :
 Calls Tryz.prog 137 #[.pointer (some ⟨P, 0, none⟩), .bool false] w (NEnd w P tv lv S s (bound S.A (integer S.A) s)) := by
 have f0 := Lib.hid (FIn.start h)
 have cat := h.cell.2.2.1
 have cla := h.cell.2.2.2.1
 have hP := lt_of_block h.box
 have hm0 : bound S.A (integer S.A) s = (node 19 s.at_ (⟨#[]⟩) [(integer S.A (report 4 (ByteArray.mk #[60, 61]) s)).1] (integer S.A (report 4 (ByteArray.mk #[60, 61]) s)).2, (integer S.A (report 4 (ByteArray.mk #[60, 61]) s)).2) := by
  unfold bound
  simp only [c1.out, if_true, if_false, Bool.false_eq_true, Bool.true_eq_false, reduceIte, Nat.reduceEqDiff]
 have hm := Lib.hid hm0
 clear hm0
 generalize bound S.A (integer S.A) s = m at *
 have h2 := Lib.hid (fun (W : World) (lvq : Value) (q : PIn W P tv lvq S s) => report_walk q 4 (ByteArray.mk #[60, 61]) (rp4 (by decide)))
 generalize report 4 (ByteArray.mk #[60, 61]) s = s2 at *
 have h3 := Lib.hid (fun (W : World) (lvq : Value) (q : PIn W P tv lvq S s2) => integer_walk q)
 generalize integer S.A s2 = k3 at *
 obtain ⟨kk3, s3⟩ := k3
 clear h
 go_enter Tryz.func137, Tryz.ntmps137
 go_upto_region 1 with fail
 go_region
 go_wp2_with (first
  | (go_at_call 38; refine ((FIn.over (nks' := nks3) f3.out 1).callNode (by repeat (first | exact Below.refl _ _ | apply bl_drew | apply bl_alloc)) 19 s.at_ (Nat.le_refl _) ⟨#[]⟩ rfl (by simp) rfl (by simp)).mono ?_; rintro e w4 ⟨rfl, g⟩; have f4 := Lib.hid g; clear g; obtain ⟨z0, z1, z2, z3, z4, z5⟩ := f4.out.fin.cells)
  | (go_at_call 135; refine ((f2.out.box1 (k := 0) (t := ⟨#[]⟩) (a := 0) (e := 0) (v := .slice none 0 0) [] rfl).callN (by repeat (first | exact Below.refl _ _ | apply bl_drew | apply bl_alloc)) (h3.out _ _)).mono ?_; rintro e w3 ⟨lv3, nk3, nt3, na3, ne3, nao3, ncap3, nks3, rfl, g⟩; have f3 := Lib.hid g; clear g; obtain ⟨y00, y01, y02, y03, y04, y05, y06⟩ := f3.out.bx 0 rfl)
  | (go_at_call 36; refine (f1.out.callS (by repeat (first | exact Below.refl _ _ | apply bl_drew | apply bl_alloc)) (h2.out _ _)).mono ?_; rintro e w2 ⟨lv2, rfl, g⟩; have f2 := Lib.hid g; clear g)
  | (go_at_call 33; refine (f0.out.callIsD (by repeat (first | exact Below.refl _ _ | apply bl_drew | apply bl_alloc)) [(ByteArray.mk #[60, 61]), (ByteArray.mk #[62, 61])] false c1.out rfl (by decide) (by simp) rfl).mono ?_; rintro e w1 ⟨rfl, g⟩; have f1 := Lib.hid g; clear g))
 refine bodyPost_ret (v := .agg #[.int .i64 19, .string ⟨#[]⟩, .int .i64 (S.at_ s.at_ s3.at_), .int .i64 (S.last s3.at_), .slice _ 1 1]) (by simp [results, Tryz.results137, go_sem, z0, z1, z2, z3, z4] <;> rfl) rfl ?_
 rw [hm.out]
 exact f4.out.end_ (kept5 _ _ _ _ _ _ _) 19 s.at_ ⟨#[]⟩
theorem bound_int_walk {w : World} {P : Nat} {tv lv : Value} {S : Src} {s : Ps} (h : PIn w P tv lv S s) :
 Calls Tryz.prog 137 #[.pointer (some ⟨P, 0, none⟩), .bool false] w (NEnd w P tv lv S s (bound S.A (integer S.A) s)) := by
 cases q1 : isB S.A [(ByteArray.mk #[60, 61]), (ByteArray.mk #[62, 61])] s with
 | true =>
  exact bound_int_walk_1 h (Lib.hid q1)
 | false =>
  exact bound_int_walk_2 h (Lib.hid q1)
set_option maxRecDepth 100000 in
set_option maxHeartbeats 2000000 in
theorem bound_ex_walk_1 {w : World} {P : Nat} {tv lv : Value} {S : Src} {s : Ps} (h : PIn w P tv lv S s) (ex : M PT) (hE : ∀ (W : World) (lv : Value) (s : Ps), PIn W P tv lv S s → Calls Tryz.prog 45 #[.pointer (some ⟨P, 0, none⟩), .int .i64 1] W (NEnd W P tv lv S s (ex s))) (c1 : Hid (isB S.A [(ByteArray.mk #[60, 61]), (ByteArray.mk #[62, 61])] s = true)) :
 Calls Tryz.prog 137 #[.pointer (some ⟨P, 0, none⟩), .bool true] w (NEnd w P tv lv S s (bound S.A ex s)) := by
 have f0 := Lib.hid (FIn.start h)
 have cat := h.cell.2.2.1
 have cla := h.cell.2.2.2.1
 have hP := lt_of_block h.box
 have hm0 : bound S.A ex s = (node 19 s.at_ ((next S.A s).1) [(ex (next S.A s).2).1] (ex (next S.A s).2).2, (ex (next S.A s).2).2) := by
  unfold bound
  simp only [c1.out, if_true, if_false, Bool.false_eq_true, Bool.true_eq_false, reduceIte, Nat.reduceEqDiff]
 have hm := Lib.hid hm0
 clear hm0
 generalize bound S.A ex s = m at *
 have h2 := Lib.hid (fun (W : World) (lvq : Value) (q : PIn W P tv lvq S s) => read_walk q (isB_kind c1.out))
 generalize (next S.A s).1 = x2 at *
 generalize (next S.A s).2 = s2 at *
 have h3 := Lib.hid (fun (W : World) (lvq : Value) (q : PIn W P tv lvq S s2) => hE W lvq _ q)
 generalize ex s2 = k3 at *
 obtain ⟨kk3, s3⟩ := k3
 clear h
 go_enter Tryz.func137, Tryz.ntmps137
 go_upto_region 1 with fail
 go_region
 go_wp2_with (first
  | (go_at_call 38; refine ((FIn.over (nks' := nks3) f3.out 1).callNode (by repeat (first | exact Below.refl _ _ | apply bl_drew | apply bl_alloc)) 19 s.at_ (Nat.le_refl _) x2 rfl (by simp) rfl (by simp)).mono ?_; rintro e w4 ⟨rfl, g⟩; have f4 := Lib.hid g; clear g; obtain ⟨z0, z1, z2, z3, z4, z5⟩ := f4.out.fin.cells)
  | (go_at_call 45; refine ((f2.out.box1 (k := 0) (t := ⟨#[]⟩) (a := 0) (e := 0) (v := .slice none 0 0) [] rfl).callN (by repeat (first | exact Below.refl _ _ | apply bl_drew | apply bl_alloc)) (h3.out _ _)).mono ?_; rintro e w3 ⟨lv3, nk3, nt3, na3, ne3, nao3, ncap3, nks3, rfl, g⟩; have f3 := Lib.hid g; clear g; obtain ⟨y00, y01, y02, y03, y04, y05, y06⟩ := f3.out.bx 0 rfl)
  | (go_at_call 37; refine (f1.out.callS (by repeat (first | exact Below.refl _ _ | apply bl_drew | apply bl_alloc)) (h2.out _ _)).mono ?_; rintro e w2 ⟨lv2, rfl, g⟩; have f2 := Lib.hid g; clear g)
  | (go_at_call 33; refine (f0.out.callIsD (by repeat (first | exact Below.refl _ _ | apply bl_drew | apply bl_alloc)) [(ByteArray.mk #[60, 61]), (ByteArray.mk #[62, 61])] true c1.out rfl (by decide) (by simp) rfl).mono ?_; rintro e w1 ⟨rfl, g⟩; have f1 := Lib.hid g; clear g))
 refine bodyPost_ret (v := .agg #[.int .i64 19, .string x2, .int .i64 (S.at_ s.at_ s3.at_), .int .i64 (S.last s3.at_), .slice _ 1 1]) (by simp [results, Tryz.results137, go_sem, z0, z1, z2, z3, z4] <;> rfl) rfl ?_
 rw [hm.out]
 exact f4.out.end_ (kept5 _ _ _ _ _ _ _) 19 s.at_ x2
set_option maxRecDepth 100000 in
set_option maxHeartbeats 2000000 in
theorem bound_ex_walk_2 {w : World} {P : Nat} {tv lv : Value} {S : Src} {s : Ps} (h : PIn w P tv lv S s) (ex : M PT) (hE : ∀ (W : World) (lv : Value) (s : Ps), PIn W P tv lv S s → Calls Tryz.prog 45 #[.pointer (some ⟨P, 0, none⟩), .int .i64 1] W (NEnd W P tv lv S s (ex s))) (c1 : Hid (isB S.A [(ByteArray.mk #[60, 61]), (ByteArray.mk #[62, 61])] s = false)) :
 Calls Tryz.prog 137 #[.pointer (some ⟨P, 0, none⟩), .bool true] w (NEnd w P tv lv S s (bound S.A ex s)) := by
 have f0 := Lib.hid (FIn.start h)
 have cat := h.cell.2.2.1
 have cla := h.cell.2.2.2.1
 have hP := lt_of_block h.box
 have hm0 : bound S.A ex s = (node 19 s.at_ (⟨#[]⟩) [(ex (report 4 (ByteArray.mk #[60, 61]) s)).1] (ex (report 4 (ByteArray.mk #[60, 61]) s)).2, (ex (report 4 (ByteArray.mk #[60, 61]) s)).2) := by
  unfold bound
  simp only [c1.out, if_true, if_false, Bool.false_eq_true, Bool.true_eq_false, reduceIte, Nat.reduceEqDiff]
 have hm := Lib.hid hm0
 clear hm0
 generalize bound S.A ex s = m at *
 have h2 := Lib.hid (fun (W : World) (lvq : Value) (q : PIn W P tv lvq S s) => report_walk q 4 (ByteArray.mk #[60, 61]) (rp4 (by decide)))
 generalize report 4 (ByteArray.mk #[60, 61]) s = s2 at *
 have h3 := Lib.hid (fun (W : World) (lvq : Value) (q : PIn W P tv lvq S s2) => hE W lvq _ q)
 generalize ex s2 = k3 at *
 obtain ⟨kk3, s3⟩ := k3
 clear h
 go_enter Tryz.func137, Tryz.ntmps137
 go_upto_region 1 with fail
 go_region
 go_wp2_with (first
  | (go_at_call 38; refine ((FIn.over (nks' := nks3) f3.out 1).callNode (by repeat (first | exact Below.refl _ _ | apply bl_drew | apply bl_alloc)) 19 s.at_ (Nat.le_refl _) ⟨#[]⟩ rfl (by simp) rfl (by simp)).mono ?_; rintro e w4 ⟨rfl, g⟩; have f4 := Lib.hid g; clear g; obtain ⟨z0, z1, z2, z3, z4, z5⟩ := f4.out.fin.cells)
  | (go_at_call 45; refine ((f2.out.box1 (k := 0) (t := ⟨#[]⟩) (a := 0) (e := 0) (v := .slice none 0 0) [] rfl).callN (by repeat (first | exact Below.refl _ _ | apply bl_drew | apply bl_alloc)) (h3.out _ _)).mono ?_; rintro e w3 ⟨lv3, nk3, nt3, na3, ne3, nao3, ncap3, nks3, rfl, g⟩; have f3 := Lib.hid g; clear g; obtain ⟨y00, y01, y02, y03, y04, y05, y06⟩ := f3.out.bx 0 rfl)
  | (go_at_call 36; refine (f1.out.callS (by repeat (first | exact Below.refl _ _ | apply bl_drew | apply bl_alloc)) (h2.out _ _)).mono ?_; rintro e w2 ⟨lv2, rfl, g⟩; have f2 := Lib.hid g; clear g)
  | (go_at_call 33; refine (f0.out.callIsD (by repeat (first | exact Below.refl _ _ | apply bl_drew | apply bl_alloc)) [(ByteArray.mk #[60, 61]), (ByteArray.mk #[62, 61])] false c1.out rfl (by decide) (by simp) rfl).mono ?_; rintro e w1 ⟨rfl, g⟩; have f1 := Lib.hid g; clear g))
 refine bodyPost_ret (v := .agg #[.int .i64 19, .string ⟨#[]⟩, .int .i64 (S.at_ s.at_ s3.at_), .int .i64 (S.last s3.at_), .slice _ 1 1]) (by simp [results, Tryz.results137, go_sem, z0, z1, z2, z3, z4] <;> rfl) rfl ?_
 rw [hm.out]
 exact f4.out.end_ (kept5 _ _ _ _ _ _ _) 19 s.at_ ⟨#[]⟩
theorem bound_ex_walk {w : World} {P : Nat} {tv lv : Value} {S : Src} {s : Ps} (h : PIn w P tv lv S s) (ex : M PT) (hE : ∀ (W : World) (lv : Value) (s : Ps), PIn W P tv lv S s → Calls Tryz.prog 45 #[.pointer (some ⟨P, 0, none⟩), .int .i64 1] W (NEnd W P tv lv S s (ex s))) :
 Calls Tryz.prog 137 #[.pointer (some ⟨P, 0, none⟩), .bool true] w (NEnd w P tv lv S s (bound S.A ex s)) := by
 cases q1 : isB S.A [(ByteArray.mk #[60, 61]), (ByteArray.mk #[62, 61])] s with
 | true =>
  exact bound_ex_walk_1 h ex hE (Lib.hid q1)
 | false =>
  exact bound_ex_walk_2 h ex hE (Lib.hid q1)
end Go.Proofs.YthggagophcnkfaaGreatDoor.py
namespace Go.Proofs.YthggagophcnkfaaGreatDoor.py
open Go.RowKit Go.Proofs.YthggagophcnkfaaGreatDoor.agg Go.Proofs.YthggagophcnkfaaGreatDoor.sx Go.Proofs.YthggagophcnkfaaGreatDoor.px
set_option linter.unusedSimpArgs false
set_option linter.unusedVariables false
theorem FIn.over0 {w0 : World} {Z : Nat} {P : Nat} {tv lv0 : Value} {S : Src} {s0 : Ps} {w : World} {lv : Value} {s : Ps} {ks : Kds} {k k' : Int} {t t' : ByteArray} {a e a' e' : Int} {v v' : Value} {nks nks' : List Nd} {b : Nat} {x : Nat × Nd} (h : FIn w0 Z P tv lv0 S s0 w lv s ks (([] ++ [(b, Nd.mk k t a e v nks)]) ++ [x])) (j : Nat) :
 FIn w0 Z P tv lv0 S s0 (((((w.setCell ⟨b, 0, none⟩ (.int .i64 k')).setCell ⟨b, 1, none⟩ (.string t')).setCell ⟨b, 2, none⟩ (.int .i64 a')).setCell ⟨b, 3, none⟩ (.int .i64 e')).setCell ⟨b, 4, none⟩ v') lv s (ks.eraseIdx j) (([] ++ [(b, Nd.mk k' t' a' e' v' nks')]) ++ [x]) := by
 obtain ⟨b1, b2, b3⟩ := h.boxes (b, Nd.mk k t a e v nks) (by simp)
 obtain ⟨y1, y2, y3⟩ := h.boxes x (by simp)
 have hpw := List.pairwise_append.1 h.dist
 have hxb : x.1 ≠ b := fun e => by have := hpw.2.2 (b, Nd.mk k t a e' v nks) ; have h9 := hpw.2.2 _ (List.mem_append_right _ (List.mem_singleton.2 rfl)) x (List.mem_singleton.2 rfl); simp only at h9; omega
 have hks : ∀ p ∈ ks.eraseIdx j, p ∈ ks := fun p hp => List.mem_of_mem_eraseIdx hp
 have hK := kept5 w b (.int .i64 k') (.string t') (.int .i64 a') (.int .i64 e') v'
 have hT : tokBlock tv ≠ some b := fun e2 => by have := h.tlt b e2; simp only at b3; omega
 have hZ := h.hZ
 simp only at b2 b3
 refine ⟨h.pin.same hK (fun i hi => by rw [hi]; exact ⟨b2, hT⟩), h.kept.trans' hK (fun i hi e2 => by omega), h.fresh, (hK.block Z (lt_of_block h.box) (by omega)).trans h.box, h.hZ, h.far, h.mono, h.tlt, fun p hp => ?_, fun p hp => ?_, ?_⟩
 ·have h1 := h.kids p (hks p hp)
  refine ⟨h1.1.same (fun i hi hq => hK.block i hi (fun e2 => hq.2.2 (b, Nd.mk k t a e v nks) (by simp) e2.symm)) hK.size (fun i hi hq => ⟨hq.1, hq.2.1, fun q hq2 => ?_⟩), h1.2⟩
  have hq3 : q = (b, Nd.mk k' t' a' e' v' nks') ∨ q = x := by simpa using hq2
  rcases hq3 with rfl | rfl
  ·exact hq.2.2 (b, Nd.mk k t a e v nks) (by simp)
  ·exact hq.2.2 q (by simp)
 ·have hp3 : p = (b, Nd.mk k' t' a' e' v' nks') ∨ p = x := by simpa using hp
  rcases hp3 with rfl | rfl
  ·refine ⟨?_, b2, b3⟩
   rw [heap_setCell_same _ _ _ _ _ _ (heap_setCell_same _ _ _ _ _ _ (heap_setCell_same _ _ _ _ _ _ (heap_setCell_same _ _ _ _ _ _ (heap_setCell_same _ _ _ _ _ _ b1))))]
   exact rfl
  ·exact ⟨(hK.block p.1 (lt_of_block y1) hxb).trans y1, y2, y3⟩
 ·have h9 := hpw.2.2 (b, Nd.mk k t a e v nks) (by simp) x (by simp)
  simp only at h9
  simpa using h9
set_option maxRecDepth 100000 in
set_option maxHeartbeats 2000000 in
theorem term_walk_1 {w : World} {P : Nat} {tv lv : Value} {S : Src} {s : Ps} (h : PIn w P tv lv S s) (first : Nat) (h1st : first ≤ s.at_) (sign : ByteArray) (c1 : Hid ((tok S.A s).kind = 3)) (c2 : Hid (isB S.A [(ByteArray.mk #[115, 117, 109])] (demand S.A (ByteArray.mk #[42]) (number S.A s).2).2 = true)) :
 Calls Tryz.prog 161 #[.pointer (some ⟨P, 0, none⟩), .string sign, .int .i64 first, .int .i64 (S.last first)] w (NEnd w P tv lv S s (term S.A first sign s)) := by
 have f0 := Lib.hid (FIn.start h)
 have hP := lt_of_block h.box
 have hm0 : term S.A first sign s = (node 21 first (sign) [(number S.A s).1, (columns S.A (next S.A (demand S.A (ByteArray.mk #[42]) (number S.A s).2).2).2).1, (cell S.A (columns S.A (next S.A (demand S.A (ByteArray.mk #[42]) (number S.A s).2).2).2).2).1] (cell S.A (columns S.A (next S.A (demand S.A (ByteArray.mk #[42]) (number S.A s).2).2).2).2).2, (cell S.A (columns S.A (next S.A (demand S.A (ByteArray.mk #[42]) (number S.A s).2).2).2).2).2) := by
  unfold term
  simp only [c1.out, c2.out, if_true, if_false, Bool.false_eq_true, Bool.true_eq_false, reduceIte, Nat.reduceEqDiff]
 have hm := Lib.hid hm0
 clear hm0
 generalize term S.A first sign s = m at *
 have h1 := Lib.hid (fun (W : World) (lvq : Value) (q : PIn W P tv lvq S s) => missing_walk q 1)
 have h2 := Lib.hid (fun (W : World) (lvq : Value) (q : PIn W P tv lvq S s) => kind_b q 3 3 rfl (decide_eq_true c1.out))
 have h3 := Lib.hid (fun (W : World) (lvq : Value) (q : PIn W P tv lvq S s) => number_walk q)
 generalize number S.A s = k3 at *
 obtain ⟨kk3, s3⟩ := k3
 have h4 := Lib.hid (fun (W : World) (lvq : Value) (q : PIn W P tv lvq S s3) => expect_walk q (ByteArray.mk #[42]) (by decide))
 generalize (demand S.A (ByteArray.mk #[42]) s3).1 = x4 at *
 generalize (demand S.A (ByteArray.mk #[42]) s3).2 = s4 at *
 have h5 := Lib.hid (fun (W : World) (lvq : Value) (q : PIn W P tv lvq S s4) => opt_yes q (ByteArray.mk #[115, 117, 109]) c2.out)
 generalize (next S.A s4).2 = s5 at *
 have h6 := Lib.hid (fun (W : World) (lvq : Value) (q : PIn W P tv lvq S s5) => columns_walk q)
 generalize columns S.A s5 = k6 at *
 obtain ⟨kk6, s6⟩ := k6
 have h7 := Lib.hid (fun (W : World) (lvq : Value) (q : PIn W P tv lvq S s6) => cell_walk q)
 generalize cell S.A s6 = k7 at *
 obtain ⟨kk7, s7⟩ := k7
 clear h
 go_enter Tryz.func161, Tryz.ntmps161
 go_wp2_with (first
  | (go_at_call 38; refine ((f7.out.box1 nks7 rfl).callNode (by repeat (first | exact Below.refl _ _ | apply bl_drew | apply bl_alloc)) 21 first h1st sign rfl (by simp) rfl (by simp)).mono ?_; rintro e w8 ⟨rfl, g⟩; have f8 := Lib.hid g; clear g; obtain ⟨z0, z1, z2, z3, z4, z5⟩ := f8.out.fin.cells)
  | (go_at_call 163; refine ((FIn.over (nks' := nks6) f6.out 2).callN (by repeat (first | exact Below.refl _ _ | apply bl_drew | apply bl_alloc)) (h7.out _ _)).mono ?_; rintro e w7 ⟨lv7, nk7, nt7, na7, ne7, nao7, ncap7, nks7, rfl, g⟩; have f7 := Lib.hid g; clear g; obtain ⟨y00, y01, y02, y03, y04, y05, y06⟩ := f7.out.bx 0 rfl; obtain ⟨y10, y11, y12, y13, y14, y15, y16⟩ := f7.out.bx 1 rfl)
  | (go_at_call 82; refine (f5.out.callN (by repeat (first | exact Below.refl _ _ | apply bl_drew | apply bl_alloc)) (h6.out _ _)).mono ?_; rintro e w6 ⟨lv6, nk6, nt6, na6, ne6, nao6, ncap6, nks6, rfl, g⟩; have f6 := Lib.hid g; clear g; obtain ⟨y10, y11, y12, y13, y14, y15, y16⟩ := f6.out.bx 1 rfl)
  | (go_at_call 96; refine (f4.out.callS (by repeat (first | exact Below.refl _ _ | apply bl_drew | apply bl_alloc)) (h5.out _ _)).mono ?_; rintro e w5 ⟨lv5, rfl, g⟩; have f5 := Lib.hid g; clear g)
  | (go_at_call 83; refine ((FIn.over0 (nks' := nks3) f3.out 0).callS (by repeat (first | exact Below.refl _ _ | apply bl_drew | apply bl_alloc)) (h4.out _ _)).mono ?_; rintro e w4 ⟨lv4, rfl, g⟩; have f4 := Lib.hid g; clear g)
  | (go_at_call 81; refine (f2.out.callN (by repeat (first | exact Below.refl _ _ | apply bl_drew | apply bl_alloc)) (h3.out _ _)).mono ?_; rintro e w3 ⟨lv3, nk3, nt3, na3, ne3, nao3, ncap3, nks3, rfl, g⟩; have f3 := Lib.hid g; clear g; obtain ⟨y00, y01, y02, y03, y04, y05, y06⟩ := f3.out.bx 0 rfl)
  | (go_at_call 32; refine (((f1.out.box1 (k := nk1) (t := nt1) (a := na1) (e := ne1) (v := .slice nao1 nks1.length ncap1) (b := w1.heap.size) nks1 rfl).box1 (k := 0) (t := ⟨#[]⟩) (a := 0) (e := 0) (v := .slice none 0 0) (b := w1.heap.size + 1) [] (by simp)).callB (by repeat (first | exact Below.refl _ _ | apply bl_drew | apply bl_alloc)) (h2.out _ _)).mono ?_; rintro e w2 ⟨rfl, g⟩; have f2 := Lib.hid g; clear g)
  | (go_at_call 136; refine (f0.out.callN (by repeat (first | exact Below.refl _ _ | apply bl_drew | apply bl_alloc)) (h1.out _ _)).mono ?_; rintro e w1 ⟨lv1, nk1, nt1, na1, ne1, nao1, ncap1, nks1, rfl, g⟩; have f1 := Lib.hid g; clear g))
 refine bodyPost_ret (v := .agg #[.int .i64 21, .string sign, .int .i64 (S.at_ first s7.at_), .int .i64 (S.last s7.at_), .slice _ 3 3]) (by simp [results, Tryz.results161, go_sem, z0, z1, z2, z3, z4] <;> rfl) rfl ?_
 rw [hm.out]
 exact f8.out.end_ (kept5 _ _ _ _ _ _ _) 21 first sign
set_option maxRecDepth 100000 in
set_option maxHeartbeats 2000000 in
theorem term_walk_2 {w : World} {P : Nat} {tv lv : Value} {S : Src} {s : Ps} (h : PIn w P tv lv S s) (first : Nat) (h1st : first ≤ s.at_) (sign : ByteArray) (c1 : Hid ((tok S.A s).kind = 3)) (c2 : Hid (isB S.A [(ByteArray.mk #[115, 117, 109])] (demand S.A (ByteArray.mk #[42]) (number S.A s).2).2 = false)) :
 Calls Tryz.prog 161 #[.pointer (some ⟨P, 0, none⟩), .string sign, .int .i64 first, .int .i64 (S.last first)] w (NEnd w P tv lv S s (term S.A first sign s)) := by
 have f0 := Lib.hid (FIn.start h)
 have hP := lt_of_block h.box
 have hm0 : term S.A first sign s = (node 21 first (sign) [(number S.A s).1, (missing 1 (demand S.A (ByteArray.mk #[42]) (number S.A s).2).2), (cell S.A (demand S.A (ByteArray.mk #[42]) (number S.A s).2).2).1] (cell S.A (demand S.A (ByteArray.mk #[42]) (number S.A s).2).2).2, (cell S.A (demand S.A (ByteArray.mk #[42]) (number S.A s).2).2).2) := by
  unfold term
  simp only [c1.out, c2.out, if_true, if_false, Bool.false_eq_true, Bool.true_eq_false, reduceIte, Nat.reduceEqDiff]
 have hm := Lib.hid hm0
 clear hm0
 generalize term S.A first sign s = m at *
 have h1 := Lib.hid (fun (W : World) (lvq : Value) (q : PIn W P tv lvq S s) => missing_walk q 1)
 have h2 := Lib.hid (fun (W : World) (lvq : Value) (q : PIn W P tv lvq S s) => kind_b q 3 3 rfl (decide_eq_true c1.out))
 have h3 := Lib.hid (fun (W : World) (lvq : Value) (q : PIn W P tv lvq S s) => number_walk q)
 generalize number S.A s = k3 at *
 obtain ⟨kk3, s3⟩ := k3
 have h4 := Lib.hid (fun (W : World) (lvq : Value) (q : PIn W P tv lvq S s3) => expect_walk q (ByteArray.mk #[42]) (by decide))
 generalize (demand S.A (ByteArray.mk #[42]) s3).1 = x4 at *
 generalize (demand S.A (ByteArray.mk #[42]) s3).2 = s4 at *
 have h5 := Lib.hid (fun (W : World) (lvq : Value) (q : PIn W P tv lvq S s4) => opt_no q (ByteArray.mk #[115, 117, 109]) c2.out)
 have h6 := Lib.hid (fun (W : World) (lvq : Value) (q : PIn W P tv lvq S s4) => missing_walk q 1)
 have h7 := Lib.hid (fun (W : World) (lvq : Value) (q : PIn W P tv lvq S s4) => cell_walk q)
 generalize cell S.A s4 = k7 at *
 obtain ⟨kk7, s7⟩ := k7
 clear h
 go_enter Tryz.func161, Tryz.ntmps161
 go_wp2_with (first
  | (go_at_call 38; refine ((f7.out.box1 nks7 rfl).callNode (by repeat (first | exact Below.refl _ _ | apply bl_drew | apply bl_alloc)) 21 first h1st sign rfl (by simp) rfl (by simp)).mono ?_; rintro e w8 ⟨rfl, g⟩; have f8 := Lib.hid g; clear g; obtain ⟨z0, z1, z2, z3, z4, z5⟩ := f8.out.fin.cells)
  | (go_at_call 163; refine ((FIn.over (nks' := nks6) f6.out 2).callN (by repeat (first | exact Below.refl _ _ | apply bl_drew | apply bl_alloc)) (h7.out _ _)).mono ?_; rintro e w7 ⟨lv7, nk7, nt7, na7, ne7, nao7, ncap7, nks7, rfl, g⟩; have f7 := Lib.hid g; clear g; obtain ⟨y00, y01, y02, y03, y04, y05, y06⟩ := f7.out.bx 0 rfl; obtain ⟨y10, y11, y12, y13, y14, y15, y16⟩ := f7.out.bx 1 rfl)
  | (go_at_call 136; refine (f5.out.callN (by repeat (first | exact Below.refl _ _ | apply bl_drew | apply bl_alloc)) (h6.out _ _)).mono ?_; rintro e w6 ⟨lv6, nk6, nt6, na6, ne6, nao6, ncap6, nks6, rfl, g⟩; have f6 := Lib.hid g; clear g; obtain ⟨y10, y11, y12, y13, y14, y15, y16⟩ := f6.out.bx 1 rfl)
  | (go_at_call 96; refine (f4.out.callS (by repeat (first | exact Below.refl _ _ | apply bl_drew | apply bl_alloc)) (h5.out _ _)).mono ?_; rintro e w5 ⟨lv5, rfl, g⟩; have f5 := Lib.hid g; clear g)
  | (go_at_call 83; refine ((FIn.over0 (nks' := nks3) f3.out 0).callS (by repeat (first | exact Below.refl _ _ | apply bl_drew | apply bl_alloc)) (h4.out _ _)).mono ?_; rintro e w4 ⟨lv4, rfl, g⟩; have f4 := Lib.hid g; clear g)
  | (go_at_call 81; refine (f2.out.callN (by repeat (first | exact Below.refl _ _ | apply bl_drew | apply bl_alloc)) (h3.out _ _)).mono ?_; rintro e w3 ⟨lv3, nk3, nt3, na3, ne3, nao3, ncap3, nks3, rfl, g⟩; have f3 := Lib.hid g; clear g; obtain ⟨y00, y01, y02, y03, y04, y05, y06⟩ := f3.out.bx 0 rfl)
  | (go_at_call 32; refine (((f1.out.box1 (k := nk1) (t := nt1) (a := na1) (e := ne1) (v := .slice nao1 nks1.length ncap1) (b := w1.heap.size) nks1 rfl).box1 (k := 0) (t := ⟨#[]⟩) (a := 0) (e := 0) (v := .slice none 0 0) (b := w1.heap.size + 1) [] (by simp)).callB (by repeat (first | exact Below.refl _ _ | apply bl_drew | apply bl_alloc)) (h2.out _ _)).mono ?_; rintro e w2 ⟨rfl, g⟩; have f2 := Lib.hid g; clear g)
  | (go_at_call 136; refine (f0.out.callN (by repeat (first | exact Below.refl _ _ | apply bl_drew | apply bl_alloc)) (h1.out _ _)).mono ?_; rintro e w1 ⟨lv1, nk1, nt1, na1, ne1, nao1, ncap1, nks1, rfl, g⟩; have f1 := Lib.hid g; clear g))
 refine bodyPost_ret (v := .agg #[.int .i64 21, .string sign, .int .i64 (S.at_ first s7.at_), .int .i64 (S.last s7.at_), .slice _ 3 3]) (by simp [results, Tryz.results161, go_sem, z0, z1, z2, z3, z4] <;> rfl) rfl ?_
 rw [hm.out]
 exact f8.out.end_ (kept5 _ _ _ _ _ _ _) 21 first sign
set_option maxRecDepth 100000 in
set_option maxHeartbeats 2000000 in
theorem term_walk_3 {w : World} {P : Nat} {tv lv : Value} {S : Src} {s : Ps} (h : PIn w P tv lv S s) (first : Nat) (h1st : first ≤ s.at_) (sign : ByteArray) (c1 : Hid (¬ (tok S.A s).kind = 3)) (c2 : Hid (isB S.A [(ByteArray.mk #[115, 117, 109])] s = true)) :
 Calls Tryz.prog 161 #[.pointer (some ⟨P, 0, none⟩), .string sign, .int .i64 first, .int .i64 (S.last first)] w (NEnd w P tv lv S s (term S.A first sign s)) := by
 have f0 := Lib.hid (FIn.start h)
 have hP := lt_of_block h.box
 have hm0 : term S.A first sign s = (node 21 first (sign) [(missing 1 s), (columns S.A (next S.A s).2).1, (cell S.A (columns S.A (next S.A s).2).2).1] (cell S.A (columns S.A (next S.A s).2).2).2, (cell S.A (columns S.A (next S.A s).2).2).2) := by
  unfold term
  simp only [c1.out, c2.out, if_true, if_false, Bool.false_eq_true, Bool.true_eq_false, reduceIte, Nat.reduceEqDiff]
 have hm := Lib.hid hm0
 clear hm0
 generalize term S.A first sign s = m at *
 have h1 := Lib.hid (fun (W : World) (lvq : Value) (q : PIn W P tv lvq S s) => missing_walk q 1)
 have h2 := Lib.hid (fun (W : World) (lvq : Value) (q : PIn W P tv lvq S s) => kind_b q 3 3 rfl (decide_eq_false c1.out))
 have h3 := Lib.hid (fun (W : World) (lvq : Value) (q : PIn W P tv lvq S s) => opt_yes q (ByteArray.mk #[115, 117, 109]) c2.out)
 generalize (next S.A s).2 = s3 at *
 have h4 := Lib.hid (fun (W : World) (lvq : Value) (q : PIn W P tv lvq S s3) => columns_walk q)
 generalize columns S.A s3 = k4 at *
 obtain ⟨kk4, s4⟩ := k4
 have h5 := Lib.hid (fun (W : World) (lvq : Value) (q : PIn W P tv lvq S s4) => cell_walk q)
 generalize cell S.A s4 = k5 at *
 obtain ⟨kk5, s5⟩ := k5
 clear h
 go_enter Tryz.func161, Tryz.ntmps161
 go_wp2_with (first
  | (go_at_call 38; refine ((f5.out.box1 nks5 rfl).callNode (by repeat (first | exact Below.refl _ _ | apply bl_drew | apply bl_alloc)) 21 first h1st sign rfl (by simp) rfl (by simp)).mono ?_; rintro e w6 ⟨rfl, g⟩; have f6 := Lib.hid g; clear g; obtain ⟨z0, z1, z2, z3, z4, z5⟩ := f6.out.fin.cells)
  | (go_at_call 163; refine ((FIn.over (nks' := nks4) f4.out 2).callN (by repeat (first | exact Below.refl _ _ | apply bl_drew | apply bl_alloc)) (h5.out _ _)).mono ?_; rintro e w5 ⟨lv5, nk5, nt5, na5, ne5, nao5, ncap5, nks5, rfl, g⟩; have f5 := Lib.hid g; clear g; obtain ⟨y00, y01, y02, y03, y04, y05, y06⟩ := f5.out.bx 0 rfl; obtain ⟨y10, y11, y12, y13, y14, y15, y16⟩ := f5.out.bx 1 rfl)
  | (go_at_call 82; refine (f3.out.callN (by repeat (first | exact Below.refl _ _ | apply bl_drew | apply bl_alloc)) (h4.out _ _)).mono ?_; rintro e w4 ⟨lv4, nk4, nt4, na4, ne4, nao4, ncap4, nks4, rfl, g⟩; have f4 := Lib.hid g; clear g; obtain ⟨y10, y11, y12, y13, y14, y15, y16⟩ := f4.out.bx 1 rfl)
  | (go_at_call 96; refine (f2.out.callS (by repeat (first | exact Below.refl _ _ | apply bl_drew | apply bl_alloc)) (h3.out _ _)).mono ?_; rintro e w3 ⟨lv3, rfl, g⟩; have f3 := Lib.hid g; clear g)
  | (go_at_call 32; refine (((f1.out.box1 (k := nk1) (t := nt1) (a := na1) (e := ne1) (v := .slice nao1 nks1.length ncap1) (b := w1.heap.size) nks1 rfl).box1 (k := 0) (t := ⟨#[]⟩) (a := 0) (e := 0) (v := .slice none 0 0) (b := w1.heap.size + 1) [] (by simp)).callB (by repeat (first | exact Below.refl _ _ | apply bl_drew | apply bl_alloc)) (h2.out _ _)).mono ?_; rintro e w2 ⟨rfl, g⟩; have f2 := Lib.hid g; clear g)
  | (go_at_call 136; refine (f0.out.callN (by repeat (first | exact Below.refl _ _ | apply bl_drew | apply bl_alloc)) (h1.out _ _)).mono ?_; rintro e w1 ⟨lv1, nk1, nt1, na1, ne1, nao1, ncap1, nks1, rfl, g⟩; have f1 := Lib.hid g; clear g))
 refine bodyPost_ret (v := .agg #[.int .i64 21, .string sign, .int .i64 (S.at_ first s5.at_), .int .i64 (S.last s5.at_), .slice _ 3 3]) (by simp [results, Tryz.results161, go_sem, z0, z1, z2, z3, z4] <;> rfl) rfl ?_
 rw [hm.out]
 exact f6.out.end_ (kept5 _ _ _ _ _ _ _) 21 first sign
set_option maxRecDepth 100000 in
set_option maxHeartbeats 2000000 in
theorem term_walk_4 {w : World} {P : Nat} {tv lv : Value} {S : Src} {s : Ps} (h : PIn w P tv lv S s) (first : Nat) (h1st : first ≤ s.at_) (sign : ByteArray) (c1 : Hid (¬ (tok S.A s).kind = 3)) (c2 : Hid (isB S.A [(ByteArray.mk #[115, 117, 109])] s = false)) :
 Calls Tryz.prog 161 #[.pointer (some ⟨P, 0, none⟩), .string sign, .int .i64 first, .int .i64 (S.last first)] w (NEnd w P tv lv S s (term S.A first sign s)) := by
 have f0 := Lib.hid (FIn.start h)
 have hP := lt_of_block h.box
 have hm0 : term S.A first sign s = (node 21 first (sign) [(missing 1 s), (missing 1 s), (cell S.A s).1] (cell S.A s).2, (cell S.A s).2) := by
  unfold term
  simp only [c1.out, c2.out, if_true, if_false, Bool.false_eq_true, Bool.true_eq_false, reduceIte, Nat.reduceEqDiff]
 have hm := Lib.hid hm0
 clear hm0
 generalize term S.A first sign s = m at *
 have h1 := Lib.hid (fun (W : World) (lvq : Value) (q : PIn W P tv lvq S s) => missing_walk q 1)
 have h2 := Lib.hid (fun (W : World) (lvq : Value) (q : PIn W P tv lvq S s) => kind_b q 3 3 rfl (decide_eq_false c1.out))
 have h3 := Lib.hid (fun (W : World) (lvq : Value) (q : PIn W P tv lvq S s) => opt_no q (ByteArray.mk #[115, 117, 109]) c2.out)
 have h4 := Lib.hid (fun (W : World) (lvq : Value) (q : PIn W P tv lvq S s) => missing_walk q 1)
 have h5 := Lib.hid (fun (W : World) (lvq : Value) (q : PIn W P tv lvq S s) => cell_walk q)
 generalize cell S.A s = k5 at *
 obtain ⟨kk5, s5⟩ := k5
 clear h
 go_enter Tryz.func161, Tryz.ntmps161
 go_wp2_with (first
  | (go_at_call 38; refine ((f5.out.box1 nks5 rfl).callNode (by repeat (first | exact Below.refl _ _ | apply bl_drew | apply bl_alloc)) 21 first h1st sign rfl (by simp) rfl (by simp)).mono ?_; rintro e w6 ⟨rfl, g⟩; have f6 := Lib.hid g; clear g; obtain ⟨z0, z1, z2, z3, z4, z5⟩ := f6.out.fin.cells)
  | (go_at_call 163; refine ((FIn.over (nks' := nks4) f4.out 2).callN (by repeat (first | exact Below.refl _ _ | apply bl_drew | apply bl_alloc)) (h5.out _ _)).mono ?_; rintro e w5 ⟨lv5, nk5, nt5, na5, ne5, nao5, ncap5, nks5, rfl, g⟩; have f5 := Lib.hid g; clear g; obtain ⟨y00, y01, y02, y03, y04, y05, y06⟩ := f5.out.bx 0 rfl; obtain ⟨y10, y11, y12, y13, y14, y15, y16⟩ := f5.out.bx 1 rfl)
  | (go_at_call 136; refine (f3.out.callN (by repeat (first | exact Below.refl _ _ | apply bl_drew | apply bl_alloc)) (h4.out _ _)).mono ?_; rintro e w4 ⟨lv4, nk4, nt4, na4, ne4, nao4, ncap4, nks4, rfl, g⟩; have f4 := Lib.hid g; clear g; obtain ⟨y10, y11, y12, y13, y14, y15, y16⟩ := f4.out.bx 1 rfl)
  | (go_at_call 96; refine (f2.out.callS (by repeat (first | exact Below.refl _ _ | apply bl_drew | apply bl_alloc)) (h3.out _ _)).mono ?_; rintro e w3 ⟨lv3, rfl, g⟩; have f3 := Lib.hid g; clear g)
  | (go_at_call 32; refine (((f1.out.box1 (k := nk1) (t := nt1) (a := na1) (e := ne1) (v := .slice nao1 nks1.length ncap1) (b := w1.heap.size) nks1 rfl).box1 (k := 0) (t := ⟨#[]⟩) (a := 0) (e := 0) (v := .slice none 0 0) (b := w1.heap.size + 1) [] (by simp)).callB (by repeat (first | exact Below.refl _ _ | apply bl_drew | apply bl_alloc)) (h2.out _ _)).mono ?_; rintro e w2 ⟨rfl, g⟩; have f2 := Lib.hid g; clear g)
  | (go_at_call 136; refine (f0.out.callN (by repeat (first | exact Below.refl _ _ | apply bl_drew | apply bl_alloc)) (h1.out _ _)).mono ?_; rintro e w1 ⟨lv1, nk1, nt1, na1, ne1, nao1, ncap1, nks1, rfl, g⟩; have f1 := Lib.hid g; clear g))
 refine bodyPost_ret (v := .agg #[.int .i64 21, .string sign, .int .i64 (S.at_ first s5.at_), .int .i64 (S.last s5.at_), .slice _ 3 3]) (by simp [results, Tryz.results161, go_sem, z0, z1, z2, z3, z4] <;> rfl) rfl ?_
 rw [hm.out]
 exact f6.out.end_ (kept5 _ _ _ _ _ _ _) 21 first sign
theorem term_walk {w : World} {P : Nat} {tv lv : Value} {S : Src} {s : Ps} (h : PIn w P tv lv S s) (first : Nat) (h1st : first ≤ s.at_) (sign : ByteArray) :
 Calls Tryz.prog 161 #[.pointer (some ⟨P, 0, none⟩), .string sign, .int .i64 first, .int .i64 (S.last first)] w (NEnd w P tv lv S s (term S.A first sign s)) := by
 by_cases q1 : (tok S.A s).kind = 3
 ·skip
  cases q2 : isB S.A [(ByteArray.mk #[115, 117, 109])] (demand S.A (ByteArray.mk #[42]) (number S.A s).2).2 with
  | true =>
   exact term_walk_1 h first h1st sign (Lib.hid q1) (Lib.hid q2)
  | false =>
   exact term_walk_2 h first h1st sign (Lib.hid q1) (Lib.hid q2)
 ·skip
  cases q2 : isB S.A [(ByteArray.mk #[115, 117, 109])] s with
  | true =>
   exact term_walk_3 h first h1st sign (Lib.hid q1) (Lib.hid q2)
  | false =>
   exact term_walk_4 h first h1st sign (Lib.hid q1) (Lib.hid q2)
end Go.Proofs.YthggagophcnkfaaGreatDoor.py
