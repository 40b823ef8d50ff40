/- What is right of the diagnostics of a text; the declarations' nodes while they are collected into a node in memory. No function of the program is walked here. The walk of Parse for a text that is not too large. -/
import Derived.Test.YthggagophcnkfaaGreatDoorPBegin
import Derived.Test.YthggagophcnkfaaGreatDoorM9
import Derived.Test.YthggagophcnkfaaGreatDoorM31
import Derived.Test.YthggagophcnkfaaGreatDoorTk
import Derived.Test.YthggagophcnkfaaGreatDoorM11
namespace Go.Proofs.YthggagophcnkfaaGreatDoor.px
open Go.RowKit Go.Proofs.YthggagophcnkfaaGreatDoor.agg Go.Proofs.YthggagophcnkfaaGreatDoor.sx Go.Proofs.YthggagophcnkfaaGreatDoor.lx Go.Proofs.YthggagophcnkfaaGreatDoor.so
set_option linter.unusedSimpArgs false
set_option linter.unusedVariables false
theorem toks_rng (T : ByteArray) : ∀ t ∈ toks T, t.kind ≤ 5 ∧ t.at_ ≤ t.to ∧ t.to ≤ T.size := by
 obtain ⟨init, e, h1, h2, h2b, h3, h4, h5⟩ := toks_split T
 rw [h1]
 exact h4
theorem lexDg_at {T : ByteArray} {t : Tok} {d : Dg} (h : d ∈ lexDg T t) : d.at_ = t.at_ ∧ d.to = t.to ∧ 1 ≤ d.code ∧ d.code ≤ 3 ∧ d.text = ⟨#[]⟩ := by
 unfold lexDg at h
 split at h
 ·simp only [List.mem_singleton] at h
  subst h
  exact ⟨rfl, rfl, (by decide : (1 : Int) ≤ 1), (by decide : (1 : Int) ≤ 3), rfl⟩
 ·split at h
  ·split at h
   ·simp at h
   ·simp only [List.mem_singleton] at h
    subst h
    exact ⟨rfl, rfl, (by decide : (1 : Int) ≤ 2), (by decide : (2 : Int) ≤ 3), rfl⟩
  ·split at h
   ·split at h
    ·simp only [List.mem_singleton] at h
     subst h
     exact ⟨rfl, rfl, (by decide : (1 : Int) ≤ 3), (by decide : (3 : Int) ≤ 3), rfl⟩
    ·simp at h
   ·simp at h
def DgOk (T : ByteArray) (d : Dg) : Prop := 0 ≤ d.at_ ∧ d.at_ ≤ d.to ∧ d.to ≤ T.size ∧ 1 ≤ d.code ∧ d.code ≤ 7 ∧ (d.text ≠ ⟨#[]⟩ ↔ d.code = 4)
theorem list_dgok {T : ByteArray} (hT : T.size ≤ 4096) {s : Ps} (hs : PsOk (src T) s) : ∀ d ∈ (src T).list s, DgOk T d := by
 intro d hd
 have ok := src_ok T hT
 rcases List.mem_append.1 hd with hd | hd
 ·obtain ⟨t, ht, hd⟩ := List.mem_flatMap.1 hd
  obtain ⟨e1, e2, e3, e4, e5⟩ := lexDg_at hd
  obtain ⟨_, r1, r2⟩ := toks_rng T t ht
  refine ⟨by omega, by omega, by omega, e3, by omega, ?_⟩
  rw [e5]
  constructor
  ·intro h; exact absurd rfl h
  ·intro h; omega
 ·obtain ⟨r, hr, rfl⟩ := List.mem_map.1 hd
  obtain ⟨h1, h2, h3, h4⟩ := hs.reps r hr
  have h5 : r.idx < (src T).L.length := Nat.lt_of_le_of_lt h1 hs.lt
  have e1 : (src T).L.getD r.idx default = (src T).L[r.idx] := by rw [List.getD_eq_getElem?_getD, List.getElem?_eq_getElem h5]; rfl
  obtain ⟨_, r1, r2⟩ := ok.rng _ (List.getElem_mem h5)
  have r3 : ((src T).L[r.idx].to : Int) ≤ T.size := by exact_mod_cast r2
  unfold Src.dg DgOk
  rw [e1]
  exact ⟨by simp only; omega, by simp only; omega, r3, by simp only; omega, by simp only; omega, h4⟩
theorem list_ok {T : ByteArray} (hT : T.size ≤ 4096) {s : Ps} (hs : PsOk (src T) s) : OkD ((src T).list s) := fun d hd => by
 obtain ⟨a, b, c, _⟩ := list_dgok hT hs d hd
 exact ⟨a, by omega⟩
theorem decls_stop {A : List Tk} {k : Nat} {l : List PT} {s : Ps} (h : atEnd A s = true) : decls A k l s = (l, s) := by
 cases k with
 | zero => rfl
 | succ k => rw [decls, if_pos h]
theorem decls_go {A : List Tk} {k : Nat} {l : List PT} {s : Ps} (h : atEnd A s = false) : decls A (k + 1) l s = decls A k (l ++ [(declaration A s).1]) (declaration A s).2 := by
 rw [decls, if_neg (by rw [h]; simp)]
theorem ownsRow_up {w : World} {B : Nat} {e : TypeId} {size n : Nat} {v : Value} {xs : List Value} (h : w.ownsRow 0 e size v n xs) (hB : ∀ b, v.ownBlock = some b → B ≤ b) : w.ownsRow B e size v n xs := by
 refine ⟨h.1, ?_⟩
 rcases h.2 with hn | ⟨g, cap, cur, rfl, hg, hh⟩
 ·exact .inl hn
 ·exact .inr ⟨g, cap, cur, rfl, hB g rfl, hh⟩
def ResOk (T : ByteArray) (l : List Dg) : Prop := (∀ d ∈ l, DgOk T d) ∧ l.length ≤ 20001
theorem res_ok {T : ByteArray} (hT : T.size ≤ 4096) {s : Ps} (hs : PsOk (src T) s) (hl : (sortD ((src T).list s)).length = ((src T).list s).length) : ResOk T (sortD ((src T).list s)) :=
 ⟨fun d hd => list_dgok hT hs d ((sortD_like _).symm.mem hd), by rw [hl]; exact list_len hs (src_ok T hT)⟩
def FinOk (T : ByteArray) : Prop := PsOk (src T) (decls (src T).A (src T).A.length [] ⟨0, []⟩).2
def ParseEnd (w : World) (T : ByteArray) (r : Tr × List Dg) (e : Ending) (w' : World) : Prop :=
 ∃ lv nk nt na ne nao ncap nks, e = .returned (.tuple #[.agg #[.int .i64 nk, .string nt, .int .i64 na, .int .i64 ne, .slice nao nks.length ncap], lv, .int .i64 0]) ∧ (Nd.mk nk nt na ne (.slice nao nks.length ncap) nks).tr = r.1 ∧ NodeIn (fun b => w.heap.size ≤ b) w' (Nd.mk nk nt na ne (.slice nao nks.length ncap) nks) ∧ w'.ownsRow w.heap.size 34 4 lv r.2.length (dgV r.2) ∧ Below w.heap.size w w' ∧ ResOk T r.2 ∧ FinOk T
section
variable {w0 w w' : World} {B P N : Nat} {tv lv0 lv : Value} {S : Src} {s0 s : Ps} {kv : Value} {ks : Kds}
theorem EIn.set4 (h : EIn w0 none B P tv lv0 S s0 w lv s kv ks) {k : Int} {t : ByteArray} {a e : Int} {v0 : Value} (hb : w0.heap[N]? = some (.cells #[.int .i64 k, .string t, .int .i64 a, .int .i64 e, v0] 25 (0, 0))) (hp : ¬ pfoot P lv0 N) (ht : tokBlock tv ≠ some N) (v : Value) :
 EIn (w0.setCell ⟨N, 4, none⟩ v) none B P tv lv0 S s0 (w.setCell ⟨N, 4, none⟩ v) lv s kv ks ∧ (w0.setCell ⟨N, 4, none⟩ v).heap[N]? = some (.cells #[.int .i64 k, .string t, .int .i64 a, .int .i64 e, v] 25 (0, 0)) := by
 have hN := lt_of_block hb
 have hp' : ¬ pfoot P lv N := pfoot_fresh h.fresh hN hp
 have hK : Kept (fun b => b = N) w (w.setCell ⟨N, 4, none⟩ v) := Kept.setCell (F := fun b => b = N) w (a := ⟨N, 4, none⟩) rfl v
 have hbw := h.bw
 have hbN := (h.kept.block N hN hp).trans hb
 have e1 : (w0.setCell ⟨N, 4, none⟩ v).heap[N]? = some (.cells #[.int .i64 k, .string t, .int .i64 a, .int .i64 e, v] 25 (0, 0)) := by
  rw [heap_setCell_same _ _ _ _ _ _ hb]; rfl
 have e2 : (w.setCell ⟨N, 4, none⟩ v).heap[N]? = some (.cells #[.int .i64 k, .string t, .int .i64 a, .int .i64 e, v] 25 (0, 0)) := by
  rw [heap_setCell_same _ _ _ _ _ _ hbN]; rfl
 refine ⟨⟨h.pin.same hK (fun b hb' => by rw [hb']; exact ⟨hp', ht⟩), ⟨h.kept.os, h.kept.tape, h.kept.output, by simpa using h.kept.size, fun b hb' hF => ?_⟩, fun b hb' => by simpa using h.fresh b hb', h.mono, by simpa using h.bw, by simpa using h.bb, fun b hb' => by simpa using h.tlt b hb', by simp, ⟨ownsRow_same h.kr.row (fun b hb' => hK.block b (h.kr.lt b hb').2 (fun e => by have := (h.kr.lt b hb').1; omega)), h.kr.apart, fun p hp => ⟨(h.kr.kids p hp).1.same (fun b hb' hn => hK.block b hb' (fun e => by have := hn.1; omega)) hK.size (fun b _ hn => hn), (h.kr.kids p hp).2⟩⟩, h.cnt⟩, e1⟩
 by_cases hbn : b = N
 ·rw [hbn, e1, e2]
 ·rw [heap_setCell_other _ _ _ _ (fun e => hbn e), heap_setCell_other _ _ _ _ (fun e => hbn e)]
  exact h.kept.block b (by simpa using hb') hF
end
theorem wp_app {o : Oper} {a : Act} {K : Act → World → Prop} {Q : Exit → Act → World → Prop} {w0 : World} {Zo : Option Nat} {B : Nat} {P : Nat} {tv lv0 : Value} {S : Src} {s0 : Ps} {w : World} {lv : Value} {s : Ps} {kv : Value} {ks : Kds} {nk : Int} {nt : ByteArray} {na ne : Int} {nao : Option Addr} {nl ncap : Nat} {nks : List Nd} {t : PT} (x y : Operand) (ho : o.op = .call { callee := .builtin .append, args := #[x, y], argTypes := #[23, 23] })
 {W : World} (h : EPend w0 Zo B P tv lv0 S s0 w lv s kv ks (Nd.mk nk nt na ne (.slice nao nl ncap) nks) t) (hW : W = w.alloc (.cells #[.int .i64 nk, .string nt, .int .i64 na, .int .i64 ne, .slice nao nl ncap] 25)) (hx : a.eval x = kv) (hy : a.eval y = .slice (some ⟨w.heap.size, 0, none⟩) 1 1) (hc : ks.length ≤ s.at_)
 (k : ∀ g cap w', EIn w0 Zo B P tv lv0 S s0 w' lv s (.slice (some ⟨g, 0, none⟩) (ks.length + 1) cap) (ks ++ [(Nd.mk nk nt na ne (.slice nao nl ncap) nks, t)]) → K (a.put o.dst (.slice (some ⟨g, 0, none⟩) (ks.length + 1) cap)) w') :
 o.wp Tryz.prog a W K Q := by
 subst hW
 obtain ⟨i0, hi0, hz0, hz1, hz2⟩ := info_parts info_nd
 have hlt := h.ein.pin.sok.lt
 have hlen := h.ein.pin.ok.len
 have hbb := h.ein.bb
 refine wp_append_mine x y 23 ho B 25 i0 _ 5 64 Tryz.underlying23 hi0 hz0 hz1 hz2 (by decide) kv ks.length _ hx (h.ein.kr.row.alloc _) ⟨w.heap.size, 0, none⟩ 1 1 (Nd.mk nk nt na ne (.slice nao nl ncap) nks).cells.toList hy rfl (by omega) (cells_new w (Nd.mk nk nt na ne (.slice nao nl ncap) nks).cells _) (cells_one _ _ _ _ _ _ ⟨_, _, _, rfl⟩) (by unfold maxLen; omega) (by omega) (by simp; omega) ?_
 intro g cap w' hown hgrow hnew
 exact k g cap w' (h.app ((Below.refl _ w).alloc (Nat.le_refl _) _) hgrow hown hnew hc)
end Go.Proofs.YthggagophcnkfaaGreatDoor.px
namespace Go.Proofs.YthggagophcnkfaaGreatDoor.px
open Go.RowKit Go.Proofs.YthggagophcnkfaaGreatDoor.agg Go.Proofs.YthggagophcnkfaaGreatDoor.sx Go.Proofs.YthggagophcnkfaaGreatDoor.lx Go.Proofs.YthggagophcnkfaaGreatDoor.so
set_option linter.unusedSimpArgs false
set_option linter.unusedVariables false
theorem block_new (w : World) (c : Array Value) (t : TypeId) : (w.alloc (.cells c t)).heap[w.heap.size]? = some (.cells c t (0, 0)) :=
 (MapKept.heap_alloc w (.cells c t)).1
theorem cell4 {w : World} {N : Nat} {k : Int} {t : ByteArray} {a e : Int} {v0 : Value} (hb : w.heap[N]? = some (.cells #[.int .i64 k, .string t, .int .i64 a, .int .i64 e, v0] 25 (0, 0))) : w.cell? ⟨N, 4, none⟩ = some v0 ∧ w.frozen? ⟨N, 4, none⟩ = false := by
 constructor
 ·exact (cell_of_row _ _ _ _ _ _ hb).trans rfl
 ·simp [World.frozen?, hb]
set_option maxRecDepth 100000 in
set_option maxHeartbeats 4000000 in
theorem parse_walk (w : World) (hT : TabIn w) (T : ByteArray) (hs : T.size ≤ 4096) : Calls Tryz.prog 10 #[.string T] w (ParseEnd w T (parse T)) := by
 obtain ⟨S, hS⟩ : ∃ S, src T = S := ⟨_, rfl⟩
 have hB := Lib.hid (fun (W : World) (hb : Below w.heap.size w W) => begin_walk W (hT.below hb) T hs)
 unfold BeginEnd at hB
 obtain ⟨R, hR⟩ : ∃ R, decls (src T).A (src T).A.length [] ⟨0, []⟩ = R := ⟨_, rfl⟩
 obtain ⟨r1, r2⟩ := R
 have hm : Hid (parse T = (.mk 2 ⟨#[]⟩ 0 T.size (r1.map (src T).tree), sortD ((src T).list r2))) := by
  unfold parse
  rw [hR]
  exact rfl
 have hlo : Hid (∀ s, PsOk (src T) s → OkD ((src T).list s)) := fun s h => list_ok hs h
 have hro : Hid (∀ s, PsOk (src T) s → ResOk T (sortD ((src T).list s))) := fun s h => res_ok hs h (sortD_len _)
 have hfo : Hid (∀ s, s = r2 → PsOk (src T) s → FinOk T) := fun s e h => by unfold FinOk; rw [hR]; subst e; exact h
 have hR' := Lib.hid hR
 rw [hS] at hB hm hlo hR' hro hfo
 generalize parse T = m at *
 have hT0 : (0 : Int) ≤ T.size := Int.natCast_nonneg _
 clear hR hT hS
 go_enter Tryz.func10, Tryz.ntmps10
 go_wp2_with (go_at_call 27; refine (hB.out _ (by repeat (first | exact Below.refl _ _ | apply bl_drew | apply bl_alloc))).mono ?_; rintro e w1 ⟨P, tv, lv, rfl, p1, p2, p3⟩; have p1' := Lib.hid p1; have p2' := Lib.hid p2; have p3' := Lib.hid p3; clear p1 p2 p3)
 obtain ⟨N, hN⟩ : ∃ N, w1.heap.size = N := ⟨_, rfl⟩
 have hNn := Lib.hid hN
 rw [hN]
 obtain ⟨W0, hW0⟩ : ∃ W0, w1.alloc (.cells #[.int .i64 2, .string ⟨#[]⟩, .int .i64 0, .int .i64 T.size, .slice none 0 0] 25) = W0 := ⟨_, rfl⟩
 rw [hW0]
 have hz0 : w1.heap.size < W0.heap.size := by rw [← hW0]; simp
 have hb0 : Hid (Below w1.heap.size w1 W0) := by unfold Hid; rw [← hW0]; exact (Below.refl _ _).alloc (Nat.le_refl _) _
 have hbx : Hid (W0.heap[N]? = some (.cells #[.int .i64 2, .string ⟨#[]⟩, .int .i64 0, .int .i64 T.size, .slice none 0 0] 25 (0, 0))) := by unfold Hid; rw [← hW0, ← hN]; exact block_new _ _ _
 have he0 := Lib.hid (EIn.start (p1'.out.below hb0.out))
 have hBn : Hid (W0.heap.size = N + 1) := by unfold Hid; rw [← hW0, ← hN]; simp
 rw [hBn.out] at he0
 have hPN : Hid (¬ pfoot P lv N ∧ tokBlock tv ≠ some N) := ⟨fun e => by have := p1'.out.lt N e; omega, fun e => by have := p1'.out.toks.lt N e; omega⟩
 clear hN hW0 hz0
 go_loopw [22] (fun _ wr => ∃ (k : Nat) (lv2 : Value) (s2 : Ps) (ao : Option Addr) (cp : Nat) (ks : Kds) (w0 : World), EIn w0 none (N + 1) P tv lv S ⟨0, []⟩ wr lv2 s2 (.slice ao ks.length cp) ks ∧ Hid (w0.heap[N]? = some (.cells #[.int .i64 2, .string ⟨#[]⟩, .int .i64 0, .int .i64 T.size, .slice ao ks.length cp] 25 (0, 0))) ∧ Hid (Below w1.heap.size w1 w0) ∧ ks.length ≤ s2.at_ ∧ S.L.length ≤ s2.at_ + k ∧ Hid (decls S.A k (ks.map Prod.snd) s2 = (r1, r2))) (fun _ wr => S.L.length - atOf P wr)
 case atStart => exact ⟨S.A.length, lv, ⟨0, []⟩, none, 0, [], W0, he0.out, hbx, hb0, by simp, by rw [Src.len]; omega, hR'⟩
 case round =>
  obtain ⟨k, lv4, s4, ao, cp, ks, w0, e5', hbx4, hb4, hkl, hk, hmo⟩ := hrel
  have e5 := Lib.hid e5'
  have hlt := e5'.pin.sok.lt
  have hato := Lib.hid e5'.pin.atOf
  clear e5'
  have hE := Lib.hid (fun (W : World) (lvq : Value) (q : PIn W P tv lvq S s4) => end_walk q)
  cases hend : atEnd S.A s4 with
  | false =>
   rw [hend] at hE
   obtain ⟨k', rfl⟩ : ∃ k', k = k' + 1 := ⟨k - 1, by omega⟩
   have hmo2 := Lib.hid ((decls_go hend).symm.trans hmo.out)
   have hD := Lib.hid (fun (W : World) (lvq : Value) (q : PIn W P tv lvq S s4) => declaration_walk q hend)
   generalize declaration S.A s4 = k7 at *
   obtain ⟨kk7, s7⟩ := k7
   clear hend hmo
   go_wp2_with (go_at_call 28; refine (e5.out.callB (by repeat (first | exact Below.refl _ _ | apply bl_drew | apply bl_alloc)) (hE.out _ _)).mono ?_; rintro e w6 ⟨rfl, g⟩; have e6 := Lib.hid g; clear g)
   have c6 : w6.drew.cell? ⟨N, 4, none⟩ = some (.slice ao ks.length cp) := (cell4 ((e6.out.kept.block N (lt_of_block hbx4.out) hPN.out.1).trans hbx4.out)).1
   refine wp_region_held_drew (S := fun _ => True) (by kernel_rfl) trivial (fun hHeld => ?_)
   refine tk (i := 0) (v := .pointer (some ⟨N, 4, none⟩)) rfl hHeld ?_
   try simp only [Act.put, kA, kB, kC, kD, kE, kF]
   refine tk (i := 2) (v := .pointer (some ⟨P, 0, none⟩)) rfl hHeld ?_
   try simp only [Act.put, kA, kB, kC, kD, kE, kF]
   refine wpAnyH_ready (rs := [1, 3]) (by kernel_rfl) (by simp) ?_
   refine AllReadyH.cons rfl (fun K hK => ?_) (AllReadyH.cons rfl (fun K hK => ?_) AllReadyH.nil)
   ·rw [if_pos (by rfl)]
    go_simp
    refine hK.out _ _ trivial (fun hHeld => ?_)
    clear hK K
    try simp only [Act.put, kA, kB, kC, kD, kE, kF]
    refine wpAnyH_ready (rs := [3]) (by kernel_rfl) (by simp) ?_
    refine AllReadyH.cons rfl (fun K hK => ?_) AllReadyH.nil
    rw [if_pos (by rfl)]
    go_simp
    go_at_call 29
    refine (e6.out.callNs (by repeat (first | exact Below.refl _ _ | apply bl_drew | apply bl_alloc)) (Nat.le_succ _) (hD.out _ _)).mono ?_
    rintro e w9 ⟨lv9, nk9, nt9, na9, ne9, nao9, ncap9, nks9, rfl, g, hm9⟩
    simp only at hm9
    have e9 := Lib.hid g
    clear g
    have c9 : w9.cell? ⟨N, 4, none⟩ = some (.slice ao ks.length cp) := (cell4 ((e9.out.ein.kept.block N (lt_of_block hbx4.out) hPN.out.1).trans hbx4.out)).1
    refine hK.out _ _ trivial (fun hHeld => ?_)
    clear hK K
    try simp only [Act.put, kA, kB, kC, kD, kE, kF]
    refine wpAnyH_ready (rs := [4]) (by kernel_rfl) (by simp) ?_
    refine AllReadyH.cons rfl (fun K hK => ?_) AllReadyH.nil
    rw [if_pos (by rfl)]
    go_simp
    refine hK.out _ _ trivial (fun hHeld => ?_)
    clear hK K
    try simp only [Act.put, kA, kB, kC, kD, kE, kF]
    refine wpAnyH_ready (rs := [5]) (by kernel_rfl) (by simp) ?_
    refine AllReadyH.cons rfl (fun K hK => ?_) AllReadyH.nil
    rw [if_pos (by rfl)]
    refine wp_app (.tmp 24) (.tmp 27) rfl e9.out rfl rfl rfl (by simp only; omega) ?_
    intro g cap w10 e
    have e10 := Lib.hid e
    clear e
    refine hK.out _ _ trivial (fun hHeld => ?_)
    clear hK K
    try simp only [Act.put, kA, kB, kC, kD, kE, kF]
    obtain ⟨c10, f10⟩ := cell4 ((e10.out.kept.block N (lt_of_block hbx4.out) hPN.out.1).trans hbx4.out)
    refine tk (i := 6) (v := .pointer (some ⟨N, 4, none⟩)) rfl hHeld ?_
    try simp only [Act.put, kA, kB, kC, kD, kE, kF]
    refine wpAnyH_ready (rs := [7]) (by kernel_rfl) (by simp) ?_
    refine AllReadyH.cons rfl (fun K hK => ?_) AllReadyH.nil
    rw [if_pos (by rfl)]
    go_simp
    refine hK.out _ _ trivial (fun hHeld => ?_)
    clear hK K
    try simp only [Act.put, kA, kB, kC, kD, kE, kF]
    refine wpAnyH_done (by kernel_rfl) ?_ _
    clear hHeld c10 f10 c6 c9
    obtain ⟨q1, q2⟩ := e10.out.set4 hbx4.out hPN.out.1 hPN.out.2 (.slice (some ⟨g, 0, none⟩) (ks.length + 1) cap)
    have q1' := Lib.hid q1
    have q2' := Lib.hid q2
    have q3' := Lib.hid (Below.setCell hb4.out (show w1.heap.size ≤ (⟨N, 4, none⟩ : Addr).block from Nat.le_of_eq hNn.out) (.slice (some ⟨g, 0, none⟩) (ks.length + 1) cap))
    clear q1 q2
    go_wp2
    go_roundw
    case rel => exact ⟨k', lv9, s7, some ⟨g, 0, none⟩, cap, ks ++ [_], _, by simpa using q1'.out, by rw [List.length_append]; exact q2', q3', by simp; omega, by omega, by simpa using hmo2⟩
    case measure => rw [q1'.out.pin.atOf, hato.out]; simp only; omega
   ·rw [if_pos (by rfl)]
    go_simp
    go_at_call 29
    refine (e6.out.callNs (by repeat (first | exact Below.refl _ _ | apply bl_drew | apply bl_alloc)) (Nat.le_succ _) (hD.out _ _)).mono ?_
    rintro e w9 ⟨lv9, nk9, nt9, na9, ne9, nao9, ncap9, nks9, rfl, g, hm9⟩
    simp only at hm9
    have e9 := Lib.hid g
    clear g
    have c9 : w9.cell? ⟨N, 4, none⟩ = some (.slice ao ks.length cp) := (cell4 ((e9.out.ein.kept.block N (lt_of_block hbx4.out) hPN.out.1).trans hbx4.out)).1
    refine hK.out _ _ trivial (fun hHeld => ?_)
    clear hK K
    try simp only [Act.put, kA, kB, kC, kD, kE, kF]
    refine wpAnyH_ready (rs := [1, 4]) (by kernel_rfl) (by simp) ?_
    refine AllReadyH.cons rfl (fun K hK => ?_) (AllReadyH.cons rfl (fun K hK => ?_) AllReadyH.nil)
    ·rw [if_pos (by rfl)]
     go_simp
     refine hK.out _ _ trivial (fun hHeld => ?_)
     clear hK K
     try simp only [Act.put, kA, kB, kC, kD, kE, kF]
     refine wpAnyH_ready (rs := [4]) (by kernel_rfl) (by simp) ?_
     refine AllReadyH.cons rfl (fun K hK => ?_) AllReadyH.nil
     rw [if_pos (by rfl)]
     go_simp
     refine hK.out _ _ trivial (fun hHeld => ?_)
     clear hK K
     try simp only [Act.put, kA, kB, kC, kD, kE, kF]
     refine wpAnyH_ready (rs := [5]) (by kernel_rfl) (by simp) ?_
     refine AllReadyH.cons rfl (fun K hK => ?_) AllReadyH.nil
     rw [if_pos (by rfl)]
     refine wp_app (.tmp 24) (.tmp 27) rfl e9.out rfl rfl rfl (by simp only; omega) ?_
     intro g cap w10 e
     have e10 := Lib.hid e
     clear e
     refine hK.out _ _ trivial (fun hHeld => ?_)
     clear hK K
     try simp only [Act.put, kA, kB, kC, kD, kE, kF]
     obtain ⟨c10, f10⟩ := cell4 ((e10.out.kept.block N (lt_of_block hbx4.out) hPN.out.1).trans hbx4.out)
     refine tk (i := 6) (v := .pointer (some ⟨N, 4, none⟩)) rfl hHeld ?_
     try simp only [Act.put, kA, kB, kC, kD, kE, kF]
     refine wpAnyH_ready (rs := [7]) (by kernel_rfl) (by simp) ?_
     refine AllReadyH.cons rfl (fun K hK => ?_) AllReadyH.nil
     rw [if_pos (by rfl)]
     go_simp
     refine hK.out _ _ trivial (fun hHeld => ?_)
     clear hK K
     try simp only [Act.put, kA, kB, kC, kD, kE, kF]
     refine wpAnyH_done (by kernel_rfl) ?_ _
     clear hHeld c10 f10 c6 c9
     obtain ⟨q1, q2⟩ := e10.out.set4 hbx4.out hPN.out.1 hPN.out.2 (.slice (some ⟨g, 0, none⟩) (ks.length + 1) cap)
     have q1' := Lib.hid q1
     have q2' := Lib.hid q2
     have q3' := Lib.hid (Below.setCell hb4.out (show w1.heap.size ≤ (⟨N, 4, none⟩ : Addr).block from Nat.le_of_eq hNn.out) (.slice (some ⟨g, 0, none⟩) (ks.length + 1) cap))
     clear q1 q2
     go_wp2
     go_roundw
     case rel => exact ⟨k', lv9, s7, some ⟨g, 0, none⟩, cap, ks ++ [_], _, by simpa using q1'.out, by rw [List.length_append]; exact q2', q3', by simp; omega, by omega, by simpa using hmo2⟩
     case measure => rw [q1'.out.pin.atOf, hato.out]; simp only; omega
    ·rw [if_pos (by rfl)]
     go_simp
     refine hK.out _ _ trivial (fun hHeld => ?_)
     clear hK K
     try simp only [Act.put, kA, kB, kC, kD, kE, kF]
     have c11 : (w9.alloc (.cells #[.int .i64 nk9, .string nt9, .int .i64 na9, .int .i64 ne9, .slice nao9 nks9.length ncap9] 25)).cell? ⟨N, 4, none⟩ = some (.slice ao ks.length cp) := (((Below.refl _ w9).alloc (Nat.le_refl _) _).cell (p := ⟨N, 4, none⟩) (by have := e9.out.ein.bb; simp only; omega)).trans c9
     refine wpAnyH_ready (rs := [1]) (by kernel_rfl) (by simp) ?_
     refine AllReadyH.cons rfl (fun K hK => ?_) AllReadyH.nil
     rw [if_pos (by rfl)]
     go_simp
     refine hK.out _ _ trivial (fun hHeld => ?_)
     clear hK K
     try simp only [Act.put, kA, kB, kC, kD, kE, kF]
     refine wpAnyH_ready (rs := [5]) (by kernel_rfl) (by simp) ?_
     refine AllReadyH.cons rfl (fun K hK => ?_) AllReadyH.nil
     rw [if_pos (by rfl)]
     refine wp_app (.tmp 24) (.tmp 27) rfl e9.out rfl rfl rfl (by simp only; omega) ?_
     intro g cap w10 e
     have e10 := Lib.hid e
     clear e
     refine hK.out _ _ trivial (fun hHeld => ?_)
     clear hK K
     try simp only [Act.put, kA, kB, kC, kD, kE, kF]
     obtain ⟨c10, f10⟩ := cell4 ((e10.out.kept.block N (lt_of_block hbx4.out) hPN.out.1).trans hbx4.out)
     refine tk (i := 6) (v := .pointer (some ⟨N, 4, none⟩)) rfl hHeld ?_
     try simp only [Act.put, kA, kB, kC, kD, kE, kF]
     refine wpAnyH_ready (rs := [7]) (by kernel_rfl) (by simp) ?_
     refine AllReadyH.cons rfl (fun K hK => ?_) AllReadyH.nil
     rw [if_pos (by rfl)]
     go_simp
     refine hK.out _ _ trivial (fun hHeld => ?_)
     clear hK K
     try simp only [Act.put, kA, kB, kC, kD, kE, kF]
     refine wpAnyH_done (by kernel_rfl) ?_ _
     clear hHeld c10 f10 c6 c9
     obtain ⟨q1, q2⟩ := e10.out.set4 hbx4.out hPN.out.1 hPN.out.2 (.slice (some ⟨g, 0, none⟩) (ks.length + 1) cap)
     have q1' := Lib.hid q1
     have q2' := Lib.hid q2
     have q3' := Lib.hid (Below.setCell hb4.out (show w1.heap.size ≤ (⟨N, 4, none⟩ : Addr).block from Nat.le_of_eq hNn.out) (.slice (some ⟨g, 0, none⟩) (ks.length + 1) cap))
     clear q1 q2
     go_wp2
     go_roundw
     case rel => exact ⟨k', lv9, s7, some ⟨g, 0, none⟩, cap, ks ++ [_], _, by simpa using q1'.out, by rw [List.length_append]; exact q2', q3', by simp; omega, by omega, by simpa using hmo2⟩
     case measure => rw [q1'.out.pin.atOf, hato.out]; simp only; omega
  | true =>
   rw [hend] at hE
   have hst := (decls_stop hend (k := k) (l := ks.map Prod.snd)).symm.trans hmo.out
   obtain ⟨rfl, rfl⟩ : ks.map Prod.snd = r1 ∧ s4 = r2 := by simpa using hst
   clear hst hend hmo hR'
   go_wp2_with (go_at_call 28; refine (e5.out.callB (by repeat (first | exact Below.refl _ _ | apply bl_drew | apply bl_alloc)) (hE.out _ _)).mono ?_; rintro e w6 ⟨rfl, g⟩; have e6 := Lib.hid g; clear g)
   have hN6 : Hid (w6.drew.heap[N]? = some (.cells #[.int .i64 2, .string ⟨#[]⟩, .int .i64 0, .int .i64 T.size, .slice ao ks.length cp] 25 (0, 0))) := (e6.out.kept.block N (lt_of_block hbx4.out) hPN.out.1).trans hbx4.out
   have hDg := Lib.hid (diag_walk (e6.out.pin.below (Below.refl _ _).drew) (hlo.out _ e6.out.pin.sok) (Nat.le_trans (list_len e6.out.pin.sok e6.out.pin.ok) (by decide)))
   refine wp_region_held_drew (S := fun u => u.heap[N]? = some (.cells #[.int .i64 2, .string ⟨#[]⟩, .int .i64 0, .int .i64 T.size, .slice ao ks.length cp] 25 (0, 0))) (by kernel_rfl) hN6.out (fun hHeld => ?_)
   refine tk (i := 0) (v := .agg #[.int .i64 2, .string ⟨#[]⟩, .int .i64 0, .int .i64 T.size, .slice ao ks.length cp]) (hy := yieldsIf_load_mid (by rfl) _ _ rfl _ _ rfl [.int .i64 2, .string ⟨#[]⟩, .int .i64 0, .int .i64 T.size, .slice ao ks.length cp] _ (fun _ h => rangeAt_whole h) Tryz.underlying25 rfl info_nds) rfl hHeld ?_
   try simp only [Act.put, kA, kB, kC, kD, kE, kF]
   refine tk (i := 1) (v := .pointer (some ⟨P, 0, none⟩)) rfl hHeld ?_
   try simp only [Act.put, kA, kB, kC, kD, kE, kF]
   refine wpAnyH_ready (rs := [2]) (by kernel_rfl) (by simp) ?_
   refine AllReadyH.cons rfl (fun K hK => ?_) AllReadyH.nil
   rw [if_pos (by rfl)]
   go_simp
   go_at_call 30
   refine hDg.out.mono ?_
   rintro e w7 ⟨rfl, g1, g2⟩
   have g1' := Lib.hid g1
   have g2' := Lib.hid g2
   clear g1 g2
   have hz1 : Hid (Below (w.heap.size + 1) (w.alloc zbox) w7) := by
    have a1 := p3'.out
    have ez : (w.alloc zbox).heap.size = w.heap.size + 1 := by simp
    rw [ez] at a1
    have a0 := a1.size
    have a2 := (hb4.out).mono (show w.heap.size + 1 ≤ w1.heap.size by rw [ez] at a0; exact a0)
    have hpf : ∀ i, pfoot P lv i → w.heap.size + 1 ≤ i := fun i hi => by have := p2'.out i (.inl hi); rw [ez] at this; exact this
    have a4 := hb4.out.size
    rw [ez] at a0
    have a3 := e6.out.kept.below (w.heap.size + 1) (by omega) hpf
    have a5 := e6.out.kept.size
    have a6 := g2'.out.below (w.heap.size + 1) (by show _ ≤ w6.heap.size; omega) (fun i hi => by
     rcases e6.out.fresh i hi with e | e
     ·exact hpf i (.inr e)
     ·omega)
    exact a1.trans (a2.trans (a3.trans ((Below.refl _ _).drew.trans a6)))
   have hz2 : Hid (w7.heap[w.heap.size]? = some zbox) := (hz1.out.block _ (Nat.lt_succ_self _)).trans (block_new _ _ _)
   have hz3 : Hid (w7.heap[N]? = some (.cells #[.int .i64 2, .string ⟨#[]⟩, .int .i64 0, .int .i64 T.size, .slice ao ks.length cp] 25 (0, 0))) := (g2'.out.block N (lt_of_block hN6.out) (fun e => pfoot_fresh e6.out.fresh (lt_of_block hbx4.out) hPN.out.1 (.inr e))).trans hN6.out
   have hZN : Hid (w.heap.size + 1 ≤ N) := by
    have := p3'.out.size
    have ez : (w.alloc zbox).heap.size = w.heap.size + 1 := by simp
    have e2 := hNn.out
    rw [ez] at this
    unfold Hid
    omega
   obtain ⟨z0, z1, z2, z3, z4, z5⟩ : w7.cell? ⟨w.heap.size, 0, none⟩ = some (.int .i64 0) ∧ w7.cell? ⟨w.heap.size, 1, none⟩ = some (.string ⟨#[]⟩) ∧ w7.cell? ⟨w.heap.size, 2, none⟩ = some (.int .i64 0) ∧ w7.cell? ⟨w.heap.size, 3, none⟩ = some (.int .i64 0) ∧ w7.cell? ⟨w.heap.size, 4, none⟩ = some (.slice none 0 0) ∧ ∀ i, w7.frozen? ⟨w.heap.size, i, none⟩ = false := by
    have hb := hz2.out
    refine ⟨?_, ?_, ?_, ?_, ?_, fun i => ?_⟩ <;> simp [World.cell?, World.frozen?, hb, zbox]
   refine hK.out _ _ hz3.out (fun hHeld => ?_)
   clear hK K
   try simp only [Act.put, kA, kB, kC, kD, kE, kF]
   refine wpAnyH_ready (rs := [3]) (by kernel_rfl) (by simp) ?_
   refine AllReadyH.cons rfl (fun K hK => ?_) AllReadyH.nil
   rw [if_pos (by rfl)]
   go_simp
   refine hK.out _ _ (((kept5 _ _ _ _ _ _ _).block N (lt_of_block hz3.out) (fun e => by have := hZN.out; omega)).trans hz3.out) (fun hHeld => ?_)
   clear hK K
   try simp only [Act.put, kA, kB, kC, kD, kE, kF]
   refine tk (i := 4) (v := lv4) rfl hHeld ?_
   try simp only [Act.put, kA, kB, kC, kD, kE, kF]
   refine tk (i := 5) (v := .int .i64 0) rfl hHeld ?_
   try simp only [Act.put, kA, kB, kC, kD, kE, kF]
   refine wpAnyH_done (by kernel_rfl) ?_ _
   clear hHeld
   go_wp2
   refine bodyPost_ret (v := .tuple #[.agg #[.int .i64 2, .string ⟨#[]⟩, .int .i64 0, .int .i64 T.size, .slice ao ks.length cp], lv4, .int .i64 0]) (by simp [results, Tryz.results10, go_sem, z0, z1, z2, z3, z4] <;> rfl) rfl ?_
   rw [hm.out]
   have hl : (ks.map Prod.fst).length = ks.length := by simp
   have hKz := kept5 w7 w.heap.size (.int .i64 2) (.string ⟨#[]⟩) (.int .i64 0) (.int .i64 T.size) (.slice ao ks.length cp)
   have hlt6 : ∀ b, b < w6.heap.size → b < w7.heap.size := fun b hb => Nat.lt_of_lt_of_le hb (by have := g2'.out.size; exact this)
   have hsame : ∀ b, b < w6.heap.size → N + 1 ≤ b ∧ ¬ pfoot P lv4 b → _ := fun b hb hq => (hKz.block b (hlt6 b hb) (fun e => by have := hZN.out; omega)).trans (g2'.out.block b hb (fun e => hq.2 (.inr e)))
   have hsz := Nat.le_trans (show w6.heap.size ≤ w7.heap.size from g2'.out.size) hKz.size
   have hcnt := e6.out.cnt
   have hlen := e6.out.pin.ok.len
   refine ⟨lv4, 2, ⟨#[]⟩, 0, T.size, ao, cp, ks.map Prod.fst, by rw [hl], ?_, ?_, ?_, ?_, hro.out _ e6.out.pin.sok, hfo.out _ rfl e6.out.pin.sok⟩
   ·simp only [Nd.tr, trs_map, List.map_map]
    congr 1
    refine List.map_congr_left fun p hp => ?_
    exact (e6.out.kr.kids p hp).2
   ·rw [hl]
    refine .mk ((e6.out.kr.at_ (by omega)).same hsame hsz (fun b hb hq => by have := hZN.out; have := hq.1; omega)) fun n hn => ?_
    obtain ⟨p, hp, rfl⟩ := List.mem_map.1 hn
    have hn1 := (e6.out.kr.kids p hp).1
    exact NodeIn.same (w := w6) (G := fun b => N + 1 ≤ b ∧ ¬ pfoot P lv4 b ∧ (Value.slice ao ks.length cp).ownBlock ≠ some b) (fun b hb hq => hsame b hb ⟨hq.1, hq.2.1⟩) hsz (fun b hb hq => by have := hZN.out; have := hq.1; omega) hn1
   ·have hbk : ∀ b, lv4.ownBlock = some b → w.heap.size + 1 ≤ b := fun i hi => by
     rcases e6.out.fresh i hi with e | e
     ·have := p2'.out i (.inl (.inr e))
      simpa using this
     ·have := hb4.out.size
      have := hNn.out
      have := hZN.out
      omega
    have h1 : (sortD (S.list s4)).length = (S.list s4).length := sortD_len _
    rw [h1]
    exact ownsRow_up (ownsRow_same g1'.out (fun b hb => hKz.block b (g1'.out.lt b hb).2 (fun e => by have := hbk b hb; omega))) (fun b hb => Nat.le_of_succ_le (hbk b hb))
   ·exact ((Below.refl _ w).alloc (Nat.le_refl _) zbox).trans ((hz1.out.mono (Nat.le_succ _)).trans (hKz.below _ (by have := hz1.out.size; simp at this; omega) (fun i hi => Nat.le_of_eq hi.symm)))
end Go.Proofs.YthggagophcnkfaaGreatDoor.px
