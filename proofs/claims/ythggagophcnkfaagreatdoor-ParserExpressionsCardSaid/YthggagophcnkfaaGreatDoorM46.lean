/- Laws for ranges over the lexer's tokens: what a round keeps; an append that leaves a full block as it is. The walk of the lexer's iterator over the tokens of a text. -/
import Derived.Test.YthggagophcnkfaaGreatDoorM3
import Derived.RangeFuncNested
import Derived.RangeFuncBound
import Derived.RangeFuncCalls
import Derived.RangeFuncLeaves
import Derived.Shelf.Abstract
import Derived.WalkKit
import Derived.OwnWalkIn
import Derived.TacticsInMore
import Derived.LoopNIn
import Derived.LoopIn
import Derived.Sort.CutIn
import Derived.Sort.QuietIn
import Derived.Outline
namespace Go.Proofs.YthggagophcnkfaaGreatDoor.lx
open Go.RowKit Go.Proofs.YthggagophcnkfaaGreatDoor.agg Go.Proofs.YthggagophcnkfaaGreatDoor.sx Go.Proofs.YthggagophcnkfaaGreatDoor.px
set_option linter.unusedSimpArgs false
set_option linter.unusedVariables false
def KeepTok (n₀ : Nat) (A B : World) : Prop := Below n₀ A B ∧ ∀ (b : Nat) (c : Array Value), A.heap[b]? = some (.cells c 39 (0, 0)) → c.size = 4 → B.heap[b]? = some (.cells c 39 (0, 0))
theorem keepTok_t {n₀ : Nat} {A B C : World} (h : KeepTok n₀ A B) (k : KeepTok n₀ B C) : KeepTok n₀ A C := ⟨h.1.trans k.1, fun b c hb hc => k.2 b c (h.2 b c hb hc) hc⟩
theorem keepTok_b {n₀ : Nat} {w : World} (hn : n₀ ≤ w.heap.size) (W : World) (l : Nat) (o o' : Obj) (hl : w.heap.size ≤ l) (h : W.heap[l]? = some o) (hc : o.isCells = false) (hw : o.isWalk = false) : KeepTok n₀ W (W.putObj l o') := by
 refine ⟨belowK_b hn W l o o' hl h hc hw, fun b c hb _ => ?_⟩
 have hne : b ≠ l := by
  rintro rfl
  rw [h] at hb
  cases hb
  simp [Obj.isCells] at hc
 exact (World.putObj_heap_other hne).trans hb
theorem keepTok_alloc {n₀ : Nat} {W : World} (hn : n₀ ≤ W.heap.size) (o : Obj) : KeepTok n₀ W (W.alloc o) := ⟨(Below.refl _ _).alloc hn o, fun b c hb _ => (Below.heap_alloc W o b (lt_of_block hb)).trans hb⟩
theorem append_tight {P : Program} {w : World} {base : Nat} {t ty e : TypeId} {i : TypeInfo} {z : Value} {size bytes : Nat} (ht : P.underlying t = some (.slice e)) (hi : P.info? e = some i) (hz : i.zero = some z)
 (hsize : i.size = size) (hby : i.bytes = bytes) (hzs : z.cells.size = size) (hpos : 0 < size)
 {v : Value} {n : Nat} {xs : List Value} (hown : w.ownsRow base e size v n xs)
 {ad : Addr} {m c : Nat} {news : List Value} (hl : news.length = m * size) (hm : 0 < m) (hnews : ∀ j u, news[j]? = some u → w.cell? (ad.add j) = some u) (h1 : ∀ u ∈ news, u.oneCell' = true)
 (h63 : n + m ≤ maxLen) (hbytes : (n + m) * bytes ≤ 140737488355328) (hbase : base ≤ w.heap.size) :
 ∃ g cap w', (Builtin.append_ #[t, t] ty #[v, .slice (some ad) m c]).run P w = .ok (.slice (some ⟨g, 0, none⟩) (n + m) cap) w' ∧ w'.ownsRow base e size (.slice (some ⟨g, 0, none⟩) (n + m) cap) (n + m) (xs ++ news) ∧ w.grownBy w' v.ownBlock ∧
  (v.ownBlock = some g ∨ g = w.heap.size) ∧ ∀ (k : Nat) (cur : Array Value) (f : Nat × Nat), w.heap[k]? = some (Obj.cells cur e f) → cur.size ≤ n * size → w'.heap[k]? = some (.cells cur e f) := by
 subst hsize
 subst hby
 have hlen : (xs ++ news).length = (n + m) * i.size := by rw [List.length_append, hown.1, hl, Nat.add_mul]
 have hsmall : n + m ≤ 9223372036854775807 := by simp only [maxLen] at h63; omega
 have made : ∀ cap : Nat, n + m ≤ cap → cap ≤ maxLen → (w.drew.alloc (.cells (xs.toArray ++ news.toArray ++ Builtin.zeroCells z.cells (cap - (n + m))) e)).ownsRow base e i.size (.slice (some ⟨w.heap.size, 0, none⟩) (n + m) cap) (n + m) (xs ++ news) := by
  intro cap h h'
  refine ⟨hlen, .inr ⟨w.heap.size, cap, _, rfl, hbase, heap_alloc_new w.drew _, h, h', ?_, ?_⟩⟩
  ·simp only [Array.size_append, List.size_toArray, size_zeroCells, hzs, hown.1, hl]
   rw [← Nat.add_mul, ← Nat.add_mul]
   congr 1
   omega
  ·simp only [Array.toList_append, List.append_assoc]
   rw [← List.append_assoc, ← hlen]
   exact List.take_left
 have kept : ∀ (o : Obj) (row : Option Nat), w.grownBy (w.drew.alloc o) row := fun o row => ⟨rfl, rfl, rfl, by simp, fun k hk _ => Below.heap_alloc w.drew o k hk⟩
 have kept2 : ∀ (o : Obj) (k : Nat) (cur : Array Value) (f : Nat × Nat), w.heap[k]? = some (Obj.cells cur e f) → cur.size ≤ n * i.size → (w.drew.alloc o).heap[k]? = some (.cells cur e f) := fun o k cur f hk _ => (Below.heap_alloc w.drew o k (lt_of_block hk)).trans hk
 rcases hown.2 with ⟨rfl, rfl⟩ | ⟨g, cap, cur, rfl, hbg, hg, hnc, hcm, hcs, htake⟩
 ·have hx : xs = [] := List.eq_nil_of_length_eq_zero (by simpa using hown.1)
  subst hx
  have hr := run_append_nil (P := P) w t ty e i z ht hi hz ad m c news hl hnews (by omega) (by omega) (by have hb := hbytes; simp only [Nat.zero_add] at hb; omega)
  have hmd := made (grownCap w (0 + m) 0 e) (grownCap_ge w _ _ _) (grownCap_le_maxLen w _ _ _ h63)
  simp only [Nat.zero_add, List.nil_append, Array.empty_append] at hmd hr ⊢
  exact ⟨_, _, _, hr, hmd, kept _ _, .inr rfl, fun k cur f hk _ => (Below.heap_alloc w.drew _ k (lt_of_block hk)).trans hk⟩
 ·by_cases hroom : n + m ≤ cap
  ·have hfit : n * i.size + news.length ≤ cur.size := by rw [hl, hcs, ← Nat.add_mul]; exact Nat.mul_le_mul_right _ hroom
   have hr := run_append_room (P := P) w t ty e i ht hi g n cap cur hg ad m c news hl hnews h1 hroom hfit
   refine ⟨g, cap, _, hr, ⟨hlen, .inr ⟨g, cap, _, rfl, hbg, setRow_heap w g cur _ e _ hg, hroom, hcm, ?_, ?_⟩⟩, ⟨rfl, rfl, rfl, by simp, fun k _ hk => setRow_other w g k _ (fun e => hk (by simp [Value.ownBlock, e]))⟩, .inl rfl, fun k cur' f hk hs => ?_⟩
   ·simp only [List.size_toArray, List.length_append, List.length_take, List.length_drop, Array.length_toList]
    omega
   ·rw [htake, ← hlen]
    exact List.take_left
   ·have hne : k ≠ g := by
     rintro rfl
     rw [hg] at hk
     cases hk
     have h3 : (n + m) * i.size ≤ cap * i.size := Nat.mul_le_mul_right _ hroom
     have h4 : 0 < m * i.size := Nat.mul_pos hm hpos
     rw [Nat.add_mul] at h3
     omega
    exact (setRow_other w g k _ hne).trans hk
  ·have holds : ∀ j u, xs[j]? = some u → w.cell? ((⟨g, 0, none⟩ : Addr).add j) = some u := hown.cells (g := g) rfl
   have hr := run_append_grow (P := P) w t ty e i z ht hi hz ⟨g, 0, none⟩ n cap xs hown.1 holds ad m c news hl hnews (by omega) (by omega) (growslice_fits (by omega) hbytes)
   exact ⟨_, _, _, hr, made _ (grownCap_ge w _ _ _) (grownCap_le_maxLen w _ _ _ h63), kept _ _, .inr rfl, kept2 _⟩
theorem wpListIn_append_tight {F : Fence} {n : Nat} {P : Program} (w : World) {ops : Array Oper} {rest : List Oper} {o : Oper} {a : Act} {Q : Exit → Act → World → Prop}
 (hg : o.guard = none) (s x : Operand) (t : TypeId) (hop : o.op = Op.call { callee := Callee.builtin Builtin.append, args := #[s, x], argTypes := #[t, t] })
 (base : Nat) (e : TypeId) (i : TypeInfo) (z : Value) (size bytes : Nat) (h1 : P.underlying t = some (.slice e)) (h2 : P.info? e = some i) (h3 : i.zero = some z) (h4 : i.size = size) (h5 : i.bytes = bytes) (h6 : z.cells.size = size) (h7 : 0 < size)
 (v : Value) (k : Nat) (xs : List Value) (hs : a.eval s = v) (hown : w.ownsRow base e size v k xs) (ad : Addr) (m c : Nat) (news : List Value) (hx : a.eval x = .slice (some ad) m c) (hn : news.length = m * size) (hm : 0 < m)
 (hc : ∀ j u, news[j]? = some u → w.cell? (ad.add j) = some u) (h1c : ∀ u ∈ news, u.oneCell' = true) (b1 : k + m ≤ maxLen) (b2 : (k + m) * bytes ≤ 140737488355328) (b3 : base ≤ w.heap.size)
 (hK : ∀ g cap w', w'.ownsRow base e size (.slice (some ⟨g, 0, none⟩) (k + m) cap) (k + m) (xs ++ news) → w.grownBy w' v.ownBlock → (v.ownBlock = some g ∨ g = w.heap.size) → (∀ (k' : Nat) (cur : Array Value) (f : Nat × Nat), w.heap[k']? = some (Obj.cells cur e f) → cur.size ≤ k * size → w'.heap[k']? = some (.cells cur e f)) →
  wpListIn F n P ops Q rest (a.put o.dst (.slice (some ⟨g, 0, none⟩) (k + m) cap)) w') :
 wpListIn F n P ops Q (o :: rest) a w := by
 refine wpListIn_plain hg fun K hK' => ?_
 obtain ⟨g, cap, w', hrun, r1, r2, r3, r4⟩ := append_tight (P := P) (ty := o.type) (c := c) h1 h2 h3 h4 h5 h6 h7 hown hn hm hc h1c b1 b2 b3
 unfold Oper.wpIn
 refine ⟨?_, ?_⟩
 ·simp [Oper.about, hop, resolve, Target.leads, Sem.run_pure]
 ·rw [Oper.semAt_plain F _ _ (by rw [hop]; intro c hc'; cases hc')]
  simp [execOp, hop, resolve, invoke, builtin, hs, hx, hrun, Result.andThen]
  exact hK' _ _ (hK g cap w' r1 r2 r3 r4)
end Go.Proofs.YthggagophcnkfaaGreatDoor.lx
namespace Go.Proofs.YthggagophcnkfaaGreatDoor.lx
open Go.RowKit Go.Proofs.YthggagophcnkfaaGreatDoor.agg Go.Proofs.YthggagophcnkfaaGreatDoor.sx Go.Proofs.YthggagophcnkfaaGreatDoor.px
set_option linter.unusedSimpArgs false
set_option linter.unusedVariables false
attribute [local go_sem] Oper.semAt_some
abbrev Tks (T : ByteArray) : Type := { t : Tok // t ∈ toks T }
theorem tokB_kind (l : List UInt8) : (tokB l).1 ≤ 5 := by
 unfold tokB
 split
 ·simp
 ·split
  ·split <;> simp
  ·split
   ·simp
   ·split <;> simp
theorem tokB_len (l : List UInt8) : (tokB l).2 ≤ l.length := by
 unfold tokB
 split
 ·simp
 ·split
  ·exact cntN_le _ _
  ·split
   ·exact cntN_le _ _
   ·split
    ·exact (symN_le _).1
    ·rename_i c r _ _ _
     have := wrongN_le r
     simp only [List.length_cons]; omega
theorem tokB_pos {c : UInt8} {r : List UInt8} : 0 < (tokB (c :: r)).2 ∧ (tokB (c :: r)).1 ≠ 0 := by
 unfold tokB
 split
 ·rename_i h; cases h
 ·rename_i c' r' h
  cases h
  split
  ·rename_i hc
   refine ⟨?_, ?_⟩
   ·show 0 < cntN partB (c :: r)
    rw [cntN, if_pos (by simp [partB, hc])]
    omega
   ·show (if keys.contains ((c :: r).take (cntN partB (c :: r))) then 2 else 1) ≠ 0
    split <;> decide
  ·split
   ·rename_i hc
    refine ⟨?_, by simp⟩
    show 0 < cntN digitB (c :: r)
    rw [cntN, if_pos hc]
    omega
   ·split
    ·rename_i h
     exact ⟨h, by simp⟩
    ·simp
def Switched (wr : World) (Z : Nat) (k pos sk : Nat) (V : World) : Prop :=
 V.heap[Z]? = some (.cells #[.int .i64 k, .int .i64 pos, .int .i64 ((pos : Int) + sk), .int .i64 0] 39 (0, 0)) ∧ Below Z wr V ∧ Z < V.heap.size
theorem Switched.set {wr V : World} {Z k k' pos sk : Nat} (h : Switched wr Z k pos sk V) : Switched wr Z k' pos sk (V.setCell ⟨Z, 0, none⟩ (.int .i64 k')) := by
 refine ⟨?_, h.2.1.setCell (p := ⟨Z, 0, none⟩) (Nat.le_refl _) _, by simpa using h.2.2⟩
 rw [heap_setCell_same _ _ _ _ _ _ h.1]
 exact rfl
theorem Switched.below {wr V V' : World} {Z k pos sk : Nat} (h : Switched wr Z k pos sk V) (hb : Below V.heap.size V V') : Switched wr Z k pos sk V' :=
 ⟨(hb.block _ h.2.2).trans h.1, h.2.1.trans (hb.mono (Nat.le_of_lt h.2.2)), Nat.lt_of_lt_of_le h.2.2 hb.size⟩
theorem Switched.cells {wr V : World} {Z k pos sk : Nat} (h : Switched wr Z k pos sk V) : V.cell? ⟨Z, 0, none⟩ = some (.int .i64 k) ∧ (∀ i, V.frozen? ⟨Z, i, none⟩ = false) := by
 refine ⟨(cell_of_row _ _ _ _ _ _ h.1).trans rfl, fun i => by simp [World.frozen?, h.1]⟩
set_option maxRecDepth 100000 in
set_option maxHeartbeats 4000000 in
theorem tokens1_in (n : Nat) (hn : 3 ≤ n) (l Bn Bk kb n₀ : Nat) (T : ByteArray) (hT : T.size ≤ 100000) (J Jx : List (Tks T) → World → Prop)
 (hY : ∀ pre x W, J pre W → pre.length < (toks T).length → YieldAt Fence.wide (n - 1) Tryz.prog l #[.agg x.1.cells] W fun e W' =>
  (e = .returned (.bool true) ∧ J (pre ++ [x]) W' ∧ KeepTok n₀ W W') ∨ (e = .returned (.bool false) ∧ Jx (pre ++ [x]) W'))
 (W : World) (hJ : AbidesFrom W.heap.size J) (hBn : W.cell? ⟨Bn, 0, none⟩ = some (.string T)) (hBk : W.cell? ⟨Bk, 0, none⟩ = some (.map (some kb))) (hK : KMap W kb keys)
 (hl1 : Bn < n₀) (hl2 : Bk < n₀) (hl3 : kb < n₀) (hn0 : n₀ ≤ W.heap.size) (h0 : J [] W) :
 CallsIn Fence.wide n Tryz.prog 103 #[.func (.yield l) #[] #[], .pointer (some ⟨Bn, 0, none⟩), .pointer (some ⟨Bk, 0, none⟩)] W fun e W' => (∃ v, e = .returned v) ∧
  ((∃ xs : List (Tks T), xs.map (·.1) = toks T ∧ J xs W') ∨ (∃ pre : List (Tks T), pre.map (·.1) <+: toks T ∧ Jx pre W')) := by
 have hn1 : 1 ≤ n := by omega
 refine callsIn_of_wp Tryz.func103 rfl trivial ?_ rfl
 simp only [Tryz.ntmps103, List.size_toArray, List.length_cons, List.length_nil, Nat.reduceAdd, Nat.reduceSub, Array.replicate_succ, Array.replicate_zero, List.push_toArray, List.append_toArray, List.nil_append, List.cons_append]
 gi_wp2
 gi_loopw [4] (fun p wr => ∃ (pre : List (Tks T)) (pos fuel : Nat), p = .int .i64 pos ∧ pos ≤ T.size ∧ T.size - pos < fuel ∧ Hid (pre.map (·.1) ++ scan fuel (T.data.toList.drop pos) pos = toks T) ∧ J pre wr ∧ Below n₀ W wr ∧ W.heap.size ≤ wr.heap.size)
  (fun p wr => T.size - (intOf p).toNat)
 case atStart =>
  exact ⟨[], 0, T.size + 1, rfl, by omega, by omega, Lib.hid rfl, h0, Below.refl _ _, Nat.le_refl _⟩
 case round =>
  obtain ⟨pre, pos, fuel, rfl, hpos, hfu, hsc, hJ0, hb0, hsz⟩ := hrel
  have c1 : wr.cell? ⟨Bn, 0, none⟩ = some (.string T) := (hb0.cell (p := ⟨Bn, 0, none⟩) hl1).trans hBn
  have hS := Lib.hid (fun (V : World) => skip_walk V (T.extract pos T.size) (by rw [ByteArray.size_extract]; omega))
  rw [extract_drop] at hS
  obtain ⟨sk, hsk⟩ : ∃ sk, skipS false (T.data.toList.drop pos) = sk := ⟨_, rfl⟩
  have hskl : sk ≤ T.size - pos := by
   rw [← hsk]
   have h1 := skipS_le false (T.data.toList.drop pos)
   rw [List.length_drop] at h1
   exact h1
  rw [hsk] at hS
  have hsk' := Lib.hid hsk
  have hb0' := Lib.hid hb0
  have hJ0' := Lib.hid hJ0
  have hK' := Lib.hid (hK.same (hb0.block _ hl3))
  have hps : pos + sk ≤ T.size := by omega
  have c1a : ∀ o, (wr.alloc o).cell? ⟨Bn, 0, none⟩ = some (.string T) := fun o => (((Below.refl _ wr).alloc (Nat.le_refl _) o).cell (p := ⟨Bn, 0, none⟩) (by show Bn < _; omega)).trans c1
  clear hb0 hJ0 hsk
  gi_upto_region 3 with (refine ⟨trivial, ?_⟩; gi_at_call 104; refine (callsIn_wide.2 (hS.out _)).mono ?_; rintro e _ ⟨rfl, rfl⟩)
  iterate 8 gi_step
  have hsl : (T.extract (pos + sk) T.size).data.toList = T.data.toList.drop (pos + sk) := extract_drop T _
  have hss : (T.extract (pos + sk) T.size).size ≤ 100000 := by rw [ByteArray.size_extract]; omega
  have hsz2 : (T.extract (pos + sk) T.size).size = T.size - (pos + sk) := by rw [ByteArray.size_extract]; omega
  have hsc' : Hid (scan fuel (T.data.toList.drop pos) pos = ⟨(tokB (T.data.toList.drop (pos + sk))).1, pos, pos + sk, pos + sk + (tokB (T.data.toList.drop (pos + sk))).2⟩ :: (if T.data.toList.drop (pos + sk) = [] then [] else scan (fuel - 1) (T.data.toList.drop (pos + sk + (tokB (T.data.toList.drop (pos + sk))).2)) (pos + sk + (tokB (T.data.toList.drop (pos + sk))).2))) := by
   obtain ⟨f, rfl⟩ : ∃ f, fuel = f + 1 := ⟨fuel - 1, by omega⟩
   have e := hsk'.out
   show scan (f + 1) (T.data.toList.drop pos) pos = _
   rw [scan, e, List.drop_drop]
   cases hd : T.data.toList.drop (pos + sk) with
   | nil => simp [tokB]
   | cons c r =>
    simp only [reduceCtorEq, if_false, Nat.add_sub_cancel]
    rw [← hd, List.drop_drop]
  have hkd := tokB_kind (T.data.toList.drop (pos + sk))
  have hln := tokB_len (T.data.toList.drop (pos + sk))
  have hps2 := Lib.hid (fun (h : T.data.toList.drop (pos + sk) ≠ []) => (show 0 < (tokB (T.data.toList.drop (pos + sk))).2 ∧ (tokB (T.data.toList.drop (pos + sk))).1 ≠ 0 by
   obtain ⟨c, r, e⟩ := List.exists_cons_of_ne_nil h
   rw [e]
   exact tokB_pos))
  have hnil := Lib.hid (fun (h : T.data.toList.drop (pos + sk) = []) => (show (tokB (T.data.toList.drop (pos + sk))).2 = 0 ∧ (tokB (T.data.toList.drop (pos + sk))).1 = 0 by
   rw [h]
   exact ⟨rfl, rfl⟩))
  rw [List.length_drop] at hln
  have hTl : T.data.toList.length = T.size := rfl
  obtain ⟨ls, hls⟩ : ∃ ls, T.data.toList.drop (pos + sk) = ls := ⟨_, rfl⟩
  rw [hls] at hsl hsc' hkd hln hps2 hnil
  clear hls hsk'
  generalize T.extract (pos + sk) T.size = s at *
  obtain ⟨k, hk⟩ : ∃ k, (tokB ls).1 = k := ⟨_, rfl⟩
  obtain ⟨m, hm⟩ : ∃ m, (tokB ls).2 = m := ⟨_, rfl⟩
  rw [hk] at hsc' hkd hps2 hnil
  rw [hm] at hsc' hln hps2 hnil
  gi_cut [7] from 20 (fun v V => v = .int .i64 m ∧ Switched wr wr.heap.size k pos sk V)
  case first =>
   have hw0 : Switched wr wr.heap.size 0 pos sk (wr.alloc (.cells #[.int .i64 0, .int .i64 pos, .int .i64 ((pos : Int) + sk), .int .i64 0] 39)) := ⟨heap_alloc_new _ _, (Below.refl _ _).alloc (Nat.le_refl _) _, by simp⟩
   have hKV := Lib.hid (fun (V : World) (hb : Below wr.heap.size wr V) => hK'.out.same (hb.block _ (hK'.out.lt)))
   have c2 : Hid (wr.cell? ⟨Bk, 0, none⟩ = some (.map (some kb))) := (hb0'.out.cell (p := ⟨Bk, 0, none⟩) hl2).trans hBk
   clear hsz2 c1 c1a hsc' hsc hps2 hnil hBn hBk hK' hb0' hJ0' h0 hJ hY
   generalize wr.alloc _ = V0 at *
   by_cases hs0 : s = ⟨#[]⟩
   ·subst hs0
    have hls0 : ls = [] := hsl.symm
    subst hls0
    obtain rfl : 0 = k := hk
    obtain rfl : 0 = m := hm
    gi_wp2_with fail
    gi_meet
    case rel => exact ⟨rfl, hw0⟩
   ·obtain ⟨r, hr⟩ : ∃ r, ls = s.data.toList.headD 0 :: r := by
     rw [← hsl]
     obtain ⟨⟨l⟩⟩ := s
     cases l with
     | nil => exact absurd rfl hs0
     | cons a l => exact ⟨l, rfl⟩
    have hp : 0 < s.size := by
     have h1 : s.data.toList.length = s.size := rfl
     rw [hsl, hr, List.length_cons] at h1
     omega
    have hc0 : s.data.toList.headD 0 = s[0] := by
     obtain ⟨⟨l⟩⟩ := s
     cases l with
     | nil => exact absurd rfl hs0
     | cons a l => rfl
    rw [hc0] at hr
    have he : s.toList = ls := (ByteArray.toList_eq s).trans hsl
    have he2 : (s.toList == ([] : List UInt8)) = false := by rw [he, hr]; rfl
    have he3 : s.toList.isEmpty = false := by rw [he, hr]; rfl
    have hL := Lib.hid (fun (V : World) => letter_fn s[0] V)
    have hD := Lib.hid (fun (V : World) => digit_fn s[0] V)
    have hSy := Lib.hid (fun (V : World) => symbol_walk V s hss)
    have hRp := Lib.hid (fun (V : World) => run_walk V s 107 partB part_test hss)
    have hRd := Lib.hid (fun (V : World) => run_walk V s 108 digitB digit_test hss)
    have hsy2 := (symN_le ls).2
    have hcp := cntN_le partB ls
    have hcd := cntN_le digitB ls
    have hll : ls.length = s.size := by rw [← hsl]; rfl
    rw [hll] at hcp hcd
    rw [hsl] at hSy hRp hRd
    have htb : tokB ls = (if letterB s[0] then (if keys.contains (ls.take (cntN partB ls)) then 2 else 1, cntN partB ls) else if digitB s[0] then (3, cntN digitB ls) else if 0 < symN ls then (4, symN ls) else (5, wrongN r + 1)) := by
     rw [hr]; rfl
    rw [htb] at hk hm
    clear htb hc0 hs0 he
    cases hlb : letterB s[0] with
    | true =>
     rw [hlb] at hL hk hm
     simp only [if_true] at hk hm
     rw [hm] at hk hRp hcp
     have hk' := Lib.hid hk
     clear hk hm hlb hD hSy hRd
     obtain ⟨x0, xf⟩ := hw0.cells
     have hw1 : Switched wr wr.heap.size 1 pos sk (V0.setCell ⟨wr.heap.size, 0, none⟩ (.int .i64 1)) := hw0.set (k' := 1)
     gi_upto_region 11 with (first | (refine ⟨trivial, ?_⟩; gi_at_call 105; refine (callsIn_wide.2 (hL.out _)).mono ?_; rintro e _ ⟨rfl, rfl⟩) | (refine ⟨trivial, ?_⟩; gi_at_call 106; refine (callsIn_wide.2 (hRp.out _)).mono ?_; rintro e _ ⟨rfl, rfl⟩))
     have hw1' := Lib.hid hw1
     clear x0 xf
     obtain ⟨x0, xf⟩ := hw1.cells
     have hsx : (s.extract 0 m).data.toList = ls.take m := by
      rw [ByteArray.data_extract, Array.toList_extract, List.extract_eq_take_drop, List.drop_zero, Nat.sub_zero]
      rw [hsl]
     have cB : (V0.setCell ⟨wr.heap.size, 0, none⟩ (.int .i64 1)).cell? ⟨Bk, 0, none⟩ = some (.map (some kb)) := (hw1.2.1.cell (p := ⟨Bk, 0, none⟩) (by show Bk < _; omega)).trans c2.out
     have hlk := fun q => run_lookup_keys (w := (V0.setCell ⟨wr.heap.size, 0, none⟩ (.int .i64 1)).drewN q) ((hKV.out _ hw1.2.1).same rfl) (s.extract 0 m)
     simp only [hsx] at hlk
     clear hsx hw1 hw0 hL hRp
     generalize keys.contains (ls.take m) = b at *
     generalize V0.setCell _ _ = V1 at *
     cases b with
     | false =>
      obtain rfl : 1 = k := hk'.out
      gi_quiet (fail)
      gi_wp2_with fail
      gi_meet
      case rel => exact ⟨rfl, hw1'.out.below (below_drewN (Below.refl _ _) _)⟩
     | true =>
      obtain rfl : 2 = k := hk'.out
      gi_quiet (fail)
      have hw2 := Lib.hid ((hw1'.out.below (below_drewN (Below.refl _ _) nq)).set (k' := 2))
      gi_wp2_with fail
      gi_meet
      case rel => exact ⟨rfl, hw2.out⟩
    | false =>
     rw [hlb] at hL hk hm
     cases hdb : digitB s[0] with
     | true =>
      rw [hdb] at hD hk hm
      simp only [if_true, Bool.false_eq_true, if_false] at hk hm
      obtain rfl : 3 = k := hk
      rw [hm] at hRd
      clear hm hlb hdb hSy hRp
      obtain ⟨x0, xf⟩ := hw0.cells
      have hw3 := Lib.hid (hw0.set (k' := 3))
      gi_wp2_with (first | (refine ⟨trivial, ?_⟩; gi_at_call 105; refine (callsIn_wide.2 (hL.out _)).mono ?_; rintro e _ ⟨rfl, rfl⟩) | (refine ⟨trivial, ?_⟩; gi_at_call 108; refine (callsIn_wide.2 (hD.out _)).mono ?_; rintro e _ ⟨rfl, rfl⟩) | (refine ⟨trivial, ?_⟩; gi_at_call 106; refine (callsIn_wide.2 (hRd.out _)).mono ?_; rintro e _ ⟨rfl, rfl⟩))
      gi_meet
      case rel => exact ⟨rfl, hw3.out⟩
     | false =>
      rw [hdb] at hD hk hm
      simp only [Bool.false_eq_true, if_false] at hk hm
      by_cases hsp : 0 < symN ls
      ·rw [if_pos hsp] at hk hm
       obtain rfl : 4 = k := hk
       have hm2 : symN ls = m := hm
       rw [hm2] at hSy hsp
       clear hm hm2 hlb hdb hRd hRp
       gi_upto_region 16 with (first | (refine ⟨trivial, ?_⟩; gi_at_call 105; refine (callsIn_wide.2 (hL.out _)).mono ?_; rintro e _ ⟨rfl, rfl⟩) | (refine ⟨trivial, ?_⟩; gi_at_call 108; refine (callsIn_wide.2 (hD.out _)).mono ?_; rintro e _ ⟨rfl, rfl⟩) | (refine ⟨trivial, ?_⟩; gi_at_call 109; refine (callsIn_wide.2 (hSy.out _)).mono ?_; rintro e V1 ⟨rfl, hV1⟩))
       have hw1 := Lib.hid (hw0.below hV1)
       clear hV1
       gi_upto_region 17 with (first | (refine ⟨trivial, ?_⟩; gi_at_call 109; refine (callsIn_wide.2 (hSy.out _)).mono ?_; rintro e V2 ⟨rfl, hV2⟩; have hw2 := hw1.out.below hV2; obtain ⟨x0, xf⟩ := hw2.cells; have hw3 := Lib.hid (hw2.set (k' := 4)); clear hw2 hV2))
       gi_meet
       case rel => exact ⟨rfl, hw3.out⟩
      ·rw [if_neg hsp] at hk hm
       obtain rfl : 5 = k := hk
       have hm2 : wrongN r + 1 = m := hm
       have hs00 : symN ls = 0 := by omega
       rw [hs00] at hSy
       clear hm hlb hdb hRd hRp hsp
       have hdr1 : Hid (s.data.toList.drop 1 = r) := by show s.data.toList.drop 1 = r; rw [hsl, hr]; rfl
       clear hr hll hsl
       gi_upto_region 4 with (first | (refine ⟨trivial, ?_⟩; gi_at_call 105; refine (callsIn_wide.2 (hL.out _)).mono ?_; rintro e _ ⟨rfl, rfl⟩) | (refine ⟨trivial, ?_⟩; gi_at_call 108; refine (callsIn_wide.2 (hD.out _)).mono ?_; rintro e _ ⟨rfl, rfl⟩) | (refine ⟨trivial, ?_⟩; gi_at_call 109; refine (callsIn_wide.2 (hSy.out _)).mono ?_; rintro e V1 ⟨rfl, hV1⟩))
       have hw1 := hw0.below hV1
       obtain ⟨x0, xf⟩ := hw1.cells
       have hw2 := Lib.hid (hw1.set (k' := 5))
       clear hV1 hw1 hw0 hL hD hSy hs00
       gi_wp2_with fail
       gi_loopw [7] (fun v V => ∃ j : Nat, 1 ≤ j ∧ j ≤ s.size ∧ v = .int .i64 j ∧ Hid (wrongN r = (j - 1) + wrongN (s.data.toList.drop j)) ∧ Switched wr wr.heap.size 5 pos sk V) (fun v V => s.size - (intOf v).toNat)
       case atStart => exact ⟨1, by omega, by omega, rfl, Lib.hid (by rw [hdr1.out]; simp), hw2.out⟩
       case round =>
        rename_i V7 _
        obtain ⟨j, hj1, hj, rfl, hwn, hsw⟩ := hrel
        have hsw' := Lib.hid hsw
        clear hsw
        by_cases hlt : j < s.size
        ·have hd := Lib.hid (drop_get s j hlt)
         have hW := Lib.hid (fun (V : World) => white_fn s[j] V)
         have hB := Lib.hid (fun (V : World) => begins_walk V (s.extract j s.size) (by rw [ByteArray.size_extract]; omega) (by rw [ByteArray.size_extract]; omega))
         rw [extract_drop] at hB
         have hstop := Lib.hid (fun (h : (whiteB s[j] || s[j] == 35 || beginsB (s.data.toList.drop j)) = true) => (show j = m by
          have h1 := hwn.out
          rw [hd.out, wrongN, ← hd.out, if_pos h] at h1
          omega))
         have hgo := Lib.hid (fun (h : (whiteB s[j] || s[j] == 35 || beginsB (s.data.toList.drop j)) = false) => (show wrongN r = j + 1 - 1 + wrongN (s.data.toList.drop (j + 1)) by
          have h1 := hwn.out
          rw [hd.out, wrongN, ← hd.out, if_neg (by rw [h]; simp)] at h1
          omega))
         have h35 : ((s[j].toNat : Int) == 35) = (s[j] == 35) := u8_eq s[j] 35 (by decide)
         clear hwn hd
         generalize whiteB s[j] = b1 at *
         generalize (s[j] == 35) = b2 at *
         generalize beginsB (s.data.toList.drop j) = b3 at *
         cases b1 with
         | true =>
          obtain rfl : j = m := hstop.out (by simp)
          gi_wp2_with (first | (refine ⟨trivial, ?_⟩; gi_at_call 110; refine (callsIn_wide.2 (hW.out _)).mono ?_; rintro e _ ⟨rfl, rfl⟩) | refine ⟨trivial, ?_⟩)
          gi_meet
          case rel => exact ⟨rfl, hsw'.out⟩
         | false =>
          cases b2 with
          | true =>
           have h35' : ((s[j].toNat : Int) != 35) = false := by rw [bne, h35]; rfl
           obtain rfl : j = m := hstop.out (by simp)
           gi_wp2_with (first | (refine ⟨trivial, ?_⟩; gi_at_call 110; refine (callsIn_wide.2 (hW.out _)).mono ?_; rintro e _ ⟨rfl, rfl⟩) | refine ⟨trivial, ?_⟩)
           gi_meet
           case rel => exact ⟨rfl, hsw'.out⟩
          | false =>
           have h35' : ((s[j].toNat : Int) != 35) = true := by rw [bne, h35]; rfl
           cases b3 with
           | true =>
            obtain rfl : j = m := hstop.out (by simp)
            gi_wp2_with (first | (refine ⟨trivial, ?_⟩; gi_at_call 110; refine (callsIn_wide.2 (hW.out _)).mono ?_; rintro e _ ⟨rfl, rfl⟩) | (refine ⟨trivial, ?_⟩; gi_at_call 111; refine (callsIn_wide.2 (hB.out _)).mono ?_; rintro e V8 ⟨rfl, hV8⟩))
            gi_meet
            case rel => exact ⟨rfl, hsw'.out.below hV8⟩
           | false =>
            have hg := Lib.hid (hgo.out (by simp))
            gi_wp2_with (first | (refine ⟨trivial, ?_⟩; gi_at_call 110; refine (callsIn_wide.2 (hW.out _)).mono ?_; rintro e _ ⟨rfl, rfl⟩) | (refine ⟨trivial, ?_⟩; gi_at_call 111; refine (callsIn_wide.2 (hB.out _)).mono ?_; rintro e V8 ⟨rfl, hV8⟩))
            have hsw8 := Lib.hid (hsw'.out.below hV8)
            clear hV8
            go_roundw
            case rel => exact ⟨j + 1, by omega, by omega, by go_num, hg, hsw8.out⟩
            case measure => simp [intOf]; omega
        ·obtain rfl : j = s.size := by omega
         obtain rfl : s.size = m := by
          have h1 := hwn.out
          have h2 : s.data.toList.drop s.size = [] := List.drop_eq_nil_of_le (Nat.le_refl _)
          rw [h2, wrongN] at h1
          omega
         gi_wp2_with (refine ⟨trivial, ?_⟩)
         gi_meet
         case rel => exact ⟨rfl, hsw'.out⟩
  case rest =>
   obtain ⟨rfl, hbx, hbW, hlt⟩ := hcut
   have y : ∀ j (h : j < 4), wc.cell? ⟨wr.heap.size, j, none⟩ = some (#[Value.int .i64 k, .int .i64 pos, .int .i64 ((pos : Int) + sk), .int .i64 0][j]'h) := fun j h => by
    rw [cell_of_row _ _ _ _ _ _ hbx]
    simp [h]
   have y0 := y 0 (by decide)
   have y1 := y 1 (by decide)
   have y2 := y 2 (by decide)
   have y3 := y 3 (by decide)
   have yf : ∀ i, wc.frozen? ⟨wr.heap.size, i, none⟩ = false := fun i => by simp [World.frozen?, hbx]
   simp only [List.getElem_toArray, List.getElem_cons_zero, List.getElem_cons_succ] at y0 y1 y2 y3
   have hbx' := Lib.hid hbx
   have hbW' := Lib.hid hbW
   clear y hbx hbW
   gi_upto_region 19 with fail
   have hb2 : Below wr.heap.size wr (wc.setCell ⟨wr.heap.size, 3, none⟩ (.int .i64 ((pos : Int) + sk + m))) := hbW'.out.setCell (p := ⟨wr.heap.size, 3, none⟩) (Nat.le_refl _) _
   have hx2 : (wc.setCell ⟨wr.heap.size, 3, none⟩ (.int .i64 ((pos : Int) + sk + m))).heap[wr.heap.size]? = some (.cells #[.int .i64 k, .int .i64 pos, .int .i64 ((pos : Int) + sk), .int .i64 ((pos : Int) + sk + m)] 39 (0, 0)) := by
    rw [heap_setCell_same _ _ _ _ _ _ hbx'.out]
    exact rfl
   clear y0 y1 y2 y3 yf hbW' hbx'
   generalize wc.setCell _ _ = V2 at *
   have hb2' := Lib.hid hb2
   have hx2' := Lib.hid hx2
   have y : ∀ j (h : j < 4), V2.cell? ⟨wr.heap.size, j, none⟩ = some (#[Value.int .i64 k, .int .i64 pos, .int .i64 ((pos : Int) + sk), .int .i64 ((pos : Int) + sk + m)][j]'h) := fun j h => by
    rw [cell_of_row _ _ _ _ _ _ hx2]
    simp [h]
   have y0 := y 0 (by decide)
   have y1 := y 1 (by decide)
   have y2 := y 2 (by decide)
   have y3 := y 3 (by decide)
   simp only [List.getElem_toArray, List.getElem_cons_zero, List.getElem_cons_succ] at y0 y1 y2 y3
   have hmem : (⟨k, pos, pos + sk, pos + sk + m⟩ : Tok) ∈ toks T := by
    rw [← hsc.out, hsc'.out]
    simp
   have hJ2 : J pre V2 := hJ pre wr V2 none hJ0'.out ⟨hb2.os, hb2.tape, hb2.output, hb2.size, fun i hi _ => hb2.block i hi⟩ (fun r e => by cases e)
   have hlen : pre.length < (toks T).length := by
    have := congrArg List.length hsc.out
    rw [hsc'.out] at this
    simp at this
    omega
   obtain ⟨fn, tmps, assign, body, hy, hR⟩ := hY pre ⟨_, hmem⟩ V2 hJ2 hlen
   have hx3 := Lib.hid (fun (W3 : World) (hk : KeepTok n₀ V2 W3) => hk.2 _ _ hx2 rfl)
   clear y hb2 hx2 hJ2
   simp only [Tok.cells, Int.natCast_add] at hy
   gi_wp2_with fail
   refine hR.mono ?_
   rintro e W3 (⟨rfl, hJ3, hk3⟩ | ⟨rfl, hJx3⟩)
   ·have z0 : W3.cell? ⟨wr.heap.size, 0, none⟩ = some (.int .i64 k) := (cell_of_row _ _ _ _ _ _ (hx3.out W3 hk3)).trans rfl
    have hJ3' := Lib.hid hJ3
    have hB3 : Hid (Below n₀ W W3) := (hb0'.out.trans (hb2'.out.mono (by omega))).trans hk3.1
    have hsz3 : W.heap.size ≤ W3.heap.size := by have h1 := hb2'.out.size; have h2 := hk3.1.size; omega
    clear hk3 hJ3 y0 y1 y2 y3 hy hR
    by_cases hk0 : k = 0
    ·subst hk0
     have hlsn : Hid (ls = []) := by
      by_cases e : ls = []
      ·exact e
      ·exact absurd (hps2.out e) (by simp)
     gi_wp2_with fail
     refine bodyPost_ret (results_none rfl _ _ _) rfl ?_
     refine ⟨⟨_, rfl⟩, .inl ⟨pre ++ [⟨_, hmem⟩], ?_, hJ3'.out⟩⟩
     refine Eq.trans ?_ hsc.out
     rw [hsc'.out, if_pos hlsn.out]
     simp
    ·have hki : ((k : Int) == 0) = false := by simpa using hk0
     have hlsn : Hid (ls ≠ []) := fun e => hk0 (hnil.out e).2
     have hmp := (hps2.out hlsn.out).1
     clear hk0
     gi_wp2_with fail
     go_roundw
     case rel => exact ⟨pre ++ [⟨_, hmem⟩], pos + sk + m, fuel - 1, by simp, by omega, by omega, Lib.hid (by refine Eq.trans ?_ hsc.out; rw [hsc'.out, if_neg hlsn.out]; simp), hJ3'.out, hB3.out, hsz3⟩
     case measure => simp [intOf]; omega
   ·gi_wp2_with fail
    refine bodyPost_ret (results_none rfl _ _ _) rfl ?_
    refine ⟨⟨_, rfl⟩, .inr ⟨pre ++ [⟨_, hmem⟩], ?_, hJx3⟩⟩
    have h9 := hsc.out
    rw [hsc'.out] at h9
    refine ⟨if ls = [] then [] else scan (fuel - 1) (T.data.toList.drop (pos + sk + m)) (pos + sk + m), Eq.trans ?_ h9⟩
    simp
end Go.Proofs.YthggagophcnkfaaGreatDoor.lx
