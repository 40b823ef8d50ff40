/- The walks of the lexer's tokens, of slices.Collect over them, and of Scan. The walks of the lexer's Kind and Number. The walk of the lexer's Number. -/
import Derived.Test.YthggagophcnkfaaGreatDoorM46
import Derived.OwnWalk
import Derived.BigQuiet
namespace Go.Proofs.YthggagophcnkfaaGreatDoor.lx
open Go.RowKit Go.Proofs.YthggagophcnkfaaGreatDoor.agg Go.Proofs.YthggagophcnkfaaGreatDoor.sx Go.Proofs.YthggagophcnkfaaGreatDoor.px
set_option linter.unusedSimpArgs false
set_option linter.unusedVariables false
attribute [local go_sem] Oper.semAt_some
structure SeqAt (w : World) (T : ByteArray) (Bn Bk kb : Nat) : Prop where
 text : w.cell? ⟨Bn, 0, none⟩ = some (.string T)
 known : w.cell? ⟨Bk, 0, none⟩ = some (.map (some kb))
 map : KMap w kb keys
 lt1 : Bn < w.heap.size
 lt2 : Bk < w.heap.size
 lt3 : kb < w.heap.size
def TokensEnd (w : World) (T : ByteArray) (e : Ending) (w' : World) : Prop :=
 ∃ Bn Bk kb, e = .returned (.func (.func 103) #[] #[.pointer (some ⟨Bn, 0, none⟩), .pointer (some ⟨Bk, 0, none⟩)]) ∧ SeqAt w' T Bn Bk kb ∧ Below w.heap.size w w'
set_option maxHeartbeats 1000000 in
theorem tokens_walk (w : World) (h : TabIn w) (T : ByteArray) : Calls Tryz.prog 52 #[.string T] w (TokensEnd w T) := by
 have hK := Lib.hid (fun (W : World) (hb : Below w.heap.size w W) => keywords_walk W (h.below hb))
 clear h
 go_enter Tryz.func52, Tryz.ntmps52
 go_wp2_with (go_at_call 102; refine (hK.out _ ((Below.refl _ _).alloc (Nat.le_refl _) _)).mono ?_; rintro e w1 ⟨kb, rfl, hm, hb, hl⟩; have hm' := Lib.hid hm; have hb' := Lib.hid hb; clear hm hb)
 go_ret
 have hz := hb'.out.size
 simp only [World.size_alloc] at hz
 have hl1 : w.heap.size < w1.heap.size := by omega
 refine ⟨w.heap.size, w1.heap.size, kb, rfl, ⟨?_, ?_, ?_, by simp; omega, by simp, ?_⟩, ?_⟩
 ·refine (((Below.refl _ w1).alloc (Nat.le_refl _) _).cell (p := ⟨w.heap.size, 0, none⟩) hl1).trans ((hb'.out.cell (p := ⟨w.heap.size, 0, none⟩) (by simp)).trans ?_)
  exact (World.cell?_alloc_new _ _ _ _).trans rfl
 ·exact (World.cell?_alloc_new _ _ _ _).trans rfl
 ·exact hm'.out.same (Below.heap_alloc _ _ _ hm'.out.lt)
 ·have := hm'.out.lt
  simp; omega
 ·exact ((((Below.refl _ w).alloc (Nat.le_refl _) _).trans (hb'.out.mono (by simp)))).alloc (by omega) _
theorem tokens_stops (n : Nat) (hn : 3 ≤ n) (Bn Bk kb : Nat) (T : ByteArray) (hT : T.size ≤ 100000) (w0 : World) (h : SeqAt w0 T Bn Bk kb) (w : World) (hb : Below w0.heap.size w0 w) :
 SeqStopsK Fence.wide n Tryz.prog 103 #[.pointer (some ⟨Bn, 0, none⟩), .pointer (some ⟨Bk, 0, none⟩)] (fun x : Tks T => #[Value.agg x.1.cells]) (KeepTok w0.heap.size) (fun xs => xs.map (·.1) = toks T) (fun pre => pre.map (·.1) <+: toks T) (toks T).length w := fun l J Jx W hW hJ _ hY h0 => by
 have hB : Below w0.heap.size w0 W := hb.trans (hW.mono hb.size)
 exact tokens1_in n hn l Bn Bk kb w0.heap.size T hT J Jx hY W hJ ((hB.cell (p := ⟨Bn, 0, none⟩) h.lt1).trans h.text) ((hB.cell (p := ⟨Bk, 0, none⟩) h.lt2).trans h.known) (h.map.same (hB.block _ h.lt3)) h.lt1 h.lt2 h.lt3 hB.size h0
def tokV (l : List Tok) : List Value := l.flatMap fun t => t.cells.toList
theorem tokV_app (a b : List Tok) : tokV (a ++ b) = tokV a ++ tokV b := by simp [tokV]
theorem scan_len (n : Nat) : ∀ (l : List UInt8) (pos : Nat), (scan n l pos).length ≤ n + 1 := by
 induction n with
 | zero => intro l pos; simp [scan]
 | succ n ih =>
  intro l pos
  rw [scan]
  split
  ·simp
  ·have := ih ‹_› ‹_›
   simp only [List.length_cons]
   exact Nat.succ_le_succ (ih _ _)
theorem toks_len (T : ByteArray) : (toks T).length ≤ T.size + 2 := scan_len _ _ _
def ScanEnd (w : World) (T : ByteArray) (e : Ending) (w' : World) : Prop :=
 ∃ v, e = .returned v ∧ w'.ownsRow w.heap.size 39 4 v (toks T).length (tokV (toks T)) ∧ Below w.heap.size w w'
theorem tokInfo : (Tryz.prog.info? 39).map (fun i => (i.zero, i.size, i.bytes)) = some (some (.agg #[.int .i64 0, .int .i64 0, .int .i64 0, .int .i64 0]), 4, 32) := by kernel_rfl
theorem own4 (Bx : Nat) (c : Array Value) : Own (fun (_ : Unit) W => W.heap[Bx]? = some (.cells c 39 (0, 0))) := fun s X Y row hs hg hrow => (hg.block Bx (lt_of_block hs) (fun e' => by obtain ⟨o, ho, hc⟩ := hrow Bx e'.symm; rw [hs] at ho; cases ho; cases hc)).trans hs
set_option maxRecDepth 100000 in
set_option maxHeartbeats 4000000 in
theorem appendSeq_walk (w : World) (T : ByteArray) (hT : T.size ≤ 100000) (Bn Bk kb : Nat) (h : SeqAt w T Bn Bk kb) :
 Calls Tryz.prog 149 #[.slice none 0 0, .func (.func 103) #[] #[.pointer (some ⟨Bn, 0, none⟩), .pointer (some ⟨Bk, 0, none⟩)]] w (ScanEnd w T) := by
 obtain ⟨i0, hi, hz0, hz1, hz2⟩ := info_parts tokInfo
 have hN := toks_len T
 refine (callsIn_wide (n := 8)).1 ?_
 refine callsIn_of_wp_marks Tryz.func149 rfl trivial ?_ rfl
 simp only [Tryz.ntmps149, List.size_toArray, List.length_cons, List.length_nil, Nat.reduceAdd, Nat.reduceSub, Array.replicate_succ, Array.replicate_zero, List.push_toArray, List.append_toArray, List.nil_append, List.cons_append]
 gi_wp2
 refine wpIn_rangeFunc_ownH rfl (by omega) (gf := 103) (lb := #[.pointer (some ⟨Bn, 0, none⟩), .pointer (some ⟨Bk, 0, none⟩)]) rfl trivial (enters_of Tryz.func103 (by kernel_rfl) rfl)
  (tokens_stops 7 (by omega) Bn Bk kb T hT w h (w.alloc (.cells #[.slice none 0 0] 35)) ((Below.refl _ _).alloc (Nat.le_refl _) _)) keepTok_t (keepTok_b (by simp)) (Below.refl _ _) (fun _ => rfl)
  (fun pre W => (∃ v, Boxed W w.heap.size 35 v ∧ W.ownsRow w.heap.size 39 4 v pre.length (tokV (pre.map (·.1))) ∧ (pre = [] → v = .slice none 0 0)) ∧ Below w.heap.size w W)
  (fun _ _ _ => False)
  (OwnFrom.and (Own.from (holdsRow_own w.heap.size w.heap.size 35 39 4 (fun pre : List (Tks T) => pre.length) (fun pre => tokV (pre.map (·.1))) (fun pre v => pre = [] → v = .slice none 0 0)) _) (ownFrom_below (Nat.le_refl _) (by simp)))
  (fun _ _ _ _ _ hs _ _ => hs)
  ⟨⟨_, Boxed.new w 35 _, World.ownsRow_nil _ _ _ _, fun _ => rfl⟩, (Below.refl _ _).alloc (Nat.le_refl _) _⟩
  (fun x a' W => ∃ Bx, w.heap.size < Bx ∧ W.heap[Bx]? = some (.cells x.1.cells 39 (0, 0)) ∧ a' = { tmps := #[.slice none 0 0, .func (.func 103) #[] #[.pointer (some ⟨Bn, 0, none⟩), .pointer (some ⟨Bk, 0, none⟩)], .pointer (some ⟨w.heap.size, 0, none⟩), undef, .slice none 0 0, .pointer (some ⟨Bx, 0, none⟩), .func (.func 103) #[] #[.pointer (some ⟨Bn, 0, none⟩), .pointer (some ⟨Bk, 0, none⟩)], .agg x.1.cells, undef, undef, undef, undef, undef], defers := [] })
  (fun x a' _ X Y row hs hg hr => by obtain ⟨Bx, h1, h2, h3⟩ := hs; exact ⟨Bx, h1, own4 Bx x.1.cells () X Y row h2 hg (fun r e => (hr r e).2), h3⟩)
  ?assign ?body ?done ?stop
 case assign =>
  rintro l pre ⟨⟨k, fr, ta, te⟩, hx⟩ W K hI hK
  simp only [Tok.cells] at hK ⊢
  gi_wp2
  have hz : w.heap.size < W.heap.size := (hI.1.choose_spec).1.lt
  exact hK _ _ ((KeepsOthers.alloc _ _).from _) (keepTok_alloc hI.2.size _) ⟨by
   obtain ⟨v, b, r, g⟩ := hI.1
   exact ⟨v, b.alloc _, r.alloc _, g⟩, hI.2.alloc hI.2.size _⟩ ⟨W.heap.size, hz, heap_alloc_new _ _, rfl⟩
 case body =>
  rintro l pre ⟨⟨k, fr, ta, te⟩, hx⟩ a' W hl ⟨r, hr⟩ ⟨⟨v, bS, hrow, hn⟩, hB⟩ ⟨Bx, hBx, bX, rfl⟩ hlt
  simp only [Tok.cells] at bX ⊢
  have cS := bS.cell
  have fS := bS.frozen
  have y : ∀ j (h : j < 4), W.cell? ⟨Bx, j, none⟩ = some (#[Value.int .i64 k, .int .i64 fr, .int .i64 ta, .int .i64 te][j]'h) := fun j h => by
   rw [cell_of_row _ _ _ _ _ _ bX]
   simp [h]
  have y0 := y 0 (by decide)
  have y1 := y 1 (by decide)
  have y2 := y 2 (by decide)
  have y3 := y 3 (by decide)
  simp only [List.getElem_toArray, List.getElem_cons_zero, List.getElem_cons_succ] at y0 y1 y2 y3
  have hrow' := Lib.hid hrow
  have bS' := Lib.hid bS
  have hB' := Lib.hid hB
  have hn' := Lib.hid hn
  have bX' := Lib.hid bX
  have hsW := hB.size
  have hbW := bS.lt
  clear y hrow bS hB hn bX
  gi_wp2_with (gi_at_builtin; refine Hid.out ?_)
  refine Lib.hid ?_
  refine wpListIn_append_tight _ rfl (.tmp 8) (.tmp 10) 35 rfl w.heap.size 39 i0 _ 4 32 Tryz.underlying35 hi hz0 hz1 hz2 rfl (by decide) v pre.length (tokV (pre.map (·.1))) rfl (hrow'.out.alloc _) ⟨W.heap.size, 0, none⟩ 1 1 [.int .i64 k, .int .i64 fr, .int .i64 ta, .int .i64 te] rfl rfl (by decide) (cells_new W #[.int .i64 k, .int .i64 fr, .int .i64 ta, .int .i64 te] 39) (by intro u hu; simp only [List.mem_cons, List.not_mem_nil, or_false] at hu; rcases hu with rfl | rfl | rfl | rfl <;> rfl) (by unfold maxLen; omega) (by omega) (by simp; omega) ?_
  intro g cap w1 hown hgrow hnew htight
  have hbx1 := (bS'.out.alloc (.cells #[.int .i64 k, .int .i64 fr, .int .i64 ta, .int .i64 te] 39)).kept hgrow (Boxed.not_row bS'.out (by decide) hrow'.out)
  have hbx1' := Lib.hid hbx1
  have c1 := hbx1.cell
  have f1 := hbx1.frozen
  have hown' := Lib.hid hown
  have hgrow' := Lib.hid hgrow
  have hnew' := Lib.hid hnew
  have htight' := Lib.hid htight
  clear hbx1 hown hgrow hnew htight
  gi_wp2
  have hsz0 : (W.alloc (.cells #[.int .i64 k, .int .i64 fr, .int .i64 ta, .int .i64 te] 39)).heap.size = W.heap.size + 1 := by simp
  have hgs := hgrow'.out.size
  have hgne : some w.heap.size ≠ v.ownBlock := Boxed.not_row bS'.out (by decide) hrow'.out
  have hgne2 : w.heap.size ≠ g := by
   rcases hnew'.out with e | e
   ·exact fun e2 => hgne (by rw [e, e2])
   ·omega
  have hrowlt : ∀ k, v.ownBlock = some k → w.heap.size ≤ k := fun k e => (hrow'.out.lt k e).1
  have hkeep : ∀ k o, W.heap[k]? = some o → k ≠ w.heap.size → some k ≠ v.ownBlock → (w1.setCell ⟨w.heap.size, 0, none⟩ (.slice (some ⟨g, 0, none⟩) (pre.length + 1) cap)).heap[k]? = some o := fun k o hk h1 h2 =>
   (heap_setCell_other _ _ _ _ (fun e => h1 e)).trans ((hgrow'.out.block k (by have := lt_of_block hk; omega) h2).trans ((Below.heap_alloc W _ k (lt_of_block hk)).trans hk))
  have hBW : Below w.heap.size W (w1.setCell ⟨w.heap.size, 0, none⟩ (.slice (some ⟨g, 0, none⟩) (pre.length + 1) cap)) :=
   (((Below.refl _ W).alloc hsW _).grown hgrow'.out (by omega) hrowlt).setCell (p := ⟨w.heap.size, 0, none⟩) (Nat.le_refl _) _
  refine ⟨⟨?_, fun k o _ hk ho => hkeep k o hk ?_ ?_⟩, ⟨hBW, fun b c hb hc => ?_⟩, ⟨_, hbx1'.out.set _, ?_, fun e => by simp at e⟩, hB'.out.trans hBW⟩
  ·simp; omega
  ·rintro rfl
   rw [bS'.out] at hk; cases hk; cases ho
  ·rcases hrow'.out.2 with ⟨rfl, _⟩ | ⟨g0, cap0, cur0, rfl, _, hg0, _⟩
   ·simp [Value.ownBlock]
   ·intro e
    have : k = g0 := by simpa [Value.ownBlock] using e
    subst this
    rw [hg0] at hk; cases hk; cases ho
  ·have hne : b ≠ w.heap.size := by
    rintro rfl
    have h1 := bS'.out.symm.trans hb
    simp at h1
   by_cases hp : pre = []
   ·have hv := hn'.out hp
    subst hv
    exact hkeep b _ hb hne (by simp [Value.ownBlock])
   ·have hpl : 1 ≤ pre.length := by
     cases pre with
     | nil => exact absurd rfl hp
     | cons _ _ => simp
    exact (heap_setCell_other _ _ _ _ (fun e => hne e)).trans (htight'.out b c (0, 0) ((Below.heap_alloc W _ b (lt_of_block hb)).trans hb) (by omega))
  ·have h1 := ownsRow_same (w' := w1.setCell ⟨w.heap.size, 0, none⟩ (.slice (some ⟨g, 0, none⟩) (pre.length + 1) cap)) hown'.out (fun k hk => heap_setCell_other _ _ _ _ (fun e => hgne2 ((show w.heap.size = k from e.symm ▸ rfl).trans (show k = g by simpa [Value.ownBlock] using hk.symm))))
   have e1 : tokV ((pre ++ [(⟨⟨k, fr, ta, te⟩, hx⟩ : Tks T)]).map (·.1)) = tokV (pre.map (·.1)) ++ [.int .i64 k, .int .i64 fr, .int .i64 ta, .int .i64 te] := by
    rw [List.map_append, tokV_app]
    rfl
   rw [e1, List.length_append]
   exact h1
 case done =>
  rintro D xs W hD hS ⟨⟨v, bS, hrow, hn⟩, hB⟩ hK
  have cS := bS.cell
  gi_wp2
  refine ⟨by simp, .inl ⟨_, _, rfl, run_takeDeferred hK, ?_⟩⟩
  refine ⟨_, results_tmp rfl _ _ _, v, rfl, ?_, hB.trans (belowK_b (w := w) (Nat.le_refl _) W D _ _ (by simp at hD; omega) hK rfl rfl)⟩
  have hlen : xs.length = (toks T).length := by rw [← hS, List.length_map]
  rw [← hlen, ← hS]
  exact ownsRow_putObj hrow _ hK rfl
 case stop =>
  rintro D c pre W _ _ h _
  exact h.elim
theorem collect_walk (w : World) (T : ByteArray) (hT : T.size ≤ 100000) (Bn Bk kb : Nat) (h : SeqAt w T Bn Bk kb) :
 Calls Tryz.prog 114 #[.func (.func 103) #[] #[.pointer (some ⟨Bn, 0, none⟩), .pointer (some ⟨Bk, 0, none⟩)]] w (ScanEnd w T) := by
 have hA := Lib.hid (appendSeq_walk w T hT Bn Bk kb h)
 clear h
 go_enter Tryz.func114, Tryz.ntmps114
 go_wp2_with (go_at_call 149; refine hA.out.mono ?_; rintro e w1 ⟨v, rfl, h1, h2⟩; have h1' := Lib.hid h1; have h2' := Lib.hid h2; clear h1 h2)
 go_ret
 exact ⟨v, rfl, h1'.out, h2'.out⟩
def ScanEnd2 (w : World) (T : ByteArray) (e : Ending) (w' : World) : Prop :=
 ∃ v, e = .returned (.tuple #[v, .int .i64 0]) ∧ w'.ownsRow w.heap.size 39 4 v (toks T).length (tokV (toks T)) ∧ Below w.heap.size w w'
theorem ownsRow_base {w : World} {b b' : Nat} {e : TypeId} {size : Nat} {v : Value} {n : Nat} {xs : List Value} (h : w.ownsRow b e size v n xs) (hb : b' ≤ b) : w.ownsRow b' e size v n xs := by
 refine ⟨h.1, ?_⟩
 rcases h.2 with hn | ⟨g, cap, cur, hv, hg, r⟩
 ·exact .inl hn
 ·exact .inr ⟨g, cap, cur, hv, Nat.le_trans hb hg, r⟩
set_option maxHeartbeats 1000000 in
theorem scan_walk (w : World) (h : TabIn w) (T : ByteArray) (hT : T.size ≤ 4096) : Calls Tryz.prog 57 #[.string T] w (ScanEnd2 w T) := by
 have hTk := Lib.hid (fun (W : World) (hb : Below w.heap.size w W) => tokens_walk W (h.below hb) T)
 have hC := Lib.hid (fun (W : World) Bn Bk kb (hs : SeqAt W T Bn Bk kb) => collect_walk W T (by omega) Bn Bk kb hs)
 clear h
 go_enter Tryz.func57, Tryz.ntmps57
 go_wp2_with (first
  | (go_at_call 52; refine (hTk.out _ (Below.refl _ _)).mono ?_; rintro e w1 ⟨Bn, Bk, kb, rfl, hs, hb⟩; have hs' := Lib.hid hs; have hb' := Lib.hid hb; clear hs hb)
  | (go_at_call 114; refine (hC.out _ _ _ _ hs'.out).mono ?_; rintro e w2 ⟨v, rfl, h1, h2⟩; have h1' := Lib.hid h1; have h2' := Lib.hid h2; clear h1 h2))
 go_ret2
 exact ⟨v, rfl, ownsRow_base h1'.out hb'.out.size, hb'.out.trans (h2'.out.mono hb'.out.size)⟩
set_option maxHeartbeats 1000000 in
theorem scan_large (w : World) (T : ByteArray) (hT : 4096 < T.size) : Calls Tryz.prog 57 #[.string T] w fun e w' => e = .returned (.tuple #[.slice none 0 0, .int .i64 8]) ∧ w = w' := by
 go_enter Tryz.func57, Tryz.ntmps57
 go_wp2_with fail
 go_ret2
 exact ⟨rfl, rfl⟩
end Go.Proofs.YthggagophcnkfaaGreatDoor.lx
namespace Go.Proofs.YthggagophcnkfaaGreatDoor.lx
open Go.RowKit Go.Proofs.YthggagophcnkfaaGreatDoor.agg Go.Proofs.YthggagophcnkfaaGreatDoor.sx Go.Proofs.YthggagophcnkfaaGreatDoor.px
set_option linter.unusedSimpArgs false
set_option linter.unusedVariables false
attribute [local go_sem] Oper.semAt_some
theorem toks_head (T : ByteArray) : ∃ rest, toks T = ⟨(tokB (T.data.toList.drop (skipS false T.data.toList))).1, 0, skipS false T.data.toList, skipS false T.data.toList + (tokB (T.data.toList.drop (skipS false T.data.toList))).2⟩ :: rest := by
 unfold toks
 rw [scan]
 cases hd : T.data.toList.drop (skipS false T.data.toList) with
 | nil => exact ⟨[], by simp [tokB]⟩
 | cons c r =>
  simp only [Nat.zero_add]
  exact ⟨_, rfl⟩
theorem kind_head {T : ByteArray} (h0 : T ≠ ⟨#[]⟩) (h1 : T.size ≤ 4096) {t : Tok} {rest : List Tok} (h : toks T = t :: rest) : kindB T.data.toList = if t.at_ = 0 ∧ t.to = T.size then t.kind else 0 := by
 obtain ⟨rest', e⟩ := toks_head T
 rw [h] at e
 obtain ⟨rfl, _⟩ := List.cons.inj e
 have hn : T.data.toList ≠ [] := by
  intro e
  apply h0
  obtain ⟨⟨l⟩⟩ := T
  have : l = [] := e
  rw [this]
 have hl : T.data.toList.length = T.size := rfl
 unfold kindB
 have hc : ¬ (T.data.toList = [] ∨ 4096 < T.data.toList.length) := by
  rintro (e | e)
  ·exact hn e
  ·omega
 rw [if_neg hc]
 by_cases hs : skipS false T.data.toList = 0
 ·simp only [hs, List.drop_zero, Nat.zero_add, true_and, hl]
 ·rw [if_neg (fun e => hs e.1), if_neg (fun e => hs e.1)]
def KindEnd (w : World) (k : Nat) (e : Ending) (w' : World) : Prop := e = .returned (.int .i64 k) ∧ Below w.heap.size w w'
set_option maxRecDepth 100000 in
set_option maxHeartbeats 4000000 in
theorem kind_walk (w : World) (h : TabIn w) (T : ByteArray) : Calls Tryz.prog 115 #[.string T] w (KindEnd w (kindB T.data.toList)) := by
 by_cases h0 : T = ⟨#[]⟩
 ·subst h0
  have hk : kindB (ByteArray.mk #[]).data.toList = 0 := rfl
  rw [hk]
  go_enter Tryz.func115, Tryz.ntmps115
  go_wp2_with fail
  exact bodyPost_ret (v := .int .i64 0) (by simp [results, Tryz.results115, go_sem]) rfl ⟨rfl, ((Below.refl _ _).alloc (Nat.le_refl _) _).alloc (by simp) _⟩
 ·by_cases h1 : 4096 < T.size
  ·have he3 : T.toList.isEmpty = false := by
    rw [ByteArray.toList_eq]
    cases hx : T.data.toList with
    | nil =>
     have hl : T.data.toList.length = T.size := rfl
     rw [hx] at hl
     simp at hl
     omega
    | cons a l => rfl
   have he2 : (T.toList == ([] : List UInt8)) = false := by
    cases hx : T.toList with
    | nil => rw [hx] at he3; simp at he3
    | cons a l => rfl
   have hk : kindB T.data.toList = 0 := by
    unfold kindB
    rw [if_pos (.inr h1)]
   rw [hk]
   clear h0
   go_enter Tryz.func115, Tryz.ntmps115
   go_wp2_with fail
   exact bodyPost_ret (v := .int .i64 0) (by simp [results, Tryz.results115, go_sem]) rfl ⟨rfl, ((Below.refl _ _).alloc (Nat.le_refl _) _).alloc (by simp) _⟩
  ·have hTk := Lib.hid (fun (W : World) (hb : Below w.heap.size w W) => tokens_walk W (h.below hb) T)
   clear h
   have hne : T.data.toList ≠ [] := by
    intro e
    apply h0
    obtain ⟨⟨l⟩⟩ := T
    have : l = [] := e
    rw [this]
   have he3 : T.toList.isEmpty = false := by
    rw [ByteArray.toList_eq]
    cases hx : T.data.toList with
    | nil => exact absurd hx hne
    | cons a l => rfl
   have he2 : (T.toList == ([] : List UInt8)) = false := by
    cases hx : T.toList with
    | nil => rw [hx] at he3; simp at he3
    | cons a l => rfl
   have hkh := Lib.hid (fun t rest (e : toks T = t :: rest) => kind_head h0 (by omega) e)
   have hTs : T.size ≤ 4096 := by omega
   clear h1 h0 hne
   refine (callsIn_wide (n := 8)).1 ?_
   refine callsIn_of_wp_marks Tryz.func115 rfl trivial ?_ rfl
   simp only [Tryz.ntmps115, List.size_toArray, List.length_cons, List.length_nil, Nat.reduceAdd, Nat.reduceSub, Array.replicate_succ, Array.replicate_zero, List.push_toArray, List.append_toArray, List.nil_append, List.cons_append]
   gi_wp2_with (refine ⟨trivial, ?_⟩; gi_at_call 52; refine (callsIn_wide.2 (hTk.out _ (((Below.refl _ _).alloc (Nat.le_refl _) _).alloc (by simp) _))).mono ?_; rintro e w1 ⟨Bn, Bk, kb, rfl, hsq, hb⟩; have hsq' := Lib.hid hsq; have hb' := Lib.hid hb; clear hsq hb)
   have bT : Boxed w1 w.heap.size 9 (.string T) := (hb'.out.block _ (by simp; omega)).trans ((Boxed.new w 9 (.string T)).alloc _)
   have bR : Boxed w1 (w.heap.size + 1) 3 (.int .i64 0) := (hb'.out.block _ (by simp)).trans (by
    have h1 := Boxed.new (w.alloc (.cells #[.string T] 9)) 3 (.int .i64 0)
    rw [World.size_alloc] at h1
    exact h1)
   have hB1 : Below w.heap.size w w1 := (((Below.refl _ _).alloc (Nat.le_refl _) _).alloc (by simp) _).trans (hb'.out.mono (by simp; omega))
   have hz1 : w.heap.size + 1 < w1.heap.size := bR.lt
   refine wpIn_rangeFunc_ownH rfl (by omega) (gf := 103) (lb := #[.pointer (some ⟨Bn, 0, none⟩), .pointer (some ⟨Bk, 0, none⟩)]) rfl trivial (enters_of Tryz.func103 (by kernel_rfl) rfl)
    (tokens_stops 7 (by omega) Bn Bk kb T (by omega) w1 hsq'.out w1 (Below.refl _ _)) keepTok_t (keepTok_b (Nat.le_refl _)) (Below.refl _ _) (fun _ => rfl)
    (fun pre W => (Boxed W w.heap.size 9 (.string T) ∧ Boxed W (w.heap.size + 1) 3 (.int .i64 0)) ∧ (pre = [] ∧ Below w1.heap.size w1 W))
    (fun c pre W => (∃ (x : Tks T) (r : Nat), (pre = [x] ∧ (c = .exit 0 ∧ ¬ (x.1.at_ = 0 ∧ x.1.to = T.size) ∧ r = 0 ∨ c = .ret ∧ (x.1.at_ = 0 ∧ x.1.to = T.size) ∧ r = x.1.kind)) ∧ Boxed W (w.heap.size + 1) 3 (.int .i64 r)) ∧ Below w.heap.size w W)
    (OwnFrom.and (OwnFrom.and (Own.from (boxed_own _ _ _) _) (Own.from (boxed_own _ _ _) _)) (OwnFrom.and (ownFrom_pure _ _) (ownFrom_below (Nat.le_refl _) (Nat.le_refl _))))
    (fun c => OwnFrom.and (fun s X Y row hs hg hr => by obtain ⟨x, r, h1, h2⟩ := hs; exact ⟨x, r, h1, boxed_own (w.heap.size + 1) 3 (fun (_ : Unit) => Value.int .i64 r) () X Y row h2 hg (fun r e => (hr r e).2)⟩) (ownFrom_below (Nat.le_refl _) (by omega)))
    ⟨⟨bT, bR⟩, rfl, Below.refl _ _⟩
    (fun x a' W => ∃ Bx, w.heap.size + 1 < Bx ∧ W.heap[Bx]? = some (.cells x.1.cells 39 (0, 0)) ∧ ∃ s0 s1 s2 s3 s4 s5 s6 s7 s8 s9, a' = { tmps := #[.string T, .pointer (some ⟨w.heap.size, 0, none⟩), .pointer (some ⟨w.heap.size + 1, 0, none⟩), .pointer (some ⟨Bx, 0, none⟩), s0, s1, s2, s3, s4, s5, s6, s7, s8, s9, undef, undef, undef, undef, undef, undef, undef, undef, undef, undef, undef, undef], defers := [] })
    (fun x a' _ X Y row hs hg hr => by obtain ⟨Bx, h1, h2, h3⟩ := hs; exact ⟨Bx, h1, own4 Bx x.1.cells () X Y row h2 hg (fun r e => (hr r e).2), h3⟩)
    ?assign ?body ?done ?stop
   case assign =>
    rintro l pre ⟨⟨k, fr, ta, te⟩, hx⟩ W K hI hK
    simp only [Tok.cells] at hK ⊢
    gi_wp2
    refine hK _ _ ((KeepsOthers.alloc _ _).from _) (keepTok_alloc hI.2.2.size _) ⟨⟨hI.1.1.alloc _, hI.1.2.alloc _⟩, hI.2.1, hI.2.2.alloc hI.2.2.size _⟩ ⟨W.heap.size, hI.1.2.lt, heap_alloc_new _ _, _, _, _, _, _, _, _, _, _, _, rfl⟩
   case body =>
    rintro l pre ⟨⟨k, fr, ta, te⟩, hx⟩ a' W hl ⟨r, hr⟩ ⟨⟨bT1, bR1⟩, rfl, hB⟩ ⟨Bx, hBx, bX, s0, s1, s2, s3, s4, s5, s6, s7, s8, s9, rfl⟩ hlt
    simp only [Tok.cells] at bX
    have cT := bT1.cell
    have cR := bR1.cell
    have fR := bR1.frozen
    have y : ∀ j (h : j < 4), W.cell? ⟨Bx, j, none⟩ = some (#[Value.int .i64 k, .int .i64 fr, .int .i64 ta, .int .i64 te][j]'h) := fun j h => by
     rw [cell_of_row _ _ _ _ _ _ bX]
     simp [h]
    have y0 := y 0 (by decide)
    have y1 := y 1 (by decide)
    have y2 := y 2 (by decide)
    have y3 := y 3 (by decide)
    simp only [List.getElem_toArray, List.getElem_cons_zero, List.getElem_cons_succ] at y0 y1 y2 y3
    have hBw : Below w.heap.size w W := hB1.trans (hB.mono (by omega))
    have hBw' := Lib.hid hBw
    have bR1' := Lib.hid bR1
    have hB' := Lib.hid hB
    clear y bX bT1 bR1 hB hBw
    by_cases ha : ta = 0
    ·subst ha
     by_cases hb2 : te = T.size
     ·subst hb2
      gi_wp2
      exact ⟨(KeepsOthers.setCell _ _ _).from _, ⟨⟨_, hx⟩, k, ⟨rfl, .inr ⟨rfl, ⟨rfl, rfl⟩, rfl⟩⟩, bR1'.out.set _⟩, hBw'.out.setCell (p := ⟨w.heap.size + 1, 0, none⟩) (by simp) _⟩
     ·have hb3 : ((te : Int) != (T.size : Int)) = true := by rw [bne_iff_ne]; omega
      gi_wp2
      exact ⟨(KeepsOthers.refl _).from _, ⟨⟨_, hx⟩, 0, ⟨rfl, .inl ⟨rfl, fun e => hb2 e.2, rfl⟩⟩, bR1'.out⟩, hBw'.out⟩
    ·have hb3 : ((ta : Int) != 0) = true := by rw [bne_iff_ne]; omega
     gi_wp2
     exact ⟨(KeepsOthers.refl _).from _, ⟨⟨_, hx⟩, 0, ⟨rfl, .inl ⟨rfl, fun e => ha e.1, rfl⟩⟩, bR1'.out⟩, hBw'.out⟩
   case done =>
    rintro D xs W hD hS ⟨_, rfl, _⟩ hK
    obtain ⟨rest, e⟩ := toks_head T
    have h9 := hS.symm.trans (List.map_nil)
    rw [e] at h9
    cases h9
   case stop =>
    rintro D c pre W hD hSp ⟨⟨x, r, ⟨rfl, hx⟩, bR2⟩, hB2⟩ hK
    have hh : ∃ rest, toks T = x.1 :: rest := by
     obtain ⟨t, ht⟩ := hSp
     exact ⟨t, ht.symm⟩
    obtain ⟨rest, hh⟩ := hh
    have hkk := hkh.out _ _ hh
    have cR := bR2.cell
    have fR := bR2.frozen
    rcases hx with ⟨rfl, hx, rfl⟩ | ⟨rfl, hx, rfl⟩
    ·rw [if_neg hx] at hkk
     have hK' := (KeepsOthers.setCell W ⟨w.heap.size + 1, 0, none⟩ (.int .i64 0)).same D _ hK rfl
     gi_wp2
     refine ⟨by simp, .inl ⟨_, _, rfl, run_takeDeferred hK', ?_⟩⟩
     have hc5 := cell_kept (bR2.set (.int .i64 0)).cell (grownBy_putObj' _ D (.deferred none)) (fun r e => by cases e; exact ⟨_, hK', rfl⟩)
     refine ⟨.int .i64 0, ?_, by rw [hkk]; rfl, ?_⟩
     ·simp [results, Tryz.results115, go_sem, hc5]
     ·have hz := hB2.size
      exact (hB2.setCell (p := ⟨w.heap.size + 1, 0, none⟩) (by simp) _).trans (belowK_b (w := w1) (by omega) _ D _ _ hD hK' rfl rfl)
    ·rw [if_pos hx] at hkk
     gi_wp2
     refine ⟨by simp, .inl ⟨_, _, rfl, run_takeDeferred hK, ?_⟩⟩
     have hc5 := cell_kept bR2.cell (grownBy_putObj' _ D (.deferred none)) (fun r e => by cases e; exact ⟨_, hK, rfl⟩)
     refine ⟨.int .i64 x.1.kind, ?_, by rw [hkk], ?_⟩
     ·simp [results, Tryz.results115, go_sem, hc5]
     ·exact hB2.trans (belowK_b (w := w1) (by omega) _ D _ _ hD hK rfl rfl)
end Go.Proofs.YthggagophcnkfaaGreatDoor.lx
namespace Go.Proofs.YthggagophcnkfaaGreatDoor.lx
open Go.RowKit Go.Proofs.YthggagophcnkfaaGreatDoor.agg Go.Proofs.YthggagophcnkfaaGreatDoor.sx Go.Proofs.YthggagophcnkfaaGreatDoor.px
set_option linter.unusedSimpArgs false
set_option linter.unusedVariables false
theorem dec_digits (l : List UInt8) : ∀ acc, cntN digitB l = l.length → ∃ n, Lib.decFrom acc l = some n := by
 induction l with
 | nil => intro acc _; exact ⟨acc, rfl⟩
 | cons c l ih =>
  intro acc h
  rw [cntN] at h
  cases hc : digitB c with
  | false => rw [hc] at h; simp at h
  | true =>
   rw [hc] at h
   simp only [if_true, List.length_cons] at h
   have hd : Lib.digitVal c = some (c.toNat - 48) := by
    unfold digitB at hc
    simp only [Bool.and_eq_true, decide_eq_true_eq] at hc
    unfold Lib.digitVal
    rw [if_pos hc]
   rw [Lib.decFrom, hd]
   exact ih _ (by omega)
theorem atoi_digits {l : List UInt8} (h : kindB l = 3) : ∃ n, Lib.atoi l = some n := by
 unfold kindB at h
 split at h
 ·cases h
 ·split at h
  ·rename_i hn hk
   cases l with
   | nil => simp at hn
   | cons c r =>
    unfold tokB at h hk
    simp only at h hk
    cases hl : letterB c with
    | true =>
     rw [hl] at h
     simp only [if_true] at h
     split at h <;> simp at h
    | false =>
     cases hd : digitB c with
     | false =>
      rw [hl, hd] at h
      simp only [Bool.false_eq_true, if_false] at h
      split at h <;> simp at h
     | true =>
      rw [hl, hd] at hk
      simp only [Bool.false_eq_true, if_false, if_true] at hk
      obtain ⟨n, hn2⟩ := dec_digits (c :: r) 0 hk.2
      unfold digitB at hd
      simp only [Bool.and_eq_true, decide_eq_true_eq] at hd
      have h1 : (c == 45) = false := by
       rw [beq_eq_false_iff_ne]; intro e; subst e
       have : (45 : UInt8).toNat = 45 := rfl
       omega
      have h2 : (c == 43) = false := by
       rw [beq_eq_false_iff_ne]; intro e; subst e
       have : (43 : UInt8).toNat = 43 := rfl
       omega
      refine ⟨(n : Int), ?_⟩
      rw [Lib.atoi, h1, h2]
      simp [Lib.decNat, hn2]
  ·cases h
def NumberEnd (w : World) (b : Bool) (e : Ending) (w' : World) : Prop := ∃ n : Int, e = .returned (.tuple #[.int .i64 n, .bool b]) ∧ Below w.heap.size w w'
theorem bytesWorld_below (w : World) (t : ByteArray) : Below w.heap.size w (Lib.bytesWorld w 5 t) := by
 have h1 : Below w.heap.size w (w.drew.alloc (.cells (Lib.bytesCells w 5 t) 5)) := ((Below.refl _ w).drew).alloc (Nat.le_refl _) _
 refine h1.trans ⟨?_, ?_, ?_, ?_, fun k hk => ?_⟩
 ·simp only [Lib.bytesWorld, World.freeze]; split <;> rfl
 ·simp only [Lib.bytesWorld, World.freeze]; split <;> rfl
 ·simp only [Lib.bytesWorld, World.freeze]; split <;> rfl
 ·simp only [Lib.bytesWorld, World.freeze]; split <;> simp
 ·simp only [Lib.bytesWorld, World.freeze]
  split
  ·rfl
  ·simp only [Array.getElem?_modify]
   rw [if_neg (by omega)]
set_option maxHeartbeats 1000000 in
theorem number_walk (w : World) (h : TabIn w) (T : ByteArray) (hT : T.size ≤ 100000) : Calls Tryz.prog 59 #[.string T] w (NumberEnd w (numberB T.data.toList)) := by
 have hK := Lib.hid (kind_walk w h T)
 have hl : T.data.toList.length = T.size := rfl
 by_cases h4 : 4 < T.size
 ·have hn : numberB T.data.toList = false := by
   unfold numberB
   rw [decide_eq_false (by omega)]; rfl
  rw [hn]
  clear hn hK h
  go_enter Tryz.func59, Tryz.ntmps59
  go_wp2_with fail
  go_ret2
  exact ⟨0, rfl, Below.refl _ _⟩
 ·have hn : numberB T.data.toList = (kindB T.data.toList == 3) := by
   unfold numberB
   rw [decide_eq_true (by omega), Bool.true_and]
  rw [hn]
  by_cases h3 : kindB T.data.toList = 3
  ·obtain ⟨n, hat⟩ := atoi_digits h3
   have hA := Lib.hid (fun (W : World) => sh.strconv_Atoi T n (by omega) hat W)
   rw [h3] at hK ⊢
   clear hat hn h3 h hl
   go_enter Tryz.func59, Tryz.ntmps59
   go_wp2_with (first
    | (go_at_call 115; refine hK.out.mono ?_; rintro e w1 ⟨rfl, hb⟩; have hb' := Lib.hid hb; clear hb)
    | (go_at_call 116; refine (hA.out _).mono ?_; rintro e w2 ⟨rfl, t, hw⟩; have hw' := Lib.hid hw; clear hw))
   go_quiet (fail)
   go_wp2
   go_ret2
   refine ⟨n, rfl, ?_⟩
   rw [hw'.out]
   exact below_drewN (hb'.out.trans ((bytesWorld_below w1 t).mono hb'.out.size)) _
  ·have hk : (kindB T.data.toList == 3) = false := by simpa using h3
   have hk2 : ((kindB T.data.toList : Int) != 3) = true := by rw [bne_iff_ne]; omega
   rw [hk]
   generalize kindB T.data.toList = k at *
   clear hk hn h
   go_enter Tryz.func59, Tryz.ntmps59
   go_wp2_with (first
    | (go_at_call 115; refine hK.out.mono ?_; rintro e w1 ⟨rfl, hb⟩; have hb' := Lib.hid hb; clear hb))
   go_ret2
   exact ⟨0, rfl, hb'.out⟩
end Go.Proofs.YthggagophcnkfaaGreatDoor.lx
