/- The walk of the parser's begin. -/
import Derived.Test.YthggagophcnkfaaGreatDoorTk
import Derived.Test.YthggagophcnkfaaGreatDoorM5
import Derived.Test.YthggagophcnkfaaGreatDoorM8
import Derived.Deep.CutBlock
namespace Go.Proofs.YthggagophcnkfaaGreatDoor.px
open Go.RowKit Go.Proofs.YthggagophcnkfaaGreatDoor.agg Go.Proofs.YthggagophcnkfaaGreatDoor.sx Go.Proofs.YthggagophcnkfaaGreatDoor.lx
set_option linter.unusedSimpArgs false
set_option linter.unusedVariables false
def BeginEnd (w : World) (T : ByteArray) (e : Ending) (w' : World) : Prop :=
 ∃ P tv lv, e = .returned (.tuple #[.pointer (some ⟨P, 0, none⟩), .int .i64 0]) ∧ PIn w' P tv lv (src T) ⟨0, []⟩ ∧ (∀ b, pfoot P lv b ∨ tokBlock tv = some b → w.heap.size ≤ b) ∧ Below w.heap.size w w'
theorem tokV_get (L : List Tok) : ∀ {i : Nat} (hi : i < L.length) {j : Nat} {u : Value}, (L[i].cells).toList[j]? = some u → (tokV L)[i * 4 + j]? = some u := by
 induction L with
 | nil => intro i hi; simp at hi
 | cons x l ih =>
  intro i hi j u hu
  have hj : j < 4 := by
   have := (List.getElem?_eq_some_iff.1 hu).1
   simpa [Tok.cells] using this
  have e1 : tokV (x :: l) = x.cells.toList ++ tokV l := by simp [tokV]
  have hx : x.cells.toList.length = 4 := rfl
  rw [e1]
  cases i with
  | zero =>
   rw [List.getElem?_append_left (by omega)]
   simpa using hu
  | succ i =>
   rw [List.getElem?_append_right (by omega), hx]
   have e2 : (i + 1) * 4 + j - 4 = i * 4 + j := by omega
   rw [e2]
   exact ih (by simpa using hi) (by simpa using hu)
theorem TokIn_of_row {w : World} {B : Nat} {tv : Value} {L : List Tok} (h : w.ownsRow B 39 4 tv L.length (tokV L)) (h0 : 0 < L.length) : TokIn w tv L ∧ tokBlock tv = tv.ownBlock := by
 rcases h.2 with ⟨rfl, hn⟩ | ⟨g, cap, cur, rfl, hB, hg, _⟩
 ·omega
 ·refine ⟨⟨g, 0, cap, rfl, lt_of_block hg, fun i hi j u hu => ?_⟩, rfl⟩
  have h1 := h.cells (g := g) rfl (i * 4 + j) u (tokV_get L hi hu)
  simpa [Addr.add_lit] using h1
theorem bat_done {B : Nat} {w : World} {P Pp : Nat} {T : ByteArray} {tv lv : Value} (h : BAt B w P Pp T tv lv (kept T) ((toks T).flatMap (lexDg T))) (hT : T.size ≤ 4096) (hB : B ≤ P) :
 PIn w P tv lv (src T) ⟨0, []⟩ ∧ (∀ b, pfoot P lv b ∨ tokBlock tv = some b → B ≤ b) := by
 have hok := src_ok T hT
 obtain ⟨n1, n2, n3, n4, n5⟩ := h.ne
 obtain ⟨ht, he⟩ := TokIn_of_row h.toks hok.pos
 refine ⟨⟨h.box, ht, fun b hb => ?_, ?_, n3, hok, ⟨hok.pos, by simp, by simp⟩, by simp [Src.last], by simp [Src.found]⟩, ?_⟩
 ·rw [he] at hb
  exact ⟨fun e => n2 (by rw [hb, e]), rows_ne (by decide) h.toks h.list hb⟩
 ·have e1 : (src T).list ⟨0, []⟩ = (toks T).flatMap (lexDg T) := by simp [Src.list, src]
  rw [e1]
  exact ownsRow_base h.list (Nat.zero_le _)
 ·rintro b ((rfl | e) | e)
  ·exact hB
  ·exact (h.list.lt b e).1
  ·rw [he] at e
   exact (h.toks.lt b e).1
theorem row_some {w : World} {b : Nat} {e : TypeId} {s n : Nat} {v : Value} {xs : List Value} (h : w.ownsRow b e s v n xs) (hn : 0 < n) : ∃ g cap, v = .slice (some ⟨g, 0, none⟩) n cap := by
 rcases h.2 with ⟨_, h0⟩ | ⟨g, cap, _, rfl, _⟩
 ·omega
 ·exact ⟨g, cap, rfl⟩
theorem tokV_cell {w : World} {B g n cap : Nat} {L : List Tok} (h : w.ownsRow B 39 4 (.slice (some ⟨g, 0, none⟩) n cap) L.length (tokV L)) {i : Nat} (hi : i < L.length) {j : Nat} {u : Value} (hu : (L[i].cells).toList[j]? = some u) : w.cell? ⟨g, i * 4 + j, none⟩ = some u := by
 obtain ⟨⟨b, o, c, e, _, hc⟩, _⟩ := TokIn_of_row h (by omega)
 have e1 : b = g ∧ o = 0 := by
  simp only [Value.slice.injEq, Option.some.injEq, Addr.mk.injEq] at e
  exact ⟨e.1.1.symm, e.1.2.1.symm⟩
 obtain ⟨rfl, rfl⟩ := e1
 have := hc i hi j u hu
 simpa using this
theorem app_end {B : Nat} {w W0 w' : World} {P Pp : Nat} {T : ByteArray} {tv lv : Value} {ks : List Tok} {ds : List Dg} {t : Tok} {g' cap' : Nat} (h : BAt B w P Pp T tv lv ks ds) (hb : Below w.heap.size w W0) (hgrow : W0.grownBy w' tv.ownBlock)
 (hown : w'.ownsRow B 39 4 (.slice (some ⟨g', 0, none⟩) (ks.length + 1) cap') (ks.length + 1) (tokV ks ++ t.cells.toList)) (hnew : tv.ownBlock = some g' ∨ g' = W0.heap.size) :
 BAt B (w'.setCell ⟨P, 1, none⟩ (.slice (some ⟨g', 0, none⟩) (ks.length + 1) cap')) P Pp T (.slice (some ⟨g', 0, none⟩) (ks.length + 1) cap') lv (ks ++ [t]) ds ∧ Kept (bfoot P tv lv) w (w'.setCell ⟨P, 1, none⟩ (.slice (some ⟨g', 0, none⟩) (ks.length + 1) cap')) := by
 obtain ⟨n1, n2, n3, n4, n5⟩ := h.ne
 have hz := hb.size
 have hkeep : ∀ k o, w.heap[k]? = some o → tv.ownBlock ≠ some k → w'.heap[k]? = some o := fun k o hk h2 =>
  (hgrow.block k (by have := lt_of_block hk; omega) (fun e => h2 e.symm)).trans ((hb.block _ (lt_of_block hk)).trans hk)
 have hgP : g' ≠ P := by
  have hP := lt_of_block h.box
  rcases hnew with e | e
  ·exact fun e2 => n2 (by rw [e, e2])
  ·omega
 refine ⟨⟨?_, ?_, ?_, ?_⟩, ?_⟩
 ·rw [heap_setCell_same _ _ _ _ _ _ (hkeep _ _ h.box n2)]
  exact rfl
 ·exact (heap_setCell_other _ _ _ _ (fun e => n1 e.symm)).trans (hkeep _ _ h.ptr n4)
 ·have e1 : tokV (ks ++ [t]) = tokV ks ++ t.cells.toList := by rw [tokV_app]; simp [tokV]
  rw [e1, List.length_append]
  exact ownsRow_same hown (fun k hk => heap_setCell_other _ _ _ _ (fun e => hgP ((show g' = k by simpa [Value.ownBlock] using hk).trans (show k = P from e))))
 ·refine ownsRow_same h.list (fun k hk => ?_)
  have hk1 : tv.ownBlock ≠ some k := rows_ne (by decide) h.list h.toks hk
  have hk2 := (h.list.lt k hk).2
  exact (heap_setCell_other _ _ _ _ (fun e => n3 (by rw [hk]; exact congrArg some (show k = P from e)))).trans ((hgrow.block k (by omega) (fun e => hk1 e.symm)).trans (hb.block k hk2))
 ·exact ((Kept.of_below hb).trans (Kept.grown hgrow (fun k hk => .inr (.inl hk)))).trans (.setCell _ (.inl rfl) _)
theorem info_tk : (Tryz.prog.info? 39).map (·.size) = some 4 := by kernel_rfl
theorem tok_one (t : Tok) : ∀ u ∈ t.cells.toList, u.oneCell' = true := by
 intro u hu
 simp only [Tok.cells, List.mem_cons, List.not_mem_nil, or_false] at hu
 rcases hu with rfl | rfl | rfl | rfl <;> rfl
theorem foot_ge {B : Nat} {w : World} {P Pp : Nat} {T : ByteArray} {tv lv : Value} {ks : List Tok} {ds : List Dg} (h : BAt B w P Pp T tv lv ks ds) (hP : B ≤ P) : ∀ k, bfoot P tv lv k → B ≤ k ∧ k < w.heap.size := by
 rintro k (rfl | e | e)
 ·exact ⟨hP, lt_of_block h.box⟩
 ·exact h.toks.lt k e
 ·exact h.list.lt k e
set_option maxRecDepth 100000 in
set_option maxHeartbeats 4000000 in
theorem begin_walk (w : World) (h : TabIn w) (T : ByteArray) (hT : T.size ≤ 4096) : Calls Tryz.prog 27 #[.string T] w (BeginEnd w T) := by
 have hS := Lib.hid (scan_walk w h T hT)
 have hN := toks_len' T
 have hNum := Lib.hid (fun (W : World) (hb : Below w.heap.size w W) (t : ByteArray) (ht : t.size ≤ 100000) => Go.Proofs.YthggagophcnkfaaGreatDoor.lx.number_walk W (h.below hb) t ht)
 clear h
 go_enter Tryz.func27, Tryz.ntmps27
 obtain ⟨L, hL⟩ : ∃ L, toks T = L := ⟨_, rfl⟩
 have hLp : 0 < L.length := by
  obtain ⟨init, e, h1, _⟩ := toks_split T
  rw [← hL, h1]; simp
 have hrg : Hid (∀ t ∈ L, t.kind ≤ 5 ∧ t.at_ ≤ t.to ∧ t.to ≤ T.size) := by
  obtain ⟨init, e, h1, _, _, _, h2, _⟩ := toks_split T
  rw [← hL, h1]
  exact h2
 have hL' := Lib.hid hL
 unfold ScanEnd2 at hS
 rw [hL] at hS hN
 clear hL
 go_upto_region 2 with (first
  | (go_at_call 57; refine hS.out.mono ?_; rintro e w1 ⟨v, rfl, hr, hb⟩; obtain ⟨g, cap, rfl⟩ : ∃ g cap, v = .slice (some ⟨g, 0, none⟩) L.length cap := row_some hr hLp; have hr' := Lib.hid hr; have hb' := Lib.hid hb; clear hr hb))
 go_wp2
 have hbat : BAt w1.heap.size ((w1.alloc (.cells #[.string T, .slice none 0 0, .int .i64 0, .int .i64 0, .int .i64 (-1), .slice none 0 0] 79)).alloc (.cells #[.pointer (some ⟨w1.heap.size, 0, none⟩)] 56)) w1.heap.size (w1.heap.size + 1) T (.slice none 0 0) (.slice none 0 0) [] [] := by
  refine ⟨(Below.heap_alloc _ _ _ (by simp)).trans (heap_alloc_new _ _), ?_, World.ownsRow_nil _ _ _ _, World.ownsRow_nil _ _ _ _⟩
  have h1 := heap_alloc_new (w1.alloc (.cells #[.string T, .slice none 0 0, .int .i64 0, .int .i64 0, .int .i64 (-1), .slice none 0 0] 79)) (.cells #[.pointer (some ⟨w1.heap.size, 0, none⟩)] 56)
  rwa [World.size_alloc] at h1
 have hbel : Below w1.heap.size w1 ((w1.alloc (.cells #[.string T, .slice none 0 0, .int .i64 0, .int .i64 0, .int .i64 (-1), .slice none 0 0] 79)).alloc (.cells #[.pointer (some ⟨w1.heap.size, 0, none⟩)] 56)) := ((Below.refl _ _).alloc (Nat.le_refl _) _).alloc (by simp) _
 have hbat' := Lib.hid hbat
 have hbel' := Lib.hid hbel
 clear hbat hbel
 go_loopw [26] (fun i wr => ∃ (j : Nat) (tv lv : Value), j ≤ L.length ∧ i = .int .i64 j ∧ BAt w1.heap.size wr w1.heap.size (w1.heap.size + 1) T tv lv ((L.take j).filter (fun t => t.kind != 5)) ((L.take j).flatMap (lexDg T)) ∧ Below w1.heap.size w1 wr) (fun i wr => L.length - (intOf i).toNat)
 case atStart => exact ⟨0, _, _, by omega, rfl, by simpa using hbat'.out, hbel'.out⟩
 case round =>
  obtain ⟨j, tv, lv, hj, rfl, hba, hbe⟩ := hrel
  have hba' := Lib.hid hba
  have hbe' := Lib.hid hbe
  clear hba hbe
  by_cases hlt : j < L.length
  ·obtain ⟨t, ht⟩ : ∃ t, L[j] = t := ⟨_, rfl⟩
   have hmt := hrg.out t (ht ▸ List.getElem_mem hlt)
   have hrw := ownsRow_same (w' := wr) hr'.out (fun k hk => hbe'.out.block k (hr'.out.lt k hk).2)
   have y : ∀ q u, t.cells.toList[q]? = some u → wr.cell? ⟨g, j * 4 + q, none⟩ = some u := fun q u hu => tokV_cell (L := L) hrw hlt (by rw [ht]; exact hu)
   have y0 := y 0 _ rfl
   have y1 := y 1 _ rfl
   have y2 := y 2 _ rfl
   have y3 := y 3 _ rfl
   simp only [Nat.add_zero] at y0
   have htk : Hid (L.take (j + 1) = L.take j ++ [t]) := by
    rw [← ht]
    exact List.take_succ_eq_append_getElem hlt
   have hdl : ((L.take j).flatMap (lexDg T)).length ≤ 5000 := by
    have h1 := lexDgs_len T (L.take j)
    have h2 : (L.take j).length ≤ j := List.length_take_le _ _
    omega
   obtain ⟨hk5, hat, hto⟩ := hmt
   clear hrw y ht
   go_upto_block 2 with fail
   have hft := foot_ge hba'.out (Nat.le_refl _)
   have hV0 := Lib.hid (hba'.out.below ((Below.refl _ wr).alloc (Nat.le_refl _) (.cells #[.int .i64 t.kind, .int .i64 t.fr, .int .i64 t.at_, .int .i64 t.to] 39)))
   have hbV0 := Lib.hid (hbe'.out.alloc hbe'.out.size (.cells #[.int .i64 t.kind, .int .i64 t.fr, .int .i64 t.at_, .int .i64 t.to] 39))
   have hV0t : (wr.alloc (.cells #[.int .i64 t.kind, .int .i64 t.fr, .int .i64 t.at_, .int .i64 t.to] 39)).heap[wr.heap.size]? = some (.cells t.cells 39 (0, 0)) := heap_alloc_new _ _
   have hV0t' := Lib.hid hV0t
   have hft0 : Hid (¬ bfoot w1.heap.size tv lv wr.heap.size) := fun e => by have := (hft _ e).2; omega
   have hwr : w1.heap.size ≤ wr.heap.size := hbe'.out.size
   clear y0 y1 y2 y3 hV0t
   generalize wr.alloc _ = V0 at *
   have hnote := Lib.hid (fun (code : Int) => note_walk hV0.out hbV0.out.size hdl wr.heap.size t hV0t'.out code)
   obtain ⟨wd, hwd⟩ : ∃ wd, T.extract t.at_ t.to = wd := ⟨_, rfl⟩
   have hws : wd.size ≤ t.to - t.at_ ∧ t.to - t.at_ ≤ wd.size := by rw [← hwd, ByteArray.size_extract]; omega
   have hlx : Hid (lexDg T t = if t.kind = 5 then [⟨1, t.at_, t.to, ⟨#[]⟩⟩] else if t.kind = 3 then (if numberB wd.data.toList then [] else [⟨2, t.at_, t.to, ⟨#[]⟩⟩]) else if t.kind = 1 then (if 16 < t.to - t.at_ then [⟨3, t.at_, t.to, ⟨#[]⟩⟩] else []) else []) := by rw [← hwd]; rfl
   rw [hwd]
   clear hwd
   obtain ⟨hw1, hw2⟩ := hws
   have hds : Hid ((L.take (j + 1)).flatMap (lexDg T) = (L.take j).flatMap (lexDg T) ++ lexDg T t) := Lib.hid (by rw [htk.out, List.flatMap_append]; simp)
   generalize (L.take j).flatMap (lexDg T) = ds at *
   go_cut [72] from 39 (fun s72 V => s72 = undef ∧ ∃ (lv' : Value) (ds' : List Dg), BAt w1.heap.size V w1.heap.size (w1.heap.size + 1) T tv lv' ((L.take j).filter (fun t => t.kind != 5)) ds' ∧ ds' = ds ++ lexDg T t ∧ V.heap[wr.heap.size]? = some (.cells t.cells 39 (0, 0)) ∧ Below w1.heap.size w1 V ∧ t.kind ≠ 5)
   case first =>
    have hnend := Lib.hid (fun (V1 : World) (hk1 : Kept (bfoot w1.heap.size tv lv) V0 V1) => (show V1.heap[wr.heap.size]? = some (.cells t.cells 39 (0, 0)) ∧ Below w1.heap.size w1 V1 from
     ⟨(hk1.block _ (lt_of_block hV0t'.out) hft0.out).trans hV0t'.out, hbV0.out.trans (hk1.below w1.heap.size hbV0.out.size (fun i hi => (hft i hi).1))⟩))
    by_cases k5 : t.kind = 5
    ·have hki : ((t.kind : Int) == 5) = true := by rw [k5]; rfl
     rw [if_pos k5] at hlx
     have k5' := Lib.hid k5
     clear k5 hft
     go_wp2_with (go_at_call 58; refine (hnote.out _).mono ?_; rintro e V1 ⟨lv', rfl, hb1, hk1⟩; have hb1' := Lib.hid hb1; have hk1' := Lib.hid hk1; clear hb1 hk1)
     have hne := Lib.hid (hnend.out _ hk1'.out)
     go_roundw
     case rel =>
      refine ⟨j + 1, tv, lv', by omega, by go_num, ?_, hne.out.2⟩
      rw [hds.out, hlx.out, htk.out, List.filter_append, List.filter_cons_of_neg (by rw [k5'.out]; decide), List.filter_nil, List.append_nil]
      exact hb1'.out
     case measure => simp [intOf]; omega
    ·have hki : ((t.kind : Int) == 5) = false := by simp; omega
     rw [if_neg k5] at hlx
     have k5' := Lib.hid k5
     clear k5
     by_cases k3 : t.kind = 3
     ·have hki3 : ((t.kind : Int) == 3) = true := by rw [k3]; rfl
      rw [if_pos k3] at hlx
      have hn := Lib.hid (hNum.out V0 (hb'.out.trans (hbV0.out.mono hb'.out.size)) wd (by omega))
      clear k3
      cases hnb : numberB wd.data.toList with
      | true =>
       rw [hnb] at hn hlx
       clear hnb hft
       go_wp2_with (go_at_call 59; refine hn.out.mono ?_; rintro e V1 ⟨nn, rfl, hb1⟩; have hb1' := Lib.hid hb1; clear hb1)
       go_meet
       case rel => exact ⟨rfl, lv, _, hV0.out.below hb1'.out, by rw [hlx.out]; simp, (hb1'.out.block _ (lt_of_block hV0t'.out)).trans hV0t'.out, hbV0.out.trans (hb1'.out.mono hbV0.out.size), k5'.out⟩
      | false =>
       rw [hnb] at hn hlx
       clear hnb hnote
       go_upto_region 16 with (go_at_call 59; refine hn.out.mono ?_; rintro e V1 ⟨nn, rfl, hb1⟩; have hb1' := Lib.hid hb1; clear hb1)
       have hVa := Lib.hid (hV0.out.below hb1'.out)
       have hta : V1.heap[wr.heap.size]? = some (.cells t.cells 39 (0, 0)) := (hb1'.out.block _ (lt_of_block hV0t'.out)).trans hV0t'.out
       have hta' := Lib.hid hta
       have hbVa := Lib.hid (hbV0.out.trans (hb1'.out.mono hbV0.out.size))
       have hnote2 := Lib.hid (fun (code : Int) => note_walk hVa.out hbVa.out.size hdl wr.heap.size t hta code)
       clear hta hft
       go_wp2_with (go_at_call 58; refine (hnote2.out _).mono ?_; rintro e V2 ⟨lv', rfl, hb1, hk1⟩; have hb2' := Lib.hid hb1; have hk1' := Lib.hid hk1; clear hb1 hk1)
       go_meet
       case rel => exact ⟨rfl, lv', _, hb2'.out, by rw [hlx.out, if_neg (by simp)], (hk1'.out.block _ (lt_of_block hta'.out) hft0.out).trans hta'.out, hbVa.out.trans (hk1'.out.below w1.heap.size hbVa.out.size (fun i hi => (foot_ge hVa.out (Nat.le_refl _) i hi).1)), k5'.out⟩
     ·have hki3 : ((t.kind : Int) == 3) = false := by simp; omega
      rw [if_neg k3] at hlx
      by_cases k1 : t.kind = 1
      ·have hki1 : ((t.kind : Int) == 1) = true := by rw [k1]; rfl
       rw [if_pos k1] at hlx
       clear k1 k3
       by_cases h16 : 16 < t.to - t.at_
       ·rw [if_pos h16] at hlx
        have h17 : 16 < wd.size := by omega
        clear h16
        go_wp2_with (go_at_call 58; refine (hnote.out _).mono ?_; rintro e V1 ⟨lv', rfl, hb1, hk1⟩; have hb1' := Lib.hid hb1; have hk1' := Lib.hid hk1; clear hb1 hk1)
        have hne := Lib.hid (hnend.out _ hk1'.out)
        go_meet
        case rel => exact ⟨rfl, lv', _, hb1'.out, by rw [hlx.out], hne.out.1, hne.out.2, k5'.out⟩
       ·rw [if_neg h16] at hlx
        have h17 : ¬ 16 < wd.size := by omega
        clear h16 hft
        go_wp2_with fail
        go_meet
        case rel => exact ⟨rfl, lv, _, hV0.out, by rw [hlx.out]; simp, hV0t'.out, hbV0.out, k5'.out⟩
      ·have hki1 : ((t.kind : Int) == 1) = false := by simp; omega
       rw [if_neg k1] at hlx
       clear k1 k3 hft
       go_wp2_with fail
       go_meet
       case rel => exact ⟨rfl, lv, _, hV0.out, by rw [hlx.out]; simp, hV0t'.out, hbV0.out, k5'.out⟩
   case rest =>
    obtain ⟨rfl, lv', ds', hbV1, rfl, hVt1, hbV2, hk5'⟩ := hcut
    obtain ⟨i0, hi, hz0, hz1, hz2⟩ := info_parts tokInfo
    obtain ⟨cp, c1, _, _⟩ := hbV1.cell
    have hown := hbV1.toks
    have hn := hbV1.ne.2.1
    have hn2 := hbV1.ne.2.2.2.1
    have hn3 : tv.ownBlock ≠ some wr.heap.size := fun e => by have := (hft _ (.inr (.inl e))).2; omega
    have hV := Lib.hid hbV1
    have hVt := Lib.hid hVt1
    have hbV := Lib.hid hbV2
    have hPp := lt_of_block hbV1.ptr
    have hZV := lt_of_block hVt1
    have hP0 := lt_of_block hbV1.box
    have hks : Hid ((L.take (j + 1)).filter (fun t => t.kind != 5) = (L.take j).filter (fun t => t.kind != 5) ++ [t]) := by
     unfold Hid
     rw [htk.out, List.filter_append, List.filter_cons_of_pos (by simpa using hk5'), List.filter_nil]
    have hwne : w1.heap.size + 1 ≤ wr.heap.size := by
     have := lt_of_block hba'.out.ptr
     omega
    have hklen : ((L.take j).filter (fun t => t.kind != 5)).length ≤ 5000 := by
     have h1 := List.length_filter_le (fun t : Tok => t.kind != 5) (L.take j)
     have h2 : (L.take j).length ≤ j := List.length_take_le _ _
     omega
    generalize (L.take j).filter (fun t => t.kind != 5) = ks at *
    clear hbV1 hVt1 hbV2 hft hft0 hV0 hV0t' hbV0 hnote hlx
    go_upto_region 20 with fail
    refine wp_region_held_drew (S := fun u => u.cell? ⟨w1.heap.size + 1, 0, none⟩ = some (.pointer (some ⟨w1.heap.size, 0, none⟩)) ∧ u.heap[wr.heap.size]? = some (.cells t.cells 39 (0, 0))) (by kernel_rfl) ⟨cp, hVt.out⟩ (fun hHeld => ?_)
    have c1d : wc.drew.cell? ⟨w1.heap.size, 1, none⟩ = some tv := c1
    have hz : wc.drew.heap.size = wc.heap.size := rfl
    have hal : ∀ o, (wc.alloc o).drew.cell? ⟨w1.heap.size + 1, 0, none⟩ = some (.pointer (some ⟨w1.heap.size, 0, none⟩)) ∧ (wc.alloc o).drew.heap[wr.heap.size]? = some (.cells t.cells 39 (0, 0)) := fun o =>
     ⟨(((Below.refl _ wc).alloc (Nat.le_refl _) o).cell (p := ⟨w1.heap.size + 1, 0, none⟩) hPp).trans cp, (Below.heap_alloc wc o _ hZV).trans hVt.out⟩
    have c1a : ∀ o, (wc.alloc o).drew.cell? ⟨w1.heap.size, 1, none⟩ = some tv := fun o => (((Below.refl _ wc).alloc (Nat.le_refl _) o).cell (p := ⟨w1.heap.size, 1, none⟩) hP0).trans c1
    refine tk (i := 0) (v := .pointer (some ⟨w1.heap.size, 0, none⟩)) rfl hHeld ?_
    try simp only [Act.put, kA, kB, kC, kD, kE, kF]
    refine tk (i := 1) (v := .pointer (some ⟨w1.heap.size, 0, none⟩)) rfl hHeld ?_
    try simp only [Act.put, kA, kB, kC, kD, kE, kF]
    refine tk (i := 2) (v := .pointer (some ⟨w1.heap.size, 0, none⟩)) rfl hHeld ?_
    try simp only [Act.put, kA, kB, kC, kD, kE, kF]
    refine tk (i := 3) (v := .pointer (some ⟨w1.heap.size, 1, none⟩)) rfl hHeld ?_
    try simp only [Act.put, kA, kB, kC, kD, kE, kF]
    refine tk (i := 5) (v := .agg #[.int .i64 t.kind, .int .i64 t.fr, .int .i64 t.at_, .int .i64 t.to]) (hy := yieldsIf_load_mid (by rfl) _ _ rfl _ _ rfl [.int .i64 t.kind, .int .i64 t.fr, .int .i64 t.at_, .int .i64 t.to] _ (fun _ h => rangeAt_whole h.2) Tryz.underlying39 rfl info_tk) rfl hHeld ?_
    try simp only [Act.put, kA, kB, kC, kD, kE, kF]
    refine wpAnyH_ready (rs := [4, 6]) (by kernel_rfl) (by simp) ?_
    refine AllReadyH.cons rfl (fun K hK => ?_) (AllReadyH.cons rfl (fun K hK => ?_) AllReadyH.nil)
    ·rw [if_pos (by rfl)]
     go_simp
     refine hK.out _ _ hHeld (fun hHeld => ?_)
     clear hK K
     try simp only [Act.put, kA, kB, kC, kD, kE, kF]
     refine wpAnyH_ready (rs := [6]) (by kernel_rfl) (by simp) ?_
     refine AllReadyH.cons rfl (fun K hK => ?_) AllReadyH.nil
     rw [if_pos (by rfl)]
     go_simp
     refine hK.out _ _ (hal _) (fun hHeld => ?_)
     clear hK K
     try simp only [Act.put, kA, kB, kC, kD, kE, kF]
     refine wpAnyH_ready (rs := [7]) (by kernel_rfl) (by simp) ?_
     refine AllReadyH.cons rfl (fun K hK => ?_) AllReadyH.nil
     rw [if_pos (by rfl)]
     refine wp_append_mine (.tmp 65) (.tmp 67) 35 rfl w1.heap.size 39 i0 _ 4 32 Tryz.underlying35 hi hz0 hz1 hz2 (by decide) tv _ _ rfl ((hown.alloc _).drew) ⟨wc.heap.size, 0, none⟩ 1 1 t.cells.toList rfl rfl (by omega) (cells_new wc t.cells _) (tok_one _) (by unfold maxLen; omega) (by omega) (by simp; omega) ?_
     intro g' cap' w' hown' hgrow hnew
     have hkW : ∀ k o, wc.heap[k]? = some o → tv.ownBlock ≠ some k → w'.heap[k]? = some o := fun k o hk h2 => (hgrow.block k (by have := lt_of_block hk; simp; omega) (fun e => h2 e.symm)).trans ((Below.heap_alloc _ _ _ (lt_of_block hk)).trans hk)
     have hbx' := hkW _ _ hV.out.box hn
     have hpx' := hkW _ _ hV.out.ptr hn2
     have htx' := hkW _ _ hVt.out hn3
     refine hK.out _ _ ⟨(cell_of_row _ _ _ _ _ _ hpx').trans rfl, htx'⟩ (fun hHeld => ?_)
     clear hK K
     try simp only [Act.put, kA, kB, kC, kD, kE, kF]
     refine tk (i := 8) (v := .pointer (some ⟨w1.heap.size, 0, none⟩)) rfl hHeld ?_
     try simp only [Act.put, kA, kB, kC, kD, kE, kF]
     refine tk (i := 9) (v := .pointer (some ⟨w1.heap.size, 1, none⟩)) rfl hHeld ?_
     try simp only [Act.put, kA, kB, kC, kD, kE, kF]
     have c1' : w'.cell? ⟨w1.heap.size, 1, none⟩ = some tv := (cell_of_row _ _ _ _ _ _ hbx').trans rfl
     have f1' : w'.frozen? ⟨w1.heap.size, 1, none⟩ = false := by simp [World.frozen?, hbx']
     refine wpAnyH_ready (rs := [10]) (by kernel_rfl) (by simp) ?_
     refine AllReadyH.cons rfl (fun K hK => ?_) AllReadyH.nil
     rw [if_pos (by rfl)]
     go_simp
     have hP2 : ∀ k o, wc.heap[k]? = some o → tv.ownBlock ≠ some k → k ≠ w1.heap.size → (w'.setCell ⟨w1.heap.size, 1, none⟩ (.slice (some ⟨g', 0, none⟩) (ks.length + 1) cap')).heap[k]? = some o := fun k o hk h2 h3 => (heap_setCell_other _ _ _ _ (fun e => h3 e)).trans (hkW k o hk h2)
     have htx2 := hP2 _ _ hVt.out hn3 (by omega)
     have hpx2 := hP2 _ _ hV.out.ptr hn2 (by omega)
     refine hK.out _ _ ⟨(cell_of_row _ _ _ _ _ _ hpx2).trans rfl, htx2⟩ (fun hHeld => ?_)
     clear hK K
     try simp only [Act.put, kA, kB, kC, kD, kE, kF]
     refine wpAnyH_done (by kernel_rfl) ?_ _
     clear hHeld
     obtain ⟨q1, q2⟩ := app_end (t := t) hV.out ((Below.refl _ wc).alloc (Nat.le_refl _) _).drew hgrow hown' hnew
     have q1' := Lib.hid q1
     have q2' := Lib.hid (hbV.out.trans (q2.below w1.heap.size hbV.out.size (fun i hi => (foot_ge hV.out (Nat.le_refl _) i hi).1)))
     clear q1 q2 hkW hbx' hpx' htx' hP2 htx2 hpx2 c1' f1' hown' hgrow hnew
     go_wp2
     go_roundw
     case rel => exact ⟨j + 1, _, lv', by omega, by go_num, by rw [hds.out, hks.out]; exact q1'.out, q2'.out⟩
     case measure => simp [intOf]; omega
    ·rw [if_pos (by rfl)]
     go_simp
     refine hK.out _ _ (hal _) (fun hHeld => ?_)
     clear hK K
     try simp only [Act.put, kA, kB, kC, kD, kE, kF]
     refine wpAnyH_ready (rs := [4]) (by kernel_rfl) (by simp) ?_
     refine AllReadyH.cons rfl (fun K hK => ?_) AllReadyH.nil
     rw [if_pos (by rfl)]
     go_simp
     refine hK.out _ _ hHeld (fun hHeld => ?_)
     clear hK K
     try simp only [Act.put, kA, kB, kC, kD, kE, kF]
     refine wpAnyH_ready (rs := [7]) (by kernel_rfl) (by simp) ?_
     refine AllReadyH.cons rfl (fun K hK => ?_) AllReadyH.nil
     rw [if_pos (by rfl)]
     refine wp_append_mine (.tmp 65) (.tmp 67) 35 rfl w1.heap.size 39 i0 _ 4 32 Tryz.underlying35 hi hz0 hz1 hz2 (by decide) tv _ _ rfl ((hown.alloc _).drew) ⟨wc.heap.size, 0, none⟩ 1 1 t.cells.toList rfl rfl (by omega) (cells_new wc t.cells _) (tok_one _) (by unfold maxLen; omega) (by omega) (by simp; omega) ?_
     intro g' cap' w' hown' hgrow hnew
     have hkW : ∀ k o, wc.heap[k]? = some o → tv.ownBlock ≠ some k → w'.heap[k]? = some o := fun k o hk h2 => (hgrow.block k (by have := lt_of_block hk; simp; omega) (fun e => h2 e.symm)).trans ((Below.heap_alloc _ _ _ (lt_of_block hk)).trans hk)
     have hbx' := hkW _ _ hV.out.box hn
     have hpx' := hkW _ _ hV.out.ptr hn2
     have htx' := hkW _ _ hVt.out hn3
     refine hK.out _ _ ⟨(cell_of_row _ _ _ _ _ _ hpx').trans rfl, htx'⟩ (fun hHeld => ?_)
     clear hK K
     try simp only [Act.put, kA, kB, kC, kD, kE, kF]
     refine tk (i := 8) (v := .pointer (some ⟨w1.heap.size, 0, none⟩)) rfl hHeld ?_
     try simp only [Act.put, kA, kB, kC, kD, kE, kF]
     refine tk (i := 9) (v := .pointer (some ⟨w1.heap.size, 1, none⟩)) rfl hHeld ?_
     try simp only [Act.put, kA, kB, kC, kD, kE, kF]
     have c1' : w'.cell? ⟨w1.heap.size, 1, none⟩ = some tv := (cell_of_row _ _ _ _ _ _ hbx').trans rfl
     have f1' : w'.frozen? ⟨w1.heap.size, 1, none⟩ = false := by simp [World.frozen?, hbx']
     refine wpAnyH_ready (rs := [10]) (by kernel_rfl) (by simp) ?_
     refine AllReadyH.cons rfl (fun K hK => ?_) AllReadyH.nil
     rw [if_pos (by rfl)]
     go_simp
     have hP2 : ∀ k o, wc.heap[k]? = some o → tv.ownBlock ≠ some k → k ≠ w1.heap.size → (w'.setCell ⟨w1.heap.size, 1, none⟩ (.slice (some ⟨g', 0, none⟩) (ks.length + 1) cap')).heap[k]? = some o := fun k o hk h2 h3 => (heap_setCell_other _ _ _ _ (fun e => h3 e)).trans (hkW k o hk h2)
     have htx2 := hP2 _ _ hVt.out hn3 (by omega)
     have hpx2 := hP2 _ _ hV.out.ptr hn2 (by omega)
     refine hK.out _ _ ⟨(cell_of_row _ _ _ _ _ _ hpx2).trans rfl, htx2⟩ (fun hHeld => ?_)
     clear hK K
     try simp only [Act.put, kA, kB, kC, kD, kE, kF]
     refine wpAnyH_done (by kernel_rfl) ?_ _
     clear hHeld
     obtain ⟨q1, q2⟩ := app_end (t := t) hV.out ((Below.refl _ wc).alloc (Nat.le_refl _) _).drew hgrow hown' hnew
     have q1' := Lib.hid q1
     have q2' := Lib.hid (hbV.out.trans (q2.below w1.heap.size hbV.out.size (fun i hi => (foot_ge hV.out (Nat.le_refl _) i hi).1)))
     clear q1 q2 hkW hbx' hpx' htx' hP2 htx2 hpx2 c1' f1' hown' hgrow hnew
     go_wp2
     go_roundw
     case rel => exact ⟨j + 1, _, lv', by omega, by go_num, by rw [hds.out, hks.out]; exact q1'.out, q2'.out⟩
     case measure => simp [intOf]; omega
  ·obtain rfl : j = L.length := by omega
   obtain ⟨cp, _, _, _⟩ := hba'.out.cell
   go_wp2
   go_ret2
   have hq := hba'.out
   rw [List.take_length, ← hL'.out] at hq
   obtain ⟨q1, q2⟩ := bat_done (B := w1.heap.size) hq hT (Nat.le_refl _)
   exact ⟨w1.heap.size, tv, lv, rfl, q1, fun b hb => Nat.le_trans hb'.out.size (q2 b hb), hb'.out.trans (hbe'.out.mono hb'.out.size)⟩
end Go.Proofs.YthggagophcnkfaaGreatDoor.px
