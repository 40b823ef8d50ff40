/- The walk of the reference parser's Sorted. -/
import Derived.Test.YthggagophcnkfaaGreatDoorM45
import Derived.Test.YthggagophcnkfaaGreatDoorM8
import Derived.Test.YthggagophcnkfaaGreatDoorM31
import Derived.Test.YthggagophcnkfaaGreatDoorM11
import Derived.Test.YthggagophcnkfaaGreatDoorM35
import Derived.BigQuiet
import Derived.WalkSpells
namespace Go.Proofs.YthggagophcnkfaaGreatDoor.py
open Go.RowKit Go.Proofs.YthggagophcnkfaaGreatDoor.agg Go.Proofs.YthggagophcnkfaaGreatDoor.sx Go.Proofs.YthggagophcnkfaaGreatDoor.px Go.Proofs.YthggagophcnkfaaGreatDoor.so
set_option linter.unusedSimpArgs false
set_option linter.unusedVariables false
theorem put_at {d : Dg} {A B : List Dg} (hA : ∀ x ∈ A, x.at_ ≤ d.at_) (hB : ∀ x ∈ B, d.at_ < x.at_) : put d (A ++ B) = A ++ d :: B := by
 induction A with
 | nil =>
  cases B with
  | nil => rfl
  | cons x B =>
   show put d (x :: B) = _
   rw [put, if_pos (hB x List.mem_cons_self)]
   rfl
 | cons a A ih =>
  show put d (a :: (A ++ B)) = _
  have h1 := hA a List.mem_cons_self
  rw [put, if_neg (by omega), ih (fun x hx => hA x (List.mem_cons_of_mem _ hx))]
  rfl
theorem sortD_snoc (l : List Dg) (d : Dg) : sortD (l ++ [d]) = put d (sortD l) := by
 unfold sortD
 rw [List.foldl_append]
 rfl
def DRow (w : World) (b : Nat) (l : List Dg) : Prop := ∀ j u, (dgV l)[j]? = some u → b < w.heap.size ∧ w.cell? ⟨b, j, none⟩ = some u
theorem DRow.below {w w' : World} {b : Nat} {l : List Dg} (h : DRow w b l) (hb : Below w.heap.size w w') : DRow w' b l := fun j u hu => by
 obtain ⟨h1, h2⟩ := h j u hu
 exact ⟨Nat.lt_of_lt_of_le h1 hb.size, (hb.cell (p := ⟨b, j, none⟩) h1).trans h2⟩
theorem dgV_take (l : List Dg) {k : Nat} (hk : k ≤ l.length) : dgV (l.take k) = (dgV l).take (k * 4) ∧ dgV (l.drop k) = (dgV l).drop (k * 4) := by
 have e : dgV l = dgV (l.take k) ++ dgV (l.drop k) := by rw [← dgV_app, List.take_append_drop]
 have e2 : (dgV (l.take k)).length = k * 4 := by rw [dgV_len, List.length_take, Nat.min_eq_left hk]
 rw [e, ← e2]
 exact ⟨List.take_left.symm, List.drop_left.symm⟩
theorem DRow.take {w : World} {b : Nat} {l : List Dg} (h : DRow w b l) {k c : Nat} (hk : k ≤ l.length) (hl : b < w.heap.size) : ReadsAt w (.slice (some ⟨b, 0, none⟩) k c) k (dgV (l.take k)) :=
 ⟨_, _, rfl, fun _ => ⟨b, 0, rfl, hl, fun j u hu => by
  rw [(dgV_take l hk).1] at hu
  have := (h j u (by rw [List.getElem?_take] at hu; split at hu <;> simp_all)).2
  simpa [Addr.add_lit] using this⟩⟩
theorem DRow.drop {w : World} {b : Nat} {l : List Dg} (h : DRow w b l) {k m c : Nat} (hk : k ≤ l.length) (hl : b < w.heap.size) : ReadsAt w (.slice (some ⟨b, k * 4, none⟩) m c) m (dgV (l.drop k)) :=
 ⟨_, _, rfl, fun _ => ⟨b, k * 4, rfl, hl, fun j u hu => by
  rw [(dgV_take l hk).2, List.getElem?_drop] at hu
  have := (h _ u hu).2
  simpa [Addr.add_lit] using this⟩⟩
theorem DRow.get {w : World} {b : Nat} {l : List Dg} (h : DRow w b l) {i : Nat} (hi : i < l.length) : w.rangeAt b (i * 4) l[i].cells.toList := fun q u hu => (h _ u (dgV_get l hi hu)).2
theorem DRow.of_row {w : World} {B g n cap : Nat} {l : List Dg} (h : w.ownsRow B 34 4 (.slice (some ⟨g, 0, none⟩) n cap) n (dgV l)) : DRow w g l := fun j u hu => ⟨(h.lt g rfl).2, by
 have := h.cells (g := g) rfl j u hu
 simpa [Addr.add_lit] using this⟩
theorem reads_one (w : World) (d : Dg) : ReadsAt (w.alloc (.cells d.cells 34)) (.slice (some ⟨w.heap.size, 0, none⟩) 1 1) 1 d.cells.toList :=
 ⟨_, _, rfl, fun _ => ⟨_, _, rfl, by simp, cells_new w d.cells 34⟩⟩
theorem dgV_ones (l : List Dg) : ∀ u ∈ dgV l, u.oneCell' = true := fun u hu => by
 obtain ⟨d, _, hu⟩ := List.mem_flatMap.1 hu
 exact dg_one d u hu
theorem RowB.reads {B : Nat} {w : World} {v : Value} {n : Nat} {C : List Dg} (h : RowB B w 34 4 v n (dgV C)) : ReadsAt w v n (dgV C) := by
 rcases h with ⟨rfl, h2, hv⟩ | h
 ·rcases hv with rfl | ⟨k, rfl⟩
  ·exact ⟨_, _, rfl, fun e => absurd e (by decide)⟩
  ·exact ⟨_, _, rfl, fun e => absurd e (by decide)⟩
 ·rcases h.2 with ⟨rfl, h0⟩ | ⟨g, cap, cur, rfl, _⟩
  ·exact ⟨none, 0, by rw [h0], fun e => by omega⟩
  ·refine ⟨_, _, rfl, fun e => ⟨g, 0, rfl, (h.lt g rfl).2, fun j u hu => ?_⟩⟩
   have := h.cells (g := g) rfl j u hu
   simpa [Addr.add_lit] using this
theorem reads_kept {W w' : World} {d : Dg} {F : Nat → Prop} {n : Nat} (hk : Kept F W w') (hn : W.heap[n]? = some (.cells d.cells 34 (0, 0))) (hF : ¬ F n) : ReadsAt w' (.slice (some ⟨n, 0, none⟩) 1 1) 1 d.cells.toList := by
 have hlt := lt_of_block hn
 refine ⟨_, _, rfl, fun _ => ⟨_, _, rfl, Nat.lt_of_lt_of_le hlt hk.size, fun j u hu => ?_⟩⟩
 have h1 := rangeAt_whole hn j u hu
 rw [Addr.add_lit]
 exact (World.cell?_of_block (a := ⟨n, _, none⟩) (hk.block _ hlt hF)).trans h1
theorem own_ne {v : Value} {g n q cap : Nat} (hv : v = .slice (some ⟨g, 0, none⟩) q cap) (h : g ≠ n) : ¬ v.ownBlock = some n := by
 subst hv
 exact fun e => h (Option.some.inj e)
theorem RowB.shape {B : Nat} {w : World} {ao : Option Addr} {n cap : Nat} {l : List Dg} (h : RowB B w 34 4 (.slice ao n cap) n (dgV l)) (hn : 0 < n) : ∃ g, ao = some ⟨g, 0, none⟩ ∧ n ≤ cap ∧ g < w.heap.size ∧ DRow w g l ∧ B ≤ g := by
 rcases h with ⟨rfl, _⟩ | h
 ·omega
 ·obtain ⟨a2, c2, e, hc⟩ := own_shape h
  obtain ⟨rfl, rfl⟩ : ao = a2 ∧ cap = c2 := by simpa using e
  rcases h.2 with ⟨_, h0⟩ | ⟨g, cap', cur, e2, hg, hb, _⟩
  ·omega
  ·obtain ⟨rfl, rfl⟩ : ao = some ⟨g, 0, none⟩ ∧ cap = cap' := by simpa using e2
   exact ⟨g, rfl, hc, lt_of_block hb, .of_row h, hg⟩
theorem cells4 {w : World} {b o : Nat} {d : Dg} (h : w.rangeAt b o d.cells.toList) : w.cell? ⟨b, o, none⟩ = some (.int .i64 d.code) ∧ w.cell? ⟨b, o + 1, none⟩ = some (.int .i64 d.at_) ∧ w.cell? ⟨b, o + 2, none⟩ = some (.int .i64 d.to) ∧ w.cell? ⟨b, o + 3, none⟩ = some (.string d.text) :=
 ⟨h 0 _ rfl, h 1 _ rfl, h 2 _ rfl, h 3 _ rfl⟩
set_option maxRecDepth 100000 in
set_option maxHeartbeats 4000000 in
theorem rsorted_walk (w : World) (v : Value) (l : List Dg) (h : DgsIn w v l) (hl : l.length < 1000000) :
 Calls Tryz.prog 39 #[v] w fun e w' => ∃ b cap, e = .returned (.slice (some ⟨b, 0, none⟩) (sortD l).length cap) ∧ w.heap.size ≤ b ∧ b < w'.heap.size ∧ DRow w' b (sortD l) ∧ Below w.heap.size w w' := by
 obtain ⟨ao, cpl, rfl, hc⟩ := h
 have hc' := Lib.hid hc
 clear hc
 obtain ⟨i0, hi, hz0, hz1, hz2⟩ := info_parts info_dg
 go_enter Tryz.func39, Tryz.ntmps39
 go_wp2_with fail
 go_loopw [3, 4] (fun o i wr => ∃ (j b cap : Nat) (acc : List Dg), i = .int .i64 j ∧ j ≤ l.length ∧ o = .slice (some ⟨b, 0, none⟩) j cap ∧ j ≤ cap ∧ Hid (acc.length = j) ∧ (b < wr.heap.size ∧ w.heap.size ≤ b) ∧ Hid (acc = sortD (l.take j)) ∧ Hid (DRow wr b acc) ∧ Hid (Below w.heap.size w wr)) (fun _ i _ => l.length - (intOf i).toNat)
 case atStart => exact ⟨0, w.heap.size, 0, [], rfl, Nat.zero_le _, rfl, Nat.le_refl _, Lib.hid rfl, ⟨by simp, Nat.le_refl _⟩, Lib.hid (by simp [sortD]), Lib.hid (fun j u hu => by simp [dgV] at hu), Lib.hid ((Below.refl _ w).alloc (Nat.le_refl _) _)⟩
 case round =>
  obtain ⟨j, b, cap, acc, rfl, hj, rfl, hcap, hal, ⟨hbz, hbge⟩, hacc, hrow, hbel⟩ := hrel
  by_cases hlt : j < l.length
  ·obtain ⟨d, hd⟩ : ∃ d, l[j] = d := ⟨_, rfl⟩
   obtain ⟨b1, o1, rfl, hb1, hr1⟩ := hc'.out j hlt
   rw [hd] at hr1
   have hrl := Lib.hid (range_below hr1 hb1 hbel.out)
   have hcell := Lib.hid (fun (u : World) (hu : Below w.heap.size w u) => cells4 (range_below hr1 hb1 hu))
   have x1 : wr.cell? ⟨b1, o1 + j * 4 + 1, none⟩ = some (.int .i64 d.at_) := hrl.out 1 _ rfl
   have hsrt : Srt acc := by rw [hacc.out]; exact sortD_srt _
   have hnext : Hid (sortD (l.take (j + 1)) = put d acc) := by
    unfold Hid
    rw [List.take_succ_eq_append_getElem hlt, hd, sortD_snoc, ← hacc.out]
   have hsrt' := Lib.hid hsrt
   have hbz1 := hbel.out.size
   clear hr1 hd hsrt hacc
   go_upto_block 2 with fail
   go_cut [5] from 8 to 51 (fun kv V => ∃ (k : Nat) (A C : List Dg), kv = .int .i64 k ∧ Hid (A.length = k) ∧ Hid (acc = A ++ C) ∧ (∀ x ∈ A, x.at_ ≤ d.at_) ∧ (∀ x ∈ C, d.at_ < x.at_) ∧ Hid (Below wr.heap.size wr V))
   case first =>
    go_wp2_with fail
    go_loopw [5] (fun kv wr2 => ∃ (k : Nat) (A C : List Dg), kv = .int .i64 k ∧ Hid (A.length = k) ∧ Hid (acc = A ++ C) ∧ (∀ x ∈ C, d.at_ < x.at_) ∧ Hid (Below wr.heap.size wr wr2)) (fun kv _ => (intOf kv).toNat)
    case atStart => exact ⟨j, acc, [], rfl, hal, Lib.hid (by simp), by simp, Lib.hid (Below.refl _ _)⟩
    case round =>
     obtain ⟨k, A, C, rfl, hk, hAC, hC, hb2⟩ := hrel
     have hkl : k ≤ j := by rw [← hal.out, hAC.out, List.length_append, hk.out]; omega
     have hbn := Nat.lt_of_lt_of_le hbz hb2.out.size
     rcases List.eq_nil_or_concat A with rfl | ⟨A', x, hAx⟩
     ·obtain rfl : k = 0 := by simpa using hk.out.symm
      go_upto_region 6 with fail
      go_quiet (fail)
      go_wp2_with fail
      go_meet
      case rel => exact ⟨0, [], C, rfl, Lib.hid rfl, hAC, by simp, hC, Lib.hid (by (repeat (first | exact hb2.out | apply Below.drew | apply below_drewN)))⟩
     ·rw [List.concat_eq_append] at hAx
      subst hAx
      obtain ⟨m, rfl⟩ : ∃ m, k = m + 1 := ⟨A'.length, by rw [← hk.out]; simp⟩
      have hm : Hid (A'.length = m) := Lib.hid (by simpa using hk.out)
      have hxm : ∃ h : m < acc.length, acc[m] = x := ⟨by rw [hal.out]; omega, by simp [hAC.out, ← hm.out]⟩
      have hrw : wr.rangeAt b (m * 4) x.cells.toList := by
       obtain ⟨hml, hx⟩ := hxm
       have h9 := (hrow.out.below hb2.out).get hml
       rw [hx] at h9
       exact h9
      clear hxm
      have y1 : _ := hrw 1 _ rfl
      have x1' := (hb2.out.cell (p := ⟨b1, o1 + j * 4 + 1, none⟩) (Nat.lt_of_lt_of_le hb1 hbz1)).trans x1
      have hi1 : ((m + 1 : Nat) : Int) - 1 = (m : Int) := by omega
      by_cases hdx : d.at_ < x.at_
      ·go_upto_region 6 with fail
       go_quiet (fail)
       go_wp2_with fail
       go_roundw
       case rel => exact ⟨m, A', x :: C, by first | rfl | go_num, hm, Lib.hid (by rw [hAC.out]; simp), by
        intro z hz
        rcases List.mem_cons.1 hz with rfl | hz
        ·exact hdx
        ·exact hC z hz, Lib.hid (by (repeat (first | exact hb2.out | apply Below.drew | apply below_drewN)))⟩
       case measure => simp [intOf]
      ·have hAll : ∀ z ∈ A' ++ [x], z.at_ ≤ d.at_ := by
        intro z hz
        have h1 := hsrt'.out
        rw [hAC.out] at h1
        have h2 := (List.pairwise_append.1 h1).1
        rcases List.mem_append.1 hz with hz | hz
        ·have := (List.pairwise_append.1 h2).2.2 z hz x (by simp)
         omega
        ·obtain rfl := List.mem_singleton.1 hz
         omega
       go_upto_region 6 with fail
       go_quiet (fail)
       go_wp2_with fail
       go_meet
       case rel => exact ⟨m + 1, A' ++ [x], C, by first | rfl | go_num, hk, hAC, hAll, hC, Lib.hid (by (repeat (first | exact hb2.out | apply Below.drew | apply below_drewN)))⟩
   case rest =>
    obtain ⟨k, A, C, rfl, hk, hAC, hA, hC, hb2⟩ := hcut
    obtain ⟨c, rfl⟩ : ∃ c, j = k + c := ⟨C.length, by rw [← hal.out, hAC.out, List.length_append, hk.out]⟩
    have hCc : Hid (C.length = c) := by have h1 := hal.out; rw [hAC.out, List.length_append, hk.out] at h1; exact Lib.hid (by omega)
    have hput := Lib.hid (put_at hA hC)
    have hnext' : Hid (Hid (put d (A ++ C) = sortD (l.take (k + c + 1)))) := Lib.hid (Lib.hid (by rw [← hAC.out]; exact hnext.out.symm))
    have hbn : b < wc.heap.size := Nat.lt_of_lt_of_le hbz hb2.out.size
    have bel2 := Lib.hid (hbel.out.trans (hb2.out.mono hbz1))
    have hdC : acc.drop k = C ∧ acc.take k = A := by rw [hAC.out, ← hk.out]; exact ⟨List.drop_left, List.take_left⟩
    have hka : k ≤ acc.length := by rw [hal.out]; omega
    have rdC := Lib.hid (fun cq : Nat => (hrow.out.below hb2.out).drop (m := c) (c := cq) hka hbn)
    have rdA := Lib.hid (fun cq : Nat => (hrow.out.below hb2.out).take (c := cq) hka hbn)
    rw [hdC.1] at rdC
    have rdC2 : Hid (∀ cq : Nat, ReadsAt wc (.slice (if cap = k then some ⟨b, 0, none⟩ else some ⟨b, k * 4, none⟩) c cq) c (dgV C)) := Lib.hid (fun cq => by
     split
     ·exact ⟨_, _, rfl, fun e => by omega⟩
     ·exact rdC.out cq)
    rw [hdC.2] at rdA
    have hlC : (dgV C).length = c * 4 := by rw [dgV_len, hCc.out]
    have hlA : (dgV A).length = k * 4 := by rw [dgV_len, hk.out]
    have hz2' := bel2.out.size
    obtain ⟨x0, x1, x2, x3⟩ := hcell.out wc bel2.out
    clear hA hC hdC hka hbel hrow hsrt' hb2 hrl hal
    clear hAC
    go_upto_region 9 with (at_builtin; go_must (refine wpList_append_reads rfl (.tmp 34) (.tmp 37) 26 rfl wc.heap.size 34 i0 _ 4 40 Tryz.underlying26 hi hz0 hz1 hz2 (by decide) (.slice (some ⟨wc.heap.size, 0, none⟩) 0 0) 0 [] rfl (.inl ⟨rfl, rfl, .inr ⟨_, rfl⟩⟩) (.slice (if cap = k then some ⟨b, 0, none⟩ else some ⟨b, k * 4, none⟩) c (cap - k)) c (dgV C) rfl ((rdC2.out _).below ((Below.refl _ _).alloc (Nat.le_refl _) _)) hlC (dgV_ones _) (by unfold maxLen; omega) (by omega) (by first | done | simp) ?_; intro ao2 c2 w2 hown2 hbb2 _ _))
    obtain ⟨j, hjj⟩ : ∃ j, k + c = j := ⟨_, rfl⟩
    have hjz : (k : Int) + (c : Int) = (j : Int) := by omega
    rw [hjz]
    rw [hjj] at hlt hcell hnext' ⊢
    have hb29 : Below wc.heap.size wc w2 := ((Below.refl _ wc).alloc (Nat.le_refl _) _).trans hbb2
    have bel3 := Lib.hid (bel2.out.trans (hb29.mono hz2'))
    have rdR := Lib.hid (RowB.reads (C := C) (by simpa using hown2 : RowB wc.heap.size w2 34 4 (.slice ao2 c c2) c (dgV C)))
    have rdA2 := Lib.hid (fun cq : Nat => (rdA.out cq).below hb29)
    have bD1 := Lib.hid (fun o : Obj => ((Below.refl w2.heap.size w2).drew).alloc (Nat.le_refl _) o)
    have bD2 := Lib.hid (fun o o' : Obj => (bD1.out o).alloc (bD1.out o).size o')
    have hzz := bel3.out.size
    have hkc : k ≤ cap := by omega
    obtain ⟨x0, x1, x2, x3⟩ := hcell.out w2 bel3.out
    have hxa := Lib.hid (fun (o : Obj) => hcell.out (w2.alloc o).drew (bel3.out.trans ((bD1.out o).mono hzz)))
    have x0a : ∀ o : Obj, (w2.alloc o).drew.cell? ⟨b1, o1 + j * 4, none⟩ = some (.int .i64 d.code) := fun o => (hxa.out o).1
    have x1a : ∀ o : Obj, (w2.alloc o).drew.cell? ⟨b1, o1 + j * 4 + 1, none⟩ = some (.int .i64 d.at_) := fun o => (hxa.out o).2.1
    have x2a : ∀ o : Obj, (w2.alloc o).drew.cell? ⟨b1, o1 + j * 4 + 2, none⟩ = some (.int .i64 d.to) := fun o => (hxa.out o).2.2.1
    have x3a : ∀ o : Obj, (w2.alloc o).drew.cell? ⟨b1, o1 + j * 4 + 3, none⟩ = some (.string d.text) := fun o => (hxa.out o).2.2.2
    have hjj' := Lib.hid hjj
    have hkb : k < 1000000 ∧ c < 1000000 := ⟨by omega, by omega⟩
    obtain ⟨hkb1, hkb2⟩ := hkb
    clear hjj hjz hown2 hbb2 hb29 rdC rdC2 rdA bel2 hz2'
    have hn1 : Hid (∀ o : Obj, ((w2.alloc o).alloc (.cells d.cells 34)).drew.heap[w2.heap.size + 1]? = some (.cells d.cells 34 (0, 0))) := Lib.hid (fun o => by
     have h9 := heap_alloc_new (w2.alloc o) (.cells d.cells 34)
     rw [World.size_alloc] at h9
     exact h9)
    have hn2 : Hid (∀ o : Obj, ((w2.alloc (.cells d.cells 34)).alloc o).drew.heap[w2.heap.size]? = some (.cells d.cells 34 (0, 0))) := Lib.hid (fun o => (Below.heap_alloc _ _ _ (by simp)).trans (heap_alloc_new w2 (.cells d.cells 34)))
    go_region_law (first
     | (refine step_append_reads rfl (.tmp 39) (.tmp 42) 26 rfl w2.heap.size 34 i0 _ 4 40 Tryz.underlying26 hi hz0 hz1 hz2 (by decide) _ 0 [] rfl (.inl ⟨rfl, rfl, .inr ⟨_, rfl⟩⟩) (.slice (some ⟨b, 0, none⟩) k cap) k (dgV A) rfl (by first | exact (rdA2.out _).below (bD1.out _) | exact (rdA2.out _).below (bD2.out _ _)) hlA (dgV_ones _) (by unfold maxLen; omega) (by omega) (by first | exact (bD1.out _).size | exact (bD2.out _ _).size) ?_; intro ao3 c3 w3 hown3 hb3 hk3 _; have hown3' := Lib.hid (by simpa using hown3 : RowB w2.heap.size w3 34 4 (.slice ao3 k c3) k (dgV A)); have hk3' := Lib.hid hk3; have hbW3 := Lib.hid (by first | exact (bD1.out _).trans hb3 | exact (bD2.out _ _).trans hb3 : Below w2.heap.size w2 w3); clear hown3 hk3 hb3; obtain ⟨z0, z1, z2, z3⟩ := hcell.out w3 (bel3.out.trans (hbW3.out.mono hzz)); (try simp only [Nat.zero_add]))
     | (refine step_append_reads rfl (.tmp 43) (.tmp 48) 26 rfl w2.heap.size 34 i0 _ 4 40 Tryz.underlying26 hi hz0 hz1 hz2 (by decide) (.slice ao3 k c3) k (dgV A) rfl (by first | exact hown3'.out | exact hown3'.out.below ((Below.refl _ _).alloc (Nat.le_refl _) _)) _ 1 d.cells.toList rfl (by first | exact reads_one _ d | exact reads_kept hk3'.out (hn1.out _) (own_ne (g := w2.heap.size) rfl (by omega)) | exact reads_kept hk3'.out (hn2.out _) (own_ne (g := w2.heap.size + 1) rfl (by omega))) rfl (dg_one d) (by unfold maxLen; omega) (by omega) (by first | exact hbW3.out.size | exact (hbW3.out.alloc hbW3.out.size _).size) ?_; intro ao4 c4 w4 hown4 hb4 _ _; have hown4' := Lib.hid hown4; have hbW4 := Lib.hid (by first | exact hbW3.out.trans hb4 | exact (hbW3.out.alloc hbW3.out.size _).trans hb4 : Below w2.heap.size w2 w4); clear hown4 hb4)
     | (refine step_append_reads rfl (.tmp 49) (.tmp 50) 26 rfl w2.heap.size 34 i0 _ 4 40 Tryz.underlying26 hi hz0 hz1 hz2 (by decide) (.slice ao4 (k + 1) c4) (k + 1) (dgV A ++ d.cells.toList) rfl hown4'.out (.slice ao2 c c2) c (dgV C) rfl (rdR.out.below hbW4.out) hlC (dgV_ones _) (by unfold maxLen; omega) (by omega) hbW4.out.size ?_; intro ao5 c5 w5 hown5 hb5 _ _; have hown5' := Lib.hid hown5; have hbW5 := Lib.hid (hbW4.out.trans hb5); clear hown5 hb5))
    all_goals
     have e5 : dgV A ++ d.cells.toList ++ dgV C = dgV (A ++ d :: C) := by simp [dgV]
     have hr5 := hown5'.out
     rw [e5, ← hput.out] at hr5
     have hjj := hjj'.out
     obtain ⟨g, rfl, hgc, hgz, hgr, hgB⟩ := RowB.shape hr5 (by omega)
     have hgB2 : w.heap.size ≤ g := Nat.le_trans hzz hgB
     have hfin := Lib.hid hgr
     have hbf := Lib.hid (bel3.out.trans (hbW5.out.mono hzz))
     have hlen : Hid ((put d (A ++ C)).length = j + 1) := Lib.hid (by rw [hput.out]; simp only [List.length_append, List.length_cons]; rw [hk.out, hCc.out]; omega)
     clear hr5 hgr hown5' hown4' hown3' hk3' z0 z1 z2 z3 x0 x1 x2 x3
     go_wp2_with fail
     go_roundw
     case rel => exact ⟨j + 1, g, c5, put d (A ++ C), by go_num, by omega, by rw [show j + 1 = k + 1 + c by omega], by omega, hlen, ⟨hgz, hgB2⟩, hnext'.out, hfin, hbf⟩
     case measure => simp [intOf]; omega
  ·obtain rfl : j = l.length := by omega
   have e0 : l.take l.length = l := List.take_length
   rw [e0] at hacc
   go_wp2_with fail
   go_ret
   rw [← hacc.out]
   exact ⟨b, cap, by rw [hal.out]; rfl, hbge, hbz, hrow.out, hbel.out⟩
end Go.Proofs.YthggagophcnkfaaGreatDoor.py
