/- The walk of syntax.Path. -/
import Derived.Test.YthggagophcnkfaaGreatDoorNstG
import Derived.Deep.RegionHeld3
namespace Go.Proofs.YthggagophcnkfaaGreatDoor.px
open Go.RowKit Go.Proofs.YthggagophcnkfaaGreatDoor.agg Go.Proofs.YthggagophcnkfaaGreatDoor.sx Go.Proofs.YthggagophcnkfaaGreatDoor.lx Go.Proofs.YthggagophcnkfaaGreatDoor.so
set_option linter.unusedSimpArgs false
set_option linter.unusedVariables false

def intV (l : List Nat) : List Value := l.map fun n => .int .i64 (n : Nat)
theorem info_int : (Tryz.prog.info? 3).map (fun i => (i.zero, i.size, i.bytes)) = some (some (.int .i64 0), 1, 8) := by kernel_rfl
theorem own_below {w w' : World} {B : Nat} {e : TypeId} {size n : Nat} {v : Value} {xs : List Value} (h : w.ownsRow B e size v n xs) (hb : Below w.heap.size w w') : w'.ownsRow B e size v n xs :=
  ownsRow_same h (fun k hk => hb.block k (h.lt k hk).2)
theorem IntsIn.of_row {w : World} {B : Nat} {v : Value} {l : List Nat} (h : w.ownsRow B 3 1 v l.length (intV l)) : IntsIn w v l := by
  rcases h.2 with ⟨rfl, h0⟩ | ⟨g, cap, cur, rfl, hg, hb, _⟩
  · obtain rfl := List.eq_nil_of_length_eq_zero h0
    exact ⟨none, 0, rfl, fun i hi => by simp at hi⟩
  · refine ⟨_, cap, rfl, fun i hi => ⟨g, 0, rfl, lt_of_block hb, ?_⟩⟩
    have := h.cells (g := g) rfl i (.int .i64 (l[i] : Nat)) (by simp [intV, hi])
    simpa [Addr.add_lit] using this
theorem intV_snoc (l : List Nat) (i : Nat) : intV (l ++ [i]) = intV l ++ [.int .i64 (i : Nat)] := by simp [intV]
def PathEnd (w : World) (t : Tr) (e : Ending) (w' : World) : Prop :=
  ∃ (p : List Nat) (x : Tr) (v : Value), e = .returned (.tuple #[v, .bool true]) ∧ getT t p = some x ∧ IntsIn w' v p ∧ p.length ≤ 1000000 ∧ Below w.heap.size w w'
set_option maxRecDepth 100000 in
set_option maxHeartbeats 8000000 in
theorem path_walk (w : World) (t : Tr) (ao : Option Addr) (cap : Nat) (i0 : Nat) (hT : TreesIn w (.slice ao t.kids.length cap) t.kids) (hi : i0 < t.count) (hc : t.count ≤ 1000000) :
    Calls Tryz.prog 22 #[tagg t (.slice ao t.kids.length cap), .int .i64 i0] w (PathEnd w t) := by
  have hT' := Lib.hid hT
  have hg' : Hid (getT t [] = some t) := rfl
  have hi1 : i0 ≤ 1000000 := by omega
  obtain ⟨j0, hj0, hz0, hz1, hz2⟩ := info_parts info_int
  clear hT
  unfold tagg
  go_enter Tryz.func22, Tryz.ntmps22
  go_wp2_with fail
  obtain ⟨W0, hW0⟩ : ∃ W0, w.alloc (.cells #[.int .i64 t.kind, .string t.text, .int .i64 t.fr, .int .i64 t.to, .slice ao t.kids.length cap] 25) = W0 := ⟨_, rfl⟩
  rw [hW0]
  have hb0 : Hid (Below w.heap.size w W0) := by unfold Hid; rw [← hW0]; exact (Below.refl _ _).alloc (Nat.le_refl _) _
  have hx0 : Hid (W0.heap[w.heap.size]? = some (.cells #[.int .i64 t.kind, .string t.text, .int .i64 t.fr, .int .i64 t.to, .slice ao t.kids.length cap] 25 (0, 0))) := by unfold Hid; rw [← hW0]; exact block_new _ _ _
  clear hW0
  obtain ⟨Z, hZ⟩ : ∃ Z, w.heap.size = Z := ⟨_, rfl⟩
  have hZ' := Lib.hid hZ
  rw [hZ] at hx0 ⊢
  clear hZ
  have hr0 : Hid (W0.ownsRow (Z + 1) 3 1 (.slice none 0 0) 0 (intV [])) := World.ownsRow_nil W0 _ _ 1
  go_loopw [1, 6] (fun a q wr => ∃ (m : Nat) (y : Tr) (ay : Option Addr) (cy : Nat) (p : List Nat) (ap : Option Addr) (cp : Nat), a = .int .i64 m ∧ q = .slice ap p.length cp ∧ m < y.count ∧ y.count ≤ 1000000 ∧ p.length + m ≤ i0 ∧ Hid (getT t p = some y) ∧ Hid (wr.heap[Z]? = some (.cells #[.int .i64 y.kind, .string y.text, .int .i64 y.fr, .int .i64 y.to, .slice ay y.kids.length cy] 25 (0, 0))) ∧ Hid (TreesIn w (.slice ay y.kids.length cy) y.kids) ∧ Hid (wr.ownsRow (Z + 1) 3 1 (.slice ap p.length cp) p.length (intV p)) ∧ Hid (Below w.heap.size w wr)) (fun a _ _ => (intOf a).toNat)
  case atStart => exact ⟨i0, t, ao, cap, [], none, 0, rfl, rfl, hi, hc, by simp, hg', hx0, hT', hr0, hb0⟩
  case round =>
    clear hb0 hx0 hT' hg' hr0
    obtain ⟨m, y, ay, cy, p, ap, cp, rfl, rfl, hm, hyc, hpm, hg, hx, hT, hr, hb⟩ := hrel
    by_cases hm0 : 0 < m
    · obtain ⟨m1, hm1⟩ : ∃ m1, m = m1 + 1 := ⟨m - 1, by omega⟩
      have c4 : wr.cell? ⟨Z, 4, none⟩ = some (.slice ay y.kids.length cy) := (cell4 hx.out).1
      have hsum : Hid (m1 < Tr.counts (y.kids.drop 0)) := by
        have := count_eq y
        unfold Hid
        rw [List.drop_zero]
        omega
      have hyk : y.kids.length ≤ 1000000 := by
        have := Tr.counts_len y.kids
        have := count_eq y
        omega
      have hm1' := Lib.hid hm1
      have s1 : (m : Int) - 1 = m1 := by omega
      have g0 : decide (0 < (m : Int)) = true := decide_eq_true (by omega)
      clear hm1
      go_wp2_with fail
      generalize wr = V at *
      go_loopw [1, 6, 7, 20] (fun a q f i wr => ∃ (m2 j : Nat), a = .int .i64 m2 ∧ q = .slice ap p.length cp ∧ f = .bool false ∧ i = .int .i64 j ∧ j ≤ y.kids.length ∧ m2 ≤ m1 ∧ Hid (m2 < Tr.counts (y.kids.drop j)) ∧ Hid (Below V.heap.size V wr)) (fun _ _ _ i _ => y.kids.length - (intOf i).toNat)
      case atStart => exact ⟨m1, 0, rfl, rfl, rfl, rfl, Nat.zero_le _, Nat.le_refl _, hsum, Lib.hid (Below.refl _ _)⟩
      case round =>
        clear hsum s1 g0 c4
        obtain ⟨m2, j, rfl, rfl, rfl, rfl, hj, hm2, hs2, hbq⟩ := hrel
        by_cases hlt : j < y.kids.length
        · obtain ⟨ay2, cy2, e1, _, hk⟩ := hT.out.at_
          obtain ⟨rfl, rfl⟩ : ay = ay2 ∧ cy = cy2 := by simpa using e1
          obtain ⟨b2, o2, kv, rfl, hb2, r1, T1⟩ := hk _ hlt
          obtain ⟨ak, ck, rfl, _, _⟩ := T1.at_
          have T1' := Lib.hid T1
          have hbwr := Lib.hid (bel_then hb.out hb.out.size hbq.out)
          have r2 := range_below r1 hb2 hbwr.out
          have hd := hs2.out
          rw [List.drop_eq_getElem_cons hlt, Tr.counts] at hd
          have hkc : y.kids[j].count ≤ 1000000 := by
            have := Tr.count_kid (t := y) (List.getElem_mem hlt)
            omega
          have hgk := Lib.hid (getT_snoc (i := j) hg.out (List.getElem?_eq_getElem hlt))
          have hC := Lib.hid (fun (W : World) (h : TreesIn W (.slice ak y.kids[j].kids.length ck) y.kids[j].kids) => count_walk W y.kids[j] ak ck hkc h)
          unfold tagg at hC
          have hd' := Lib.hid hd
          generalize y.kids[j] = k at *
          have q0 : wr.cell? ⟨b2, o2 + j * 5, none⟩ = some (.int .i64 k.kind) := range_cell r2 0 rfl
          have q1 : wr.cell? ⟨b2, o2 + j * 5 + 1, none⟩ = some (.string k.text) := range_cell r2 1 rfl
          have q2 : wr.cell? ⟨b2, o2 + j * 5 + 2, none⟩ = some (.int .i64 k.fr) := range_cell r2 2 rfl
          have q3 : wr.cell? ⟨b2, o2 + j * 5 + 3, none⟩ = some (.int .i64 k.to) := range_cell r2 3 rfl
          have q4 : wr.cell? ⟨b2, o2 + j * 5 + 4, none⟩ = some (.slice ak k.kids.length ck) := range_cell r2 4 rfl
          obtain ⟨B, hB⟩ : ∃ B : Obj, (Obj.cells #[.int .i64 k.kind, .string k.text, .int .i64 k.fr, .int .i64 k.to, .slice ak k.kids.length ck] 25 (0, 0)) = B := ⟨_, rfl⟩
          have hbA := Lib.hid (fun (o : Obj) => hbq.out.alloc hbq.out.size o)
          have hTA := Lib.hid (fun (o : Obj) => T1'.out.below (hbwr.out.alloc hbwr.out.size o))
          clear hk e1 hd r1 r2 T1 hs2 hg hB
          have hkcc := Lib.hid hkc
          by_cases hge : k.count ≤ m2
          · have g1 : decide ((k.count : Int) ≤ m2) = true := decide_eq_true (by omega)
            have s2 : Hid ((m2 : Int) - k.count = ((m2 - k.count : Nat) : Int)) := Lib.hid (by omega)
            have s2b : (0 : Int) ≤ (m2 : Int) - k.count := by omega
            have hs3 : Hid (m2 - k.count < Tr.counts (y.kids.drop (j + 1))) := by
              have := hd'.out
              unfold Hid
              omega
            have hs4 : m2 - k.count ≤ m1 := by omega
            have hm2b : m2 ≤ 1000000 := by have := hm1'.out; omega
            clear hd' hgk
            go_wp2_with (go_at_call 21; refine (hC.out _ (hTA.out _)).mono ?_; rintro e w4 ⟨rfl, b4⟩; have b4' := Lib.hid b4; clear b4)
            go_roundw
            case rel => exact ⟨m2 - k.count, j + 1, by rw [← s2.out], rfl, rfl, by go_num, by omega, hs4, hs3, Lib.hid (bel_then (hbA.out _) (hbA.out _).size b4'.out)⟩
            case measure => simp [intOf]; omega
          · have g1 : decide ((k.count : Int) ≤ m2) = false := decide_eq_false (by omega)
            go_upto_region 13 with (go_at_call 21; refine (hC.out _ (hTA.out _)).mono ?_; rintro e w4 ⟨rfl, b4⟩; have b4' := Lib.hid b4; clear b4)
            obtain ⟨W4, hW4⟩ : ∃ W4, w4 = W4 := ⟨_, rfl⟩
            have hlt2 := (hbA.out (.cells #[.int .i64 k.kind, .string k.text, .int .i64 k.fr, .int .i64 k.to, .slice ak k.kids.length ck] 25)).size
            have hbV4 := Lib.hid (bel_then (hbA.out _) (hbA.out _).size b4'.out)
            have hr4 := Lib.hid (own_below hr.out hbV4.out)
            have hb4 := Lib.hid (bel_then hb.out hb.out.size hbV4.out)
            have hx4 := Lib.hid ((hbV4.out.block Z (lt_of_block hx.out)).trans hx.out)
            have hK4 : Hid (w4.heap[wr.heap.size]? = some (.cells #[.int .i64 k.kind, .string k.text, .int .i64 k.fr, .int .i64 k.to, .slice ak k.kids.length ck] 25 (0, 0))) := (b4'.out.block _ (by simp)).trans (block_new wr _ _)
            have hgV := hr.out.lt
            have hKV : V.heap.size ≤ wr.heap.size := hbq.out.size
            have hZV : Z < V.heap.size := lt_of_block hx.out
            have hapK : Hid ((Value.slice ap p.length cp).ownBlock ≠ some wr.heap.size) := fun e => by have := (hgV _ e).2; omega
            have hapZ : Hid ((Value.slice ap p.length cp).ownBlock ≠ some Z) := fun e => by have := (hgV _ e).1; omega
            have hmk : Hid (m2 < k.count) := by unfold Hid; omega
            clear hC hTA hr hx hT q0 q1 q2 q3 q4 hgV hd' hbA hb hW4
            refine wp_region_held_drew (S := fun u => u.heap[wr.heap.size]? = some (.cells #[.int .i64 k.kind, .string k.text, .int .i64 k.fr, .int .i64 k.to, .slice ak k.kids.length ck] 25 (0, 0))) (by kernel_rfl) hK4.out (fun hHeld => ?_)
            have hKsz := lt_of_block hK4.out
            have hwz : w4.drew.heap.size = w4.heap.size := rfl
            have hZ4 : Z + 1 ≤ w4.heap.size := by omega
            refine wpAnyH_take (i := 0) (v := .slice ap p.length cp) rfl (by kernel_rfl) (by kernel_rfl) (by kernel_rfl) (fun _ _ _ h => h) (Or.inl ⟨by rfl, by intro u hu; (try dsimp only at hu); go_simp⟩) hHeld ?_
            try simp only [Act.put, List.getElem_toArray, List.getElem_cons_zero, List.getElem_cons_succ, List.setIfInBounds_toArray, List.set_cons_zero, List.set_cons_succ]
            refine wpAnyH_take (i := 1) (v := .int .i64 j) rfl (by kernel_rfl) (by kernel_rfl) (by kernel_rfl) (fun _ _ _ h => h) (Or.inl ⟨by rfl, by intro u hu; (try dsimp only at hu); go_simp⟩) hHeld ?_
            try simp only [Act.put, List.getElem_toArray, List.getElem_cons_zero, List.getElem_cons_succ, List.setIfInBounds_toArray, List.set_cons_zero, List.set_cons_succ]
            refine wpAnyH_take (i := 4) (v := .agg #[.int .i64 k.kind, .string k.text, .int .i64 k.fr, .int .i64 k.to, .slice ak k.kids.length ck]) rfl (by kernel_rfl) (by kernel_rfl) (by kernel_rfl) (fun _ _ _ h => h) (yieldsIf_load_mid (by rfl) _ _ rfl _ _ rfl [.int .i64 k.kind, .string k.text, .int .i64 k.fr, .int .i64 k.to, .slice ak k.kids.length ck] _ (fun _ h => rangeAt_whole h) Tryz.underlying25 rfl info_nds) hHeld ?_
            try simp only [Act.put, List.getElem_toArray, List.getElem_cons_zero, List.getElem_cons_succ, List.setIfInBounds_toArray, List.set_cons_zero, List.set_cons_succ]
            refine wpAnyH_ready (rs := [2]) (by kernel_rfl) (by simp) ?_
            refine AllReadyH.cons rfl (fun K hK => ?_) AllReadyH.nil
            rw [if_pos (by rfl)]
            go_simp
            refine hK.out _ _ ((Below.heap_alloc _ _ _ hKsz).trans hK4.out) (fun hHeld => ?_)
            clear hK K
            try simp only [Act.put, List.getElem_toArray, List.getElem_cons_zero, List.getElem_cons_succ, List.setIfInBounds_toArray, List.set_cons_zero, List.set_cons_succ]
            refine wpAnyH_ready (rs := [3]) (by kernel_rfl) (by simp) ?_
            refine AllReadyH.cons rfl (fun K hK => ?_) AllReadyH.nil
            rw [if_pos (by rfl)]
            refine wp_append_mine (.tmp 33) (.tmp 35) 45 rfl (Z + 1) 3 j0 _ 1 8 Tryz.underlying45 hj0 hz0 hz1 hz2 (by decide) (.slice ap p.length cp) p.length (intV p) rfl ((hr4.out.alloc _).drew) ⟨w4.heap.size, 0, none⟩ 1 1 [.int .i64 (j : Nat)] rfl rfl (by omega) (cells_new w4 #[.int .i64 (j : Nat)] _) (by simp [Value.oneCell']) (by unfold maxLen; omega) (by omega) (by simp; omega) ?_
            intro g' cap' w' hown' hgrow hnew
            have hKw : w'.heap[wr.heap.size]? = some (.cells #[.int .i64 k.kind, .string k.text, .int .i64 k.fr, .int .i64 k.to, .slice ak k.kids.length ck] 25 (0, 0)) := (hgrow.block _ (by simp; omega) (fun e => hapK.out e.symm)).trans ((Below.heap_alloc w4 _ _ hKsz).trans hK4.out)
            have hZw : w'.heap[Z]? = some (.cells #[.int .i64 y.kind, .string y.text, .int .i64 y.fr, .int .i64 y.to, .slice (some ⟨b2, o2, none⟩) y.kids.length cy] 25 (0, 0)) := (hgrow.block _ (by simp; omega) (fun e => hapZ.out e.symm)).trans ((Below.heap_alloc w4 _ _ (by omega)).trans hx4.out)
            have hbw' : Hid (Below w.heap.size w w') := Lib.hid (by
              have e1 := hZ'.out
              have k1 : Below w.heap.size w4 (w4.alloc (.cells #[.int .i64 (j : Nat)] 3)).drew := ((Below.refl _ w4).alloc (by omega) _).drew
              have k2 := (Kept.grown (F := fun b => (Value.slice ap p.length cp).ownBlock = some b) hgrow (fun b hb => hb)).below w.heap.size (by simp; omega) (fun b hb => by have := (hr4.out.lt b hb).1; omega)
              exact hb4.out.trans (k1.trans k2))
            refine hK.out _ _ hKw (fun hHeld => ?_)
            clear hK K
            try simp only [Act.put, List.getElem_toArray, List.getElem_cons_zero, List.getElem_cons_succ, List.setIfInBounds_toArray, List.set_cons_zero, List.set_cons_succ]
            refine wpAnyH_take (i := 5) (v := .slice (some ⟨g', 0, none⟩) (p.length + 1) cap') rfl (by kernel_rfl) (by kernel_rfl) (by kernel_rfl) (fun _ _ _ h => h) (Or.inl ⟨by rfl, by intro u hu; (try dsimp only at hu); go_simp⟩) hHeld ?_
            try simp only [Act.put, List.getElem_toArray, List.getElem_cons_zero, List.getElem_cons_succ, List.setIfInBounds_toArray, List.set_cons_zero, List.set_cons_succ]
            have c0 : w'.cell? ⟨Z, 0, none⟩ = some (.int .i64 y.kind) := (cell_of_row _ _ _ _ _ _ hZw).trans rfl
            have c1 : w'.cell? ⟨Z, 1, none⟩ = some (.string y.text) := (cell_of_row _ _ _ _ _ _ hZw).trans rfl
            have c2 : w'.cell? ⟨Z, 2, none⟩ = some (.int .i64 y.fr) := (cell_of_row _ _ _ _ _ _ hZw).trans rfl
            have c3 : w'.cell? ⟨Z, 3, none⟩ = some (.int .i64 y.to) := (cell_of_row _ _ _ _ _ _ hZw).trans rfl
            have c4 : w'.cell? ⟨Z, 4, none⟩ = some (.slice (some ⟨b2, o2, none⟩) y.kids.length cy) := (cell_of_row _ _ _ _ _ _ hZw).trans rfl
            have fz : ∀ i, w'.frozen? ⟨Z, i, none⟩ = false := fun i => by simp [World.frozen?, hZw]
            refine wpAnyH_ready (rs := [6]) (by kernel_rfl) (by simp) ?_
            refine AllReadyH.cons rfl (fun K hK => ?_) AllReadyH.nil
            rw [if_pos (by rfl)]
            go_simp
            have hKz := kept5 w' Z (.int .i64 k.kind) (.string k.text) (.int .i64 k.fr) (.int .i64 k.to) (.slice ak k.kids.length ck)
            refine hK.out _ _ ((hKz.block _ (lt_of_block hKw) (fun e => by omega)).trans hKw) (fun hHeld => ?_)
            clear hK K
            try simp only [Act.put, List.getElem_toArray, List.getElem_cons_zero, List.getElem_cons_succ, List.setIfInBounds_toArray, List.set_cons_zero, List.set_cons_succ]
            refine wpAnyH_take (i := 7) (v := .bool true) rfl (by kernel_rfl) (by kernel_rfl) (by kernel_rfl) (fun _ _ _ h => h) (Or.inl ⟨by rfl, by intro u hu; (try dsimp only at hu); go_simp⟩) hHeld ?_
            try simp only [Act.put, List.getElem_toArray, List.getElem_cons_zero, List.getElem_cons_succ, List.setIfInBounds_toArray, List.set_cons_zero, List.set_cons_succ]
            refine wpAnyH_done (by kernel_rfl) ?_ _
            clear hHeld
            have hx2 : Hid ((((((w'.setCell ⟨Z, 0, none⟩ (.int .i64 k.kind)).setCell ⟨Z, 1, none⟩ (.string k.text)).setCell ⟨Z, 2, none⟩ (.int .i64 k.fr)).setCell ⟨Z, 3, none⟩ (.int .i64 k.to)).setCell ⟨Z, 4, none⟩ (.slice ak k.kids.length ck)).heap[Z]? = some (.cells #[.int .i64 k.kind, .string k.text, .int .i64 k.fr, .int .i64 k.to, .slice ak k.kids.length ck] 25 (0, 0))) := by
              unfold Hid
              rw [heap_setCell_same _ _ _ _ _ _ (heap_setCell_same _ _ _ _ _ _ (heap_setCell_same _ _ _ _ _ _ (heap_setCell_same _ _ _ _ _ _ (heap_setCell_same _ _ _ _ _ _ hZw))))]
              exact rfl
            have hr2 := Lib.hid (ownsRow_same hown' (fun b hb => hKz.block b (hown'.lt b hb).2 (fun e => by have := (hown'.lt b hb).1; omega)))
            have hbf := Lib.hid (hbw'.out.trans (hKz.below w.heap.size hbw'.out.size (fun b hb => by have := hZ'.out; omega)))
            clear c0 c1 c2 c3 c4 fz hKz hKw hZw hown' hgrow hnew
            go_wp2
            go_roundw
            case rel => exact ⟨m2, k, ak, ck, p ++ [j], _, cap', rfl, by rw [List.length_append]; rfl, hmk.out, hkcc.out, by rw [List.length_append]; simp only [List.length_singleton]; have := hm1'.out; omega, hgk, hx2, T1', by rw [List.length_append, intV_snoc]; exact hr2, hbf⟩
            case measure => have := hm1'.out; simp [intOf]; omega
        · exfalso
          have := hs2.out
          rw [List.drop_eq_nil_of_le (by omega), Tr.counts] at this
          omega
    · obtain rfl : m = 0 := by omega
      go_wp2_with fail
      go_ret2
      exact ⟨p, y, _, rfl, hg.out, .of_row hr.out, by omega, hb.out⟩
end Go.Proofs.YthggagophcnkfaaGreatDoor.px
