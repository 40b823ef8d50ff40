/- A slice of diagnostics that is sorted in place: how it lies; the walks of the comparison and of the exchange of two stretches. -/
import Derived.Test.YthggagophcnkfaaGreatDoorSortP
import Derived.Test.YthggagophcnkfaaGreatDoorM5
import Derived.BigQuiet
import Derived.Deep.RegionHeld3
import Derived.IntWalk
namespace Go.Proofs.YthggagophcnkfaaGreatDoor.so
open Go.RowKit Go.Proofs.YthggagophcnkfaaGreatDoor.agg Go.Proofs.YthggagophcnkfaaGreatDoor.sx Go.Proofs.YthggagophcnkfaaGreatDoor.px Go.Proofs.YthggagophcnkfaaGreatDoor.lx
set_option linter.unusedSimpArgs false
set_option linter.unusedVariables false

/-- The slice at block g holds these. -/
def ArrIn (w : World) (g cap : Nat) (l : List Dg) : Prop := w.ownsRow 0 34 4 (.slice (some ⟨g, 0, none⟩) l.length cap) l.length (dgV l)
def OkD (l : List Dg) : Prop := ∀ d ∈ l, 0 ≤ d.at_ ∧ d.at_ ≤ 4096
theorem dgV_get (L : List Dg) : ∀ {i : Nat} (hi : i < L.length) {j : Nat} {u : Value}, (L[i].cells).toList[j]? = some u → (dgV L)[i * 4 + j]? = some u := by
  induction L with
  | nil => intro i hi; simp at hi
  | cons x l ih =>
    intro i hi j u hu
    have hj : j < 4 := by
      have := (List.getElem?_eq_some_iff.1 hu).1
      simpa [Dg.cells] using this
    have e1 : dgV (x :: l) = x.cells.toList ++ dgV l := by simp [dgV]
    have hx : x.cells.toList.length = 4 := rfl
    rw [e1]
    cases i with
    | zero =>
      rw [List.getElem?_append_left (by omega)]
      simpa using hu
    | succ i =>
      rw [List.getElem?_append_right (by omega), hx]
      have e2 : (i + 1) * 4 + j - 4 = i * 4 + j := by omega
      rw [e2]
      exact ih (by simpa using hi) (by simpa using hu)
section
variable {w w' : World} {g cap : Nat} {l : List Dg}
theorem ArrIn.block (h : ArrIn w g cap l) : g < w.heap.size := (h.lt g rfl).2
theorem ArrIn.cell (h : ArrIn w g cap l) {i : Nat} (hi : i < l.length) : w.cell? ⟨g, i * 4, none⟩ = some (.int .i64 l[i].code) ∧ w.cell? ⟨g, i * 4 + 1, none⟩ = some (.int .i64 l[i].at_) ∧ w.cell? ⟨g, i * 4 + 2, none⟩ = some (.int .i64 l[i].to) ∧ w.cell? ⟨g, i * 4 + 3, none⟩ = some (.string l[i].text) := by
  refine ⟨?_, ?_, ?_, ?_⟩
  · have := h.cells (g := g) rfl (i * 4 + 0) _ (dgV_get l hi (j := 0) rfl)
    simpa [Addr.add_lit] using this
  · have := h.cells (g := g) rfl (i * 4 + 1) _ (dgV_get l hi (j := 1) rfl)
    simpa [Addr.add_lit] using this
  · have := h.cells (g := g) rfl (i * 4 + 2) _ (dgV_get l hi (j := 2) rfl)
    simpa [Addr.add_lit] using this
  · have := h.cells (g := g) rfl (i * 4 + 3) _ (dgV_get l hi (j := 3) rfl)
    simpa [Addr.add_lit] using this
theorem ArrIn.free (h : ArrIn w g cap l) (j : Nat) : w.frozen? ⟨g, j, none⟩ = false := h.frozenAt j
theorem ArrIn.same (h : ArrIn w g cap l) (hb : w'.heap[g]? = w.heap[g]?) : ArrIn w' g cap l := ownsRow_same h (fun k hk => by
  have e : g = k := by simpa [Value.ownBlock] using hk
  exact e ▸ hb)
theorem ArrIn.below (h : ArrIn w g cap l) (hb : Below w.heap.size w w') : ArrIn w' g cap l := h.same (hb.block g h.block)
theorem dgV_set (l : List Dg) : ∀ {i : Nat} (hi : i < l.length) (d : Dg), dgV (l.set i d) = ((((dgV l).set (i * 4) (.int .i64 d.code)).set (i * 4 + 1) (.int .i64 d.at_)).set (i * 4 + 2) (.int .i64 d.to)).set (i * 4 + 3) (.string d.text) := by
  induction l with
  | nil => intro i hi; simp at hi
  | cons x l ih =>
    intro i hi d
    have e1 : ∀ (y : Dg) (k : List Dg), dgV (y :: k) = Value.int .i64 y.code :: .int .i64 y.at_ :: .int .i64 y.to :: .string y.text :: dgV k := fun y k => by simp [dgV, Dg.cells]
    cases i with
    | zero => rw [List.set_cons_zero, e1, e1]; simp
    | succ i =>
      rw [List.set_cons_succ, e1, e1, ih (by simpa using hi) d]
      have h0 : (i + 1) * 4 = i * 4 + 4 := by omega
      rw [h0]
      simp [List.set_cons_succ]
theorem ArrIn.set (h : ArrIn w g cap l) {i : Nat} (hi : i < l.length) (d : Dg) :
    ArrIn ((((w.setCell ⟨g, i * 4, none⟩ (.int .i64 d.code)).setCell ⟨g, i * 4 + 1, none⟩ (.int .i64 d.at_)).setCell ⟨g, i * 4 + 2, none⟩ (.int .i64 d.to)).setCell ⟨g, i * 4 + 3, none⟩ (.string d.text)) g cap (l.set i d) := by
  unfold ArrIn
  rw [List.length_set, dgV_set l hi d]
  exact ((((h.stored (i * 4) _).1.stored (i * 4 + 1) _).1.stored (i * 4 + 2) _).1.stored (i * 4 + 3) _).1
/-- What may be written: the slice's block. -/
abbrev gfoot (g : Nat) (k : Nat) : Prop := k = g
theorem kept_set4 (w : World) (g o : Nat) (a b c d : Value) : Kept (gfoot g) w ((((w.setCell ⟨g, o, none⟩ a).setCell ⟨g, o + 1, none⟩ b).setCell ⟨g, o + 2, none⟩ c).setCell ⟨g, o + 3, none⟩ d) :=
  (((Kept.setCell (F := gfoot g) w (a := ⟨g, o, none⟩) rfl a).trans (Kept.setCell (F := gfoot g) _ (a := ⟨g, o + 1, none⟩) rfl b)).trans (Kept.setCell (F := gfoot g) _ (a := ⟨g, o + 2, none⟩) rfl c)).trans (Kept.setCell (F := gfoot g) _ (a := ⟨g, o + 3, none⟩) rfl d)
end
theorem take_next {l l2 : List Dg} {k : Nat} {x : Dg} (h : l.drop k = x :: l2) : l.take (k + 1) = l.take k ++ [x] := by
  have hk : k < l.length := by
    rcases Nat.lt_or_ge k l.length with h1 | h1
    · exact h1
    · rw [List.drop_eq_nil_of_le h1] at h; cases h
  rw [List.drop_eq_getElem_cons hk] at h
  rw [List.take_succ_eq_append_getElem hk, (List.cons.inj h).1]
theorem drop_next {l l2 : List Dg} {k : Nat} {x : Dg} (h : l.drop k = x :: l2) : l.drop (k + 1) = l2 := by
  rw [← List.drop_drop, h]
  rfl
theorem set_two (P Q R : List Dg) (x y : Dg) : ((P ++ (x :: (Q ++ (y :: R)))).set P.length y).set (P.length + 1 + Q.length) x = P ++ (y :: (Q ++ (x :: R))) := by
  rw [List.set_append_right _ _ (Nat.le_refl _), Nat.sub_self, List.set_cons_zero]
  rw [List.set_append_right _ _ (by omega), show P.length + 1 + Q.length - P.length = Q.length + 1 by omega, List.set_cons_succ]
  rw [List.set_append_right _ _ (Nat.le_refl _), Nat.sub_self, List.set_cons_zero]
theorem set_two' (P Q R : List Dg) (x y : Dg) : ((P ++ (x :: (Q ++ (y :: R)))).set (P.length + 1 + Q.length) x).set P.length y = P ++ (y :: (Q ++ (x :: R))) := by
  rw [List.set_comm _ _ (show P.length + 1 + Q.length ≠ P.length by omega)]
  exact set_two P Q R x y
theorem ArrIn.two {w : World} {g cap : Nat} {P Q R : List Dg} {x y : Dg} (h : ArrIn w g cap (P ++ (x :: (Q ++ (y :: R))))) :
    (w.cell? ⟨g, P.length * 4, none⟩ = some (.int .i64 x.code) ∧ w.cell? ⟨g, P.length * 4 + 1, none⟩ = some (.int .i64 x.at_) ∧ w.cell? ⟨g, P.length * 4 + 2, none⟩ = some (.int .i64 x.to) ∧ w.cell? ⟨g, P.length * 4 + 3, none⟩ = some (.string x.text)) ∧
    (w.cell? ⟨g, (P.length + 1 + Q.length) * 4, none⟩ = some (.int .i64 y.code) ∧ w.cell? ⟨g, (P.length + 1 + Q.length) * 4 + 1, none⟩ = some (.int .i64 y.at_) ∧ w.cell? ⟨g, (P.length + 1 + Q.length) * 4 + 2, none⟩ = some (.int .i64 y.to) ∧ w.cell? ⟨g, (P.length + 1 + Q.length) * 4 + 3, none⟩ = some (.string y.text)) := by
  have h1 := h.cell (i := P.length) (by simp)
  have h2 := h.cell (i := P.length + 1 + Q.length) (by simp; omega)
  have e1 : (P ++ (x :: (Q ++ (y :: R))))[P.length]'(by simp) = x := by simp
  have e2 : (P ++ (x :: (Q ++ (y :: R))))[P.length + 1 + Q.length]'(by simp; omega) = y := by
    rw [List.getElem_append_right (by omega)]
    simp only [show P.length + 1 + Q.length - P.length = Q.length + 1 by omega, List.getElem_cons_succ]
    rw [List.getElem_append_right (by omega)]
    simp
  rw [e1] at h1
  rw [e2] at h2
  exact ⟨h1, h2⟩
def CmpEnd (w : World) (r : Int) (e : Ending) (w' : World) : Prop := e = .returned (.int .i64 r) ∧ Below w.heap.size w w'
set_option maxHeartbeats 1000000 in
theorem cmp_walk (w : World) (a b : Dg) (ha : 0 ≤ a.at_ ∧ a.at_ ≤ 4096) (hb : 0 ≤ b.at_ ∧ b.at_ ≤ 4096) :
    Calls Tryz.prog 76 #[.agg #[.int .i64 a.code, .int .i64 a.at_, .int .i64 a.to, .string a.text], .agg #[.int .i64 b.code, .int .i64 b.at_, .int .i64 b.to, .string b.text]] w (CmpEnd w (a.at_ - b.at_)) := by
  obtain ⟨ac, aa, at2, ax⟩ := a
  obtain ⟨bc, ba, bt, bx⟩ := b
  simp only at ha hb ⊢
  obtain ⟨h1, h2⟩ := ha
  obtain ⟨h3, h4⟩ := hb
  go_enter Tryz.func76, Tryz.ntmps76
  go_wp2_with fail
  go_ret
  exact ⟨rfl, ((Below.refl _ _).alloc (Nat.le_refl _) _).alloc (by simp) _⟩
theorem cmp_run : ∀ args w, (callFunc 76 args).run Tryz.prog w = .ok (.enter 76 args) w := enters_of Tryz.func76 (by kernel_rfl) rfl
/-- How a call ends that has turned the slice's elements. -/
def ArrEnd (w : World) (g cap : Nat) (Q : List Dg → Prop) (e : Ending) (w' : World) : Prop := ∃ l', e = .returned (.tuple #[]) ∧ Q l' ∧ ArrIn w' g cap l' ∧ Kept (gfoot g) w w'
set_option maxRecDepth 100000 in
set_option maxHeartbeats 4000000 in
theorem swap_walk {w : World} {g cap : Nat} (X A M B Y : List Dg) (hA : ArrIn w g cap (X ++ (A ++ (M ++ (B ++ Y))))) (hAB : A.length = B.length) (hn : (X ++ (A ++ (M ++ (B ++ Y)))).length ≤ 100000) (cf : Value) :
    Calls Tryz.prog 190 #[.slice (some ⟨g, 0, none⟩) (X ++ (A ++ (M ++ (B ++ Y)))).length cap, .int .i64 X.length, .int .i64 (X.length + (A.length + M.length) : Nat), .int .i64 A.length, cf] w (ArrEnd w g cap (fun l' => l' = X ++ (B ++ (M ++ (A ++ Y))))) := by
  obtain ⟨n, hn'⟩ : ∃ n, (X ++ (A ++ (M ++ (B ++ Y)))).length = n := ⟨_, rfl⟩
  have hns : n = X.length + (A.length + (M.length + (B.length + Y.length))) := by rw [← hn']; simp
  have hA' := Lib.hid hA
  obtain ⟨a, ha⟩ : ∃ a, X.length = a := ⟨_, rfl⟩
  obtain ⟨m, hm⟩ : ∃ m, M.length = m := ⟨_, rfl⟩
  obtain ⟨q, hq⟩ : ∃ q, A.length = q := ⟨_, rfl⟩
  have hq2 : Hid (B.length = q) := by rw [← hq, hAB]; rfl
  have ha' := Lib.hid ha
  have hm' := Lib.hid hm
  have hq' := Lib.hid hq
  have hnn := Lib.hid hn'
  have hb1 : a + (q + (m + q)) ≤ n := by rw [← ha, ← hm, hns, ← hq]; omega
  rw [hn'] at hn ⊢
  rw [ha, hm, hq]
  clear hA ha hm hq hn' hns hAB
  obtain ⟨b, hb⟩ : ∃ b, a + (q + m) = b := ⟨_, rfl⟩
  rw [hb]
  have hb' := Lib.hid hb
  have hb2 : b + q ≤ n := by omega
  have hb3 : a + q ≤ n := by omega
  clear hb
  go_enter Tryz.func190, Tryz.ntmps190
  go_wp2_with fail
  go_loopw [10] (fun i wr => ∃ k : Nat, k ≤ q ∧ i = .int .i64 k ∧ ArrIn wr g cap (X ++ ((B.take k ++ A.drop k) ++ (M ++ ((A.take k ++ B.drop k) ++ Y)))) ∧ Kept (gfoot g) w wr) (fun i wr => q - (intOf i).toNat)
  case atStart => exact ⟨0, by omega, rfl, by simpa using hA'.out, .refl _ _⟩
  case round =>
    obtain ⟨k, hk, rfl, hAr, hK⟩ := hrel
    by_cases hlt : k < q
    · obtain ⟨x, A2, hxA⟩ : ∃ x A2, A.drop k = x :: A2 := by
        have : 0 < (A.drop k).length := by rw [List.length_drop, hq'.out]; omega
        cases hd : A.drop k with
        | nil => rw [hd] at this; simp at this
        | cons x A2 => exact ⟨x, A2, rfl⟩
      obtain ⟨y, B2, hyB⟩ : ∃ y B2, B.drop k = y :: B2 := by
        have : 0 < (B.drop k).length := by rw [List.length_drop, hq2.out]; omega
        cases hd : B.drop k with
        | nil => rw [hd] at this; simp at this
        | cons y B2 => exact ⟨y, B2, rfl⟩
      have hAl : A2.length + k + 1 = q := by
        have := congrArg List.length hxA
        rw [List.length_drop, hq'.out, List.length_cons] at this
        omega
      have hBl : B2.length + k + 1 = q := by
        have := congrArg List.length hyB
        rw [List.length_drop, hq2.out, List.length_cons] at this
        omega
      have hBt : (B.take k).length = k := by rw [List.length_take, hq2.out]; omega
      have hAt : (A.take k).length = k := by rw [List.length_take, hq'.out]; omega
      have hnext : Hid (X ++ ((B.take (k + 1) ++ A.drop (k + 1)) ++ (M ++ ((A.take (k + 1) ++ B.drop (k + 1)) ++ Y))) = (X ++ B.take k) ++ (y :: ((A2 ++ (M ++ A.take k)) ++ (x :: (B2 ++ Y))))) := by
        have e1 : B.take (k + 1) = B.take k ++ [y] := take_next hyB
        have e2 : A.take (k + 1) = A.take k ++ [x] := take_next hxA
        have e3 : B.drop (k + 1) = B2 := drop_next hyB
        have e4 : A.drop (k + 1) = A2 := drop_next hxA
        unfold Hid
        rw [e1, e2, e3, e4]
        simp
      have hcur : X ++ ((B.take k ++ A.drop k) ++ (M ++ ((A.take k ++ B.drop k) ++ Y))) = (X ++ B.take k) ++ (x :: ((A2 ++ (M ++ A.take k)) ++ (y :: (B2 ++ Y)))) := by
        rw [hxA, hyB]
        simp
      rw [hcur] at hAr
      have hPl : (X ++ B.take k).length = a + k := by rw [List.length_append, ha'.out, hBt]
      have hQl : (A2 ++ (M ++ A.take k)).length + 1 = q + m := by
        rw [List.length_append, List.length_append, hm'.out, hAt]; omega
      have hLl : Hid (((X ++ B.take k) ++ (x :: ((A2 ++ (M ++ A.take k)) ++ (y :: (B2 ++ Y))))).length = n) := by
        have h5 := hnn.out
        simp only [List.length_append, ha'.out, hq'.out, hm'.out, hq2.out] at h5
        simp only [List.length_append, List.length_cons, ha'.out, hm'.out, hBt, hAt]
        show _ = n
        omega
      clear hcur hxA hyB hBt hAt
      generalize X ++ B.take k = P at *
      generalize A2 ++ (M ++ A.take k) = Q at *
      generalize B2 ++ Y = R at *
      obtain ⟨cx, cy⟩ := hAr.two
      rw [hPl] at cx cy
      have hjj : a + k + 1 + Q.length = b + k := by have := hb'.out; omega
      rw [hjj] at cy
      have hjj' := Lib.hid hjj
      have hPl' := Lib.hid hPl
      have hAr' := Lib.hid hAr
      have hK' := Lib.hid hK
      have hfr := hAr.free
      clear hjj hPl hAr hK hQl hAl hBl
      have s1 : IntKind.i64.wrap ((a : Int) + k) = a + k := IntWalk.i64_in _ (by omega)
      have s2 : IntKind.i64.wrap ((b : Int) + k) = b + k := IntWalk.i64_in _ (by omega)
      have s3 : (0 : Int) ≤ (a : Int) + k := by omega
      have s4 : (0 : Int) ≤ (b : Int) + k := by omega
      have s5 : ((a : Int) + k).toNat = a + k := by omega
      have s6 : ((b : Int) + k).toNat = b + k := by omega
      have s7 : (a : Int) + k < n := by omega
      have s8 : (b : Int) + k < n := by omega
      obtain ⟨cx0, cx1, cx2, cx3⟩ := cx
      obtain ⟨cy0, cy1, cy2, cy3⟩ := cy
      go_upto_region 3 with fail
      refine wp_region_held_drew (S := fun u => True) (by kernel_rfl) trivial (fun hHeld => ?_)
      refine wpAnyH_take (i := 0) (v := .slice (some ⟨g, 0, none⟩) n cap) rfl (by kernel_rfl) (by kernel_rfl) (by kernel_rfl) (fun _ _ _ h => h) (Or.inl ⟨by rfl, by intro u hu; (try dsimp only at hu); go_simp⟩) hHeld ?_
      try simp only [Act.put, List.getElem_toArray, List.getElem_cons_zero, List.getElem_cons_succ, List.setIfInBounds_toArray, List.set_cons_zero, List.set_cons_succ]
      refine wpAnyH_take (i := 1) (v := .int .i64 a) rfl (by kernel_rfl) (by kernel_rfl) (by kernel_rfl) (fun _ _ _ h => h) (Or.inl ⟨by rfl, by intro u hu; (try dsimp only at hu); go_simp⟩) hHeld ?_
      try simp only [Act.put, List.getElem_toArray, List.getElem_cons_zero, List.getElem_cons_succ, List.setIfInBounds_toArray, List.set_cons_zero, List.set_cons_succ]
      refine wpAnyH_take (i := 2) (v := .int .i64 k) rfl (by kernel_rfl) (by kernel_rfl) (by kernel_rfl) (fun _ _ _ h => h) (Or.inl ⟨by rfl, by intro u hu; (try dsimp only at hu); go_simp⟩) hHeld ?_
      try simp only [Act.put, List.getElem_toArray, List.getElem_cons_zero, List.getElem_cons_succ, List.setIfInBounds_toArray, List.set_cons_zero, List.set_cons_succ]
      refine wpAnyH_take (i := 3) (v := .int .i64 ((a : Int) + k)) rfl (by kernel_rfl) (by kernel_rfl) (by kernel_rfl) (fun _ _ _ h => h) (Or.inl ⟨by rfl, by intro u hu; (try dsimp only at hu); go_simp⟩) hHeld ?_
      try simp only [Act.put, List.getElem_toArray, List.getElem_cons_zero, List.getElem_cons_succ, List.setIfInBounds_toArray, List.set_cons_zero, List.set_cons_succ]
      refine wpAnyH_take (i := 4) (v := .slice (some ⟨g, 0, none⟩) n cap) rfl (by kernel_rfl) (by kernel_rfl) (by kernel_rfl) (fun _ _ _ h => h) (Or.inl ⟨by rfl, by intro u hu; (try dsimp only at hu); go_simp⟩) hHeld ?_
      try simp only [Act.put, List.getElem_toArray, List.getElem_cons_zero, List.getElem_cons_succ, List.setIfInBounds_toArray, List.set_cons_zero, List.set_cons_succ]
      refine wpAnyH_take (i := 5) (v := .int .i64 b) rfl (by kernel_rfl) (by kernel_rfl) (by kernel_rfl) (fun _ _ _ h => h) (Or.inl ⟨by rfl, by intro u hu; (try dsimp only at hu); go_simp⟩) hHeld ?_
      try simp only [Act.put, List.getElem_toArray, List.getElem_cons_zero, List.getElem_cons_succ, List.setIfInBounds_toArray, List.set_cons_zero, List.set_cons_succ]
      refine wpAnyH_take (i := 6) (v := .int .i64 k) rfl (by kernel_rfl) (by kernel_rfl) (by kernel_rfl) (fun _ _ _ h => h) (Or.inl ⟨by rfl, by intro u hu; (try dsimp only at hu); go_simp⟩) hHeld ?_
      try simp only [Act.put, List.getElem_toArray, List.getElem_cons_zero, List.getElem_cons_succ, List.setIfInBounds_toArray, List.set_cons_zero, List.set_cons_succ]
      refine wpAnyH_take (i := 7) (v := .int .i64 ((b : Int) + k)) rfl (by kernel_rfl) (by kernel_rfl) (by kernel_rfl) (fun _ _ _ h => h) (Or.inl ⟨by rfl, by intro u hu; (try dsimp only at hu); go_simp⟩) hHeld ?_
      try simp only [Act.put, List.getElem_toArray, List.getElem_cons_zero, List.getElem_cons_succ, List.setIfInBounds_toArray, List.set_cons_zero, List.set_cons_succ]
      refine wpAnyH_take (i := 8) (v := .slice (some ⟨g, 0, none⟩) n cap) rfl (by kernel_rfl) (by kernel_rfl) (by kernel_rfl) (fun _ _ _ h => h) (Or.inl ⟨by rfl, by intro u hu; (try dsimp only at hu); go_simp⟩) hHeld ?_
      try simp only [Act.put, List.getElem_toArray, List.getElem_cons_zero, List.getElem_cons_succ, List.setIfInBounds_toArray, List.set_cons_zero, List.set_cons_succ]
      refine wpAnyH_take (i := 9) (v := .int .i64 b) rfl (by kernel_rfl) (by kernel_rfl) (by kernel_rfl) (fun _ _ _ h => h) (Or.inl ⟨by rfl, by intro u hu; (try dsimp only at hu); go_simp⟩) hHeld ?_
      try simp only [Act.put, List.getElem_toArray, List.getElem_cons_zero, List.getElem_cons_succ, List.setIfInBounds_toArray, List.set_cons_zero, List.set_cons_succ]
      refine wpAnyH_take (i := 10) (v := .int .i64 k) rfl (by kernel_rfl) (by kernel_rfl) (by kernel_rfl) (fun _ _ _ h => h) (Or.inl ⟨by rfl, by intro u hu; (try dsimp only at hu); go_simp⟩) hHeld ?_
      try simp only [Act.put, List.getElem_toArray, List.getElem_cons_zero, List.getElem_cons_succ, List.setIfInBounds_toArray, List.set_cons_zero, List.set_cons_succ]
      refine wpAnyH_take (i := 11) (v := .int .i64 ((b : Int) + k)) rfl (by kernel_rfl) (by kernel_rfl) (by kernel_rfl) (fun _ _ _ h => h) (Or.inl ⟨by rfl, by intro u hu; (try dsimp only at hu); go_simp⟩) hHeld ?_
      try simp only [Act.put, List.getElem_toArray, List.getElem_cons_zero, List.getElem_cons_succ, List.setIfInBounds_toArray, List.set_cons_zero, List.set_cons_succ]
      refine wpAnyH_take (i := 12) (v := .pointer (some ⟨g, (b + k) * 4, none⟩)) rfl (by kernel_rfl) (by kernel_rfl) (by kernel_rfl) (fun _ _ _ h => h) (Or.inl ⟨by rfl, by intro u hu; (try dsimp only at hu); go_simp⟩) hHeld ?_
      try simp only [Act.put, List.getElem_toArray, List.getElem_cons_zero, List.getElem_cons_succ, List.setIfInBounds_toArray, List.set_cons_zero, List.set_cons_succ]
      refine wpAnyH_take (i := 14) (v := .slice (some ⟨g, 0, none⟩) n cap) rfl (by kernel_rfl) (by kernel_rfl) (by kernel_rfl) (fun _ _ _ h => h) (Or.inl ⟨by rfl, by intro u hu; (try dsimp only at hu); go_simp⟩) hHeld ?_
      try simp only [Act.put, List.getElem_toArray, List.getElem_cons_zero, List.getElem_cons_succ, List.setIfInBounds_toArray, List.set_cons_zero, List.set_cons_succ]
      refine wpAnyH_take (i := 15) (v := .int .i64 a) rfl (by kernel_rfl) (by kernel_rfl) (by kernel_rfl) (fun _ _ _ h => h) (Or.inl ⟨by rfl, by intro u hu; (try dsimp only at hu); go_simp⟩) hHeld ?_
      try simp only [Act.put, List.getElem_toArray, List.getElem_cons_zero, List.getElem_cons_succ, List.setIfInBounds_toArray, List.set_cons_zero, List.set_cons_succ]
      refine wpAnyH_take (i := 16) (v := .int .i64 k) rfl (by kernel_rfl) (by kernel_rfl) (by kernel_rfl) (fun _ _ _ h => h) (Or.inl ⟨by rfl, by intro u hu; (try dsimp only at hu); go_simp⟩) hHeld ?_
      try simp only [Act.put, List.getElem_toArray, List.getElem_cons_zero, List.getElem_cons_succ, List.setIfInBounds_toArray, List.set_cons_zero, List.set_cons_succ]
      refine wpAnyH_take (i := 17) (v := .int .i64 ((a : Int) + k)) rfl (by kernel_rfl) (by kernel_rfl) (by kernel_rfl) (fun _ _ _ h => h) (Or.inl ⟨by rfl, by intro u hu; (try dsimp only at hu); go_simp⟩) hHeld ?_
      try simp only [Act.put, List.getElem_toArray, List.getElem_cons_zero, List.getElem_cons_succ, List.setIfInBounds_toArray, List.set_cons_zero, List.set_cons_succ]
      refine wpAnyH_take (i := 18) (v := .pointer (some ⟨g, (a + k) * 4, none⟩)) rfl (by kernel_rfl) (by kernel_rfl) (by kernel_rfl) (fun _ _ _ h => h) (Or.inl ⟨by rfl, by intro u hu; (try dsimp only at hu); go_simp⟩) hHeld ?_
      try simp only [Act.put, List.getElem_toArray, List.getElem_cons_zero, List.getElem_cons_succ, List.setIfInBounds_toArray, List.set_cons_zero, List.set_cons_succ]
      refine wpAnyH_ready (rs := [13, 19]) (by kernel_rfl) (by simp) ?_
      refine AllReadyH.cons rfl (fun K hK => ?_) (AllReadyH.cons rfl (fun K hK => ?_) AllReadyH.nil)
      · rw [if_pos (by rfl)]
        go_simp
        · refine hK.out _ _ trivial (fun hHeld => ?_)
          clear hK K
          try simp only [Act.put, List.getElem_toArray, List.getElem_cons_zero, List.getElem_cons_succ, List.setIfInBounds_toArray, List.set_cons_zero, List.set_cons_succ]
          refine wpAnyH_ready (rs := [19]) (by kernel_rfl) (by simp) ?_
          refine AllReadyH.cons rfl (fun K hK => ?_) AllReadyH.nil
          rw [if_pos (by rfl)]
          go_simp
          refine hK.out _ _ trivial (fun hHeld => ?_)
          clear hK K
          try simp only [Act.put, List.getElem_toArray, List.getElem_cons_zero, List.getElem_cons_succ, List.setIfInBounds_toArray, List.set_cons_zero, List.set_cons_succ]
          refine wpAnyH_take (i := 20) (v := .pointer (some ⟨g, (a + k) * 4, none⟩)) rfl (by kernel_rfl) (by kernel_rfl) (by kernel_rfl) (fun _ _ _ h => h) (Or.inl ⟨by rfl, by intro u hu; (try dsimp only at hu); go_simp⟩) hHeld ?_
          try simp only [Act.put, List.getElem_toArray, List.getElem_cons_zero, List.getElem_cons_succ, List.setIfInBounds_toArray, List.set_cons_zero, List.set_cons_succ]
          refine wpAnyH_ready (rs := [21]) (by kernel_rfl) (by simp) ?_
          refine AllReadyH.cons rfl (fun K hK => ?_) AllReadyH.nil
          rw [if_pos (by rfl)]
          go_simp
          refine hK.out _ _ trivial (fun hHeld => ?_)
          clear hK K
          have hW1 := (hAr'.out.set (i := a + k) (by rw [hLl.out]; omega) y).below (Below.refl _ _).drew
          have hKW1 := Lib.hid ((hK'.out.trans (kept_set4 wr g ((a + k) * 4) (.int .i64 y.code) (.int .i64 y.at_) (.int .i64 y.to) (.string y.text))).trans (.drew _))
          generalize ((((wr.setCell ⟨g, (a + k) * 4, none⟩ (.int .i64 y.code)).setCell ⟨g, (a + k) * 4 + 1, none⟩ (.int .i64 y.at_)).setCell ⟨g, (a + k) * 4 + 2, none⟩ (.int .i64 y.to)).setCell ⟨g, (a + k) * 4 + 3, none⟩ (.string y.text)).drew = W1 at *
          obtain ⟨d0, d1, d2, d3⟩ := hW1.cell (i := b + k) (by rw [List.length_set, hLl.out]; omega)
          have hf1 := hW1.free
          have hW1' := Lib.hid hW1
          clear hW1
          try simp only [Act.put, List.getElem_toArray, List.getElem_cons_zero, List.getElem_cons_succ, List.setIfInBounds_toArray, List.set_cons_zero, List.set_cons_succ]
          refine wpAnyH_take (i := 22) (v := .pointer (some ⟨g, (b + k) * 4, none⟩)) rfl (by kernel_rfl) (by kernel_rfl) (by kernel_rfl) (fun _ _ _ h => h) (Or.inl ⟨by rfl, by intro u hu; (try dsimp only at hu); go_simp⟩) hHeld ?_
          try simp only [Act.put, List.getElem_toArray, List.getElem_cons_zero, List.getElem_cons_succ, List.setIfInBounds_toArray, List.set_cons_zero, List.set_cons_succ]
          refine wpAnyH_ready (rs := [23]) (by kernel_rfl) (by simp) ?_
          refine AllReadyH.cons rfl (fun K hK => ?_) AllReadyH.nil
          rw [if_pos (by rfl)]
          go_simp
          refine hK.out _ _ trivial (fun hHeld => ?_)
          clear hK K
          try simp only [Act.put, List.getElem_toArray, List.getElem_cons_zero, List.getElem_cons_succ, List.setIfInBounds_toArray, List.set_cons_zero, List.set_cons_succ]
          refine wpAnyH_done (by kernel_rfl) ?_ _
          clear hHeld
          have hW2 := hW1'.out.set (i := b + k) (by rw [List.length_set, hLl.out]; omega) x
          have hse : ((P ++ (x :: (Q ++ (y :: R)))).set (a + k) y).set (b + k) x = P ++ (y :: (Q ++ (x :: R))) := by
            rw [← hjj'.out, ← hPl'.out]
            exact set_two P Q R x y
          rw [hse] at hW2
          have hW2' := Lib.hid hW2
          have hKW2 := Lib.hid (hKW1.out.trans (kept_set4 W1 g ((b + k) * 4) (.int .i64 x.code) (.int .i64 x.at_) (.int .i64 x.to) (.string x.text)))
          clear hW2 hse d0 d1 d2 d3 hf1 s1 s2 s3 s4 s5 s6 s7 s8 cx0 cx1 cx2 cx3 cy0 cy1 cy2 cy3 hfr
          generalize (((W1.setCell ⟨g, (b + k) * 4, none⟩ _).setCell ⟨g, (b + k) * 4 + 1, none⟩ _).setCell ⟨g, (b + k) * 4 + 2, none⟩ _).setCell ⟨g, (b + k) * 4 + 3, none⟩ _ = W2 at *
          go_wp2
          go_roundw
          case rel => exact ⟨k + 1, by omega, by go_num, by rw [hnext.out]; exact hW2'.out, hKW2.out⟩
          case measure => simp [intOf]; omega
      · rw [if_pos (by rfl)]
        go_simp
        · refine hK.out _ _ trivial (fun hHeld => ?_)
          clear hK K
          try simp only [Act.put, List.getElem_toArray, List.getElem_cons_zero, List.getElem_cons_succ, List.setIfInBounds_toArray, List.set_cons_zero, List.set_cons_succ]
          refine wpAnyH_ready (rs := [13]) (by kernel_rfl) (by simp) ?_
          refine AllReadyH.cons rfl (fun K hK => ?_) AllReadyH.nil
          rw [if_pos (by rfl)]
          go_simp
          refine hK.out _ _ trivial (fun hHeld => ?_)
          clear hK K
          try simp only [Act.put, List.getElem_toArray, List.getElem_cons_zero, List.getElem_cons_succ, List.setIfInBounds_toArray, List.set_cons_zero, List.set_cons_succ]
          refine wpAnyH_take (i := 20) (v := .pointer (some ⟨g, (a + k) * 4, none⟩)) rfl (by kernel_rfl) (by kernel_rfl) (by kernel_rfl) (fun _ _ _ h => h) (Or.inl ⟨by rfl, by intro u hu; (try dsimp only at hu); go_simp⟩) hHeld ?_
          try simp only [Act.put, List.getElem_toArray, List.getElem_cons_zero, List.getElem_cons_succ, List.setIfInBounds_toArray, List.set_cons_zero, List.set_cons_succ]
          refine wpAnyH_ready (rs := [21]) (by kernel_rfl) (by simp) ?_
          refine AllReadyH.cons rfl (fun K hK => ?_) AllReadyH.nil
          rw [if_pos (by rfl)]
          go_simp
          refine hK.out _ _ trivial (fun hHeld => ?_)
          clear hK K
          have hW1 := (hAr'.out.set (i := a + k) (by rw [hLl.out]; omega) y).below (Below.refl _ _).drew
          have hKW1 := Lib.hid ((hK'.out.trans (kept_set4 wr g ((a + k) * 4) (.int .i64 y.code) (.int .i64 y.at_) (.int .i64 y.to) (.string y.text))).trans (.drew _))
          generalize ((((wr.setCell ⟨g, (a + k) * 4, none⟩ (.int .i64 y.code)).setCell ⟨g, (a + k) * 4 + 1, none⟩ (.int .i64 y.at_)).setCell ⟨g, (a + k) * 4 + 2, none⟩ (.int .i64 y.to)).setCell ⟨g, (a + k) * 4 + 3, none⟩ (.string y.text)).drew = W1 at *
          obtain ⟨d0, d1, d2, d3⟩ := hW1.cell (i := b + k) (by rw [List.length_set, hLl.out]; omega)
          have hf1 := hW1.free
          have hW1' := Lib.hid hW1
          clear hW1
          try simp only [Act.put, List.getElem_toArray, List.getElem_cons_zero, List.getElem_cons_succ, List.setIfInBounds_toArray, List.set_cons_zero, List.set_cons_succ]
          refine wpAnyH_take (i := 22) (v := .pointer (some ⟨g, (b + k) * 4, none⟩)) rfl (by kernel_rfl) (by kernel_rfl) (by kernel_rfl) (fun _ _ _ h => h) (Or.inl ⟨by rfl, by intro u hu; (try dsimp only at hu); go_simp⟩) hHeld ?_
          try simp only [Act.put, List.getElem_toArray, List.getElem_cons_zero, List.getElem_cons_succ, List.setIfInBounds_toArray, List.set_cons_zero, List.set_cons_succ]
          refine wpAnyH_ready (rs := [23]) (by kernel_rfl) (by simp) ?_
          refine AllReadyH.cons rfl (fun K hK => ?_) AllReadyH.nil
          rw [if_pos (by rfl)]
          go_simp
          refine hK.out _ _ trivial (fun hHeld => ?_)
          clear hK K
          try simp only [Act.put, List.getElem_toArray, List.getElem_cons_zero, List.getElem_cons_succ, List.setIfInBounds_toArray, List.set_cons_zero, List.set_cons_succ]
          refine wpAnyH_done (by kernel_rfl) ?_ _
          clear hHeld
          have hW2 := hW1'.out.set (i := b + k) (by rw [List.length_set, hLl.out]; omega) x
          have hse : ((P ++ (x :: (Q ++ (y :: R)))).set (a + k) y).set (b + k) x = P ++ (y :: (Q ++ (x :: R))) := by
            rw [← hjj'.out, ← hPl'.out]
            exact set_two P Q R x y
          rw [hse] at hW2
          have hW2' := Lib.hid hW2
          have hKW2 := Lib.hid (hKW1.out.trans (kept_set4 W1 g ((b + k) * 4) (.int .i64 x.code) (.int .i64 x.at_) (.int .i64 x.to) (.string x.text)))
          clear hW2 hse d0 d1 d2 d3 hf1 s1 s2 s3 s4 s5 s6 s7 s8 cx0 cx1 cx2 cx3 cy0 cy1 cy2 cy3 hfr
          generalize (((W1.setCell ⟨g, (b + k) * 4, none⟩ _).setCell ⟨g, (b + k) * 4 + 1, none⟩ _).setCell ⟨g, (b + k) * 4 + 2, none⟩ _).setCell ⟨g, (b + k) * 4 + 3, none⟩ _ = W2 at *
          go_wp2
          go_roundw
          case rel => exact ⟨k + 1, by omega, by go_num, by rw [hnext.out]; exact hW2'.out, hKW2.out⟩
          case measure => simp [intOf]; omega
    · obtain rfl : k = q := by omega
      have hAr' := Lib.hid hAr
      have hK' := Lib.hid hK
      clear hAr hK
      go_wp2_with fail
      go_end0
      refine ⟨_, rfl, rfl, ?_, hK'.out⟩
      have h1 := hAr'.out
      have e1 : B.take k = B := List.take_of_length_le (by rw [hq2.out]; exact Nat.le_refl _)
      have e2 : A.take k = A := List.take_of_length_le (by rw [hq'.out]; exact Nat.le_refl _)
      have e3 : B.drop k = [] := List.drop_eq_nil_of_le (by rw [hq2.out]; exact Nat.le_refl _)
      have e4 : A.drop k = [] := List.drop_eq_nil_of_le (by rw [hq'.out]; exact Nat.le_refl _)
      rw [e1, e2, e3, e4, List.append_nil, List.append_nil] at h1
      exact h1
end Go.Proofs.YthggagophcnkfaaGreatDoor.so
