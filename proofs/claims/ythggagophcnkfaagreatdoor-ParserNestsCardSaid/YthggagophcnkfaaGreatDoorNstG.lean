/- The walk of syntax.Get. -/
import Derived.Test.YthggagophcnkfaaGreatDoorNstW
namespace Go.Proofs.YthggagophcnkfaaGreatDoor.px
open Go.RowKit Go.Proofs.YthggagophcnkfaaGreatDoor.agg Go.Proofs.YthggagophcnkfaaGreatDoor.sx Go.Proofs.YthggagophcnkfaaGreatDoor.lx Go.Proofs.YthggagophcnkfaaGreatDoor.so
set_option linter.unusedSimpArgs false
set_option linter.unusedVariables false

/-- The tree at a path. -/
def getT : Tr → List Nat → Option Tr
  | t, [] => some t
  | t, i :: p => match t.kids[i]? with
    | some k => getT k p
    | none => none
theorem getT_snoc : ∀ {p : List Nat} {t x k : Tr} {i : Nat}, getT t p = some x → x.kids[i]? = some k → getT t (p ++ [i]) = some k
  | [], t, x, k, i, h, hk => by
    obtain rfl : t = x := by simpa [getT] using h
    rw [List.nil_append, getT, hk]
    rfl
  | j :: p, t, x, k, i, h, hk => by
    rw [getT] at h
    rw [List.cons_append, getT]
    cases hj : t.kids[j]? with
    | none => rw [hj] at h; cases h
    | some y =>
      rw [hj] at h
      exact getT_snoc (p := p) h hk
theorem getT_all {P : Tr → Prop} : ∀ {p : List Nat} {t x : Tr}, allT P t → getT t p = some x → allT P x
  | [], t, x, ha, h => by
    obtain rfl : t = x := by simpa [getT] using h
    exact ha
  | j :: p, t, x, ha, h => by
    rw [getT] at h
    cases hj : t.kids[j]? with
    | none => rw [hj] at h; cases h
    | some y =>
      rw [hj] at h
      exact getT_all (ha.kid y (List.mem_of_getElem? hj)) h
theorem getT_cons {i : Nat} {p : List Nat} {t x : Tr} (h : getT t (i :: p) = some x) : ∃ hi : i < t.kids.length, getT t.kids[i] p = some x := by
  rw [getT] at h
  cases hj : t.kids[i]? with
  | none => rw [hj] at h; cases h
  | some y =>
    rw [hj] at h
    obtain ⟨hi, e⟩ := List.getElem?_eq_some_iff.1 hj
    exact ⟨hi, by rw [e]; exact h⟩
/-- A slice of numbers that is read. -/
def IntsIn (w : World) (v : Value) (l : List Nat) : Prop :=
  ∃ ao cap, v = .slice ao l.length cap ∧ ∀ j, (hj : j < l.length) → ∃ b o, ao = some ⟨b, o, none⟩ ∧ b < w.heap.size ∧ w.cell? ⟨b, o + j, none⟩ = some (.int .i64 l[j])
theorem IntsIn.below {w w' : World} {v : Value} {l : List Nat} (h : IntsIn w v l) (hb : Below w.heap.size w w') : IntsIn w' v l := by
  obtain ⟨ao, cap, rfl, hc⟩ := h
  refine ⟨ao, cap, rfl, fun j hj => ?_⟩
  obtain ⟨b, o, e, hlt, hcj⟩ := hc j hj
  exact ⟨b, o, e, Nat.lt_of_lt_of_le hlt hb.size, (hb.cell (p := ⟨b, _, none⟩) hlt).trans hcj⟩
def GetEnd (w : World) (x : Tr) (e : Ending) (w' : World) : Prop :=
  ∃ ao cap, e = .returned (.tuple #[tagg x (.slice ao x.kids.length cap), .bool true]) ∧ TreesIn w' (.slice ao x.kids.length cap) x.kids ∧ Below w.heap.size w w'
set_option maxRecDepth 100000 in
set_option maxHeartbeats 4000000 in
theorem get_walk (w : World) (t x : Tr) (ao : Option Addr) (cap : Nat) (v : Value) (p : List Nat) (hT : TreesIn w (.slice ao t.kids.length cap) t.kids) (hp : IntsIn w v p) (hg : getT t p = some x) (hl : p.length ≤ 1000000) :
    Calls Tryz.prog 23 #[tagg t (.slice ao t.kids.length cap), v] w (GetEnd w x) := by
  obtain ⟨ap, cp, rfl, _⟩ := id hp
  have hp' := Lib.hid hp
  have hT' := Lib.hid hT
  have hg' : Hid (getT t (p.drop 0) = some x) := hg
  clear hp hT hg
  unfold tagg
  go_enter Tryz.func23, Tryz.ntmps23
  go_wp2_with fail
  obtain ⟨W0, hW0⟩ : ∃ W0, (w.alloc (.cells #[.int .i64 t.kind, .string t.text, .int .i64 t.fr, .int .i64 t.to, .slice ao t.kids.length cap] 25)).alloc zbox = W0 := ⟨_, rfl⟩
  rw [hW0]
  have hb0 : Hid (Below w.heap.size w W0) := by unfold Hid; rw [← hW0]; exact ((Below.refl _ _).alloc (Nat.le_refl _) _).alloc (by simp) _
  have hx0 : Hid (W0.heap[w.heap.size]? = some (.cells #[.int .i64 t.kind, .string t.text, .int .i64 t.fr, .int .i64 t.to, .slice ao t.kids.length cap] 25 (0, 0))) := by unfold Hid; rw [← hW0]; exact (two_new _ _ _ _ _).1
  have hz0 : Hid (W0.heap[w.heap.size + 1]? = some zbox) := by unfold Hid; rw [← hW0]; exact (two_new _ _ _ _ _).2
  clear hW0
  obtain ⟨Z, hZ⟩ : ∃ Z, w.heap.size = Z := ⟨_, rfl⟩
  have hZ' := Lib.hid hZ
  rw [hZ] at hx0 hz0 ⊢
  clear hZ
  go_loopw [10] (fun i wr => ∃ (j : Nat) (y : Tr) (ay : Option Addr) (cy : Nat), i = .int .i64 j ∧ j ≤ p.length ∧ Hid (getT y (p.drop j) = some x) ∧ Hid (wr.heap[Z]? = some (.cells #[.int .i64 y.kind, .string y.text, .int .i64 y.fr, .int .i64 y.to, .slice ay y.kids.length cy] 25 (0, 0))) ∧ Hid (wr.heap[Z + 1]? = some zbox) ∧ Hid (TreesIn w (.slice ay y.kids.length cy) y.kids) ∧ Hid (Below w.heap.size w wr)) (fun i _ => p.length - (intOf i).toNat)
  case atStart => exact ⟨0, t, ao, cap, rfl, Nat.zero_le _, hg', hx0, hz0, hT', hb0⟩
  case round =>
    clear hb0 hx0 hz0 hT' hg'
    obtain ⟨j, y, ay, cy, rfl, hj, hg, hx, hz, hT, hb⟩ := hrel
    have cx : ∀ i u, (#[Value.int .i64 y.kind, .string y.text, .int .i64 y.fr, .int .i64 y.to, .slice ay y.kids.length cy] : Array Value)[i]? = some u → wr.cell? ⟨Z, i, none⟩ = some u := fun i u h => (cell_of_row _ _ _ _ _ _ hx.out).trans h
    have c0 := cx 0 _ rfl
    have c1 := cx 1 _ rfl
    have c2 := cx 2 _ rfl
    have c3 := cx 3 _ rfl
    have c4 := cx 4 _ rfl
    have fz : ∀ i, wr.frozen? ⟨Z, i, none⟩ = false := fun i => by simp [World.frozen?, hx.out]
    clear cx
    by_cases hlt : j < p.length
    · obtain ⟨ap2, cp2, e0, hc⟩ := hp'.out.below hb.out
      obtain ⟨rfl, rfl⟩ : ap = ap2 ∧ cp = cp2 := by simpa using e0
      obtain ⟨b1, o1, rfl, hb1, q⟩ := hc j hlt
      have hd := hg.out
      rw [List.drop_eq_getElem_cons hlt] at hd
      obtain ⟨hi, hd2⟩ := getT_cons hd
      obtain ⟨ay2, cy2, e1, hyl, hk⟩ := hT.out.at_
      obtain ⟨rfl, rfl⟩ : ay = ay2 ∧ cy = cy2 := by simpa using e1
      obtain ⟨b2, o2, kv, rfl, hb2, r1, T1⟩ := hk _ hi
      obtain ⟨ak, ck, rfl, _, _⟩ := T1.at_
      have T1' := Lib.hid T1
      have r2 := range_below r1 hb2 hb.out
      have hd' := Lib.hid hd2
      generalize p[j] = i0 at *
      generalize y.kids[i0] = k at *
      have q0 : wr.cell? ⟨b2, o2 + i0 * 5, none⟩ = some (.int .i64 k.kind) := range_cell r2 0 rfl
      have q1 : wr.cell? ⟨b2, o2 + i0 * 5 + 1, none⟩ = some (.string k.text) := range_cell r2 1 rfl
      have q2 : wr.cell? ⟨b2, o2 + i0 * 5 + 2, none⟩ = some (.int .i64 k.fr) := range_cell r2 2 rfl
      have q3 : wr.cell? ⟨b2, o2 + i0 * 5 + 3, none⟩ = some (.int .i64 k.to) := range_cell r2 3 rfl
      have q4 : wr.cell? ⟨b2, o2 + i0 * 5 + 4, none⟩ = some (.slice ak k.kids.length ck) := range_cell r2 4 rfl
      clear hc hk e0 e1 hd hd2 r1 r2 T1 hT hg
      have g1 : decide ((y.kids.length : Int) ≤ i0) = false := decide_eq_false (by omega)
      go_wp2_with fail
      have hKz := kept5 wr Z (.int .i64 k.kind) (.string k.text) (.int .i64 k.fr) (.int .i64 k.to) (.slice ak k.kids.length ck)
      have hz2 := Lib.hid ((hKz.block (Z + 1) (lt_of_block hz.out) (fun e => by omega)).trans hz.out)
      have hb2' := Lib.hid (hb.out.trans (hKz.below w.heap.size hb.out.size (fun i hi => by have := hZ'.out; omega)))
      have hx2 : Hid ((((((wr.setCell ⟨Z, 0, none⟩ (.int .i64 k.kind)).setCell ⟨Z, 1, none⟩ (.string k.text)).setCell ⟨Z, 2, none⟩ (.int .i64 k.fr)).setCell ⟨Z, 3, none⟩ (.int .i64 k.to)).setCell ⟨Z, 4, none⟩ (.slice ak k.kids.length ck)).heap[Z]? = some (.cells #[.int .i64 k.kind, .string k.text, .int .i64 k.fr, .int .i64 k.to, .slice ak k.kids.length ck] 25 (0, 0))) := by
        unfold Hid
        rw [heap_setCell_same _ _ _ _ _ _ (heap_setCell_same _ _ _ _ _ _ (heap_setCell_same _ _ _ _ _ _ (heap_setCell_same _ _ _ _ _ _ (heap_setCell_same _ _ _ _ _ _ hx.out))))]
        exact rfl
      clear hKz
      go_roundw
      case rel => exact ⟨j + 1, k, ak, ck, by go_num, by omega, hd', hx2, hz2, T1', hb2'⟩
      case measure => simp [intOf]; omega
    · obtain rfl : j = p.length := by omega
      have hxy : Hid (y = x) := by
        have h := hg.out
        rw [List.drop_eq_nil_of_le (Nat.le_refl _), getT] at h
        exact Option.some.inj h
      obtain ⟨z0, z1, z2, z3, z4⟩ : wr.cell? ⟨Z + 1, 0, none⟩ = some (.int .i64 0) ∧ wr.cell? ⟨Z + 1, 1, none⟩ = some (.string ⟨#[]⟩) ∧ wr.cell? ⟨Z + 1, 2, none⟩ = some (.int .i64 0) ∧ wr.cell? ⟨Z + 1, 3, none⟩ = some (.int .i64 0) ∧ wr.cell? ⟨Z + 1, 4, none⟩ = some (.slice none 0 0) := by
        have hbz := hz.out
        refine ⟨?_, ?_, ?_, ?_, ?_⟩ <;> simp [World.cell?, hbz, zbox]
      have fz2 : ∀ i, wr.frozen? ⟨Z + 1, i, none⟩ = false := fun i => by simp [World.frozen?, hz.out]
      go_wp2_with fail
      refine bodyPost_ret (v := .tuple #[tagg y (.slice ay y.kids.length cy), .bool true]) (by simp [results, Tryz.results23, go_sem, z0, z1, z2, z3, z4, tagg] <;> rfl) rfl ?_
      have hKz := kept5 wr (Z + 1) (.int .i64 y.kind) (.string y.text) (.int .i64 y.fr) (.int .i64 y.to) (.slice ay y.kids.length cy)
      have hb2' := hb.out.trans (hKz.below w.heap.size hb.out.size (fun i hi => by have := hZ'.out; omega))
      rw [← hxy.out]
      exact ⟨ay, cy, rfl, hT.out.below hb2', hb2'⟩
end Go.Proofs.YthggagophcnkfaaGreatDoor.px
