/- The walks of nested and of syntax.Count. -/
import Derived.Test.YthggagophcnkfaaGreatDoorAwk
import Derived.Test.YthggagophcnkfaaGreatDoorNstT
namespace Go.Proofs.YthggagophcnkfaaGreatDoor.px
open Go.RowKit Go.Proofs.YthggagophcnkfaaGreatDoor.agg Go.Proofs.YthggagophcnkfaaGreatDoor.sx Go.Proofs.YthggagophcnkfaaGreatDoor.lx Go.Proofs.YthggagophcnkfaaGreatDoor.so
set_option linter.unusedSimpArgs false
set_option linter.unusedVariables false

/-- A node as an argument, its kids at a slice. -/
def tagg (t : Tr) (kv : Value) : Value := .agg #[.int .i64 t.kind, .string t.text, .int .i64 t.fr, .int .i64 t.to, kv]
theorem trNest_kids {t : Tr} (h : trNest t = true) : trNests t.fr t.to t.kids = true := by
  cases t
  exact h
/-- What is asked of the nested kids at a number. -/
theorem trNests_drop {e : Int} : ∀ {l : List Tr} {a : Int}, trNests a e l = true → ∀ (j : Nat) (hj : j < l.length), ∃ a', trNests a' e (l.drop j) = true
  | l, a, h, 0, _ => ⟨a, h⟩
  | k :: l, a, h, j + 1, hj => by
    rw [trNests] at h
    simp only [Bool.and_eq_true] at h
    exact trNests_drop h.2 j (by simpa using hj)
theorem trNests_cons {a e : Int} {k : Tr} {l : List Tr} (h : trNests a e (k :: l) = true) : k.fr ≤ k.to ∧ (k.to ≤ k.fr ∨ (a ≤ k.fr ∧ k.to ≤ e)) ∧ trNest k = true ∧ trNests (if k.fr < k.to then k.to else a) e l = true := by
  rw [trNests] at h
  simp only [Bool.and_eq_true, Bool.or_eq_true, decide_eq_true_eq] at h
  exact ⟨h.1.1.1, h.1.1.2, h.1.2, h.2⟩
/-- nested, for the trees below a size. -/
def NestedOk (n : Nat) : Prop := ∀ (W : World) (t : Tr) (ao : Option Addr) (cap : Nat), t.count ≤ n → TreesIn W (.slice ao t.kids.length cap) t.kids → trNest t = true → Calls Tryz.prog 20 #[tagg t (.slice ao t.kids.length cap)] W fun e w' => e = .returned (.bool true) ∧ Below W.heap.size W w'
set_option maxRecDepth 100000 in
set_option maxHeartbeats 4000000 in
theorem nested_step {n : Nat} (ih : NestedOk n) : NestedOk (n + 1) := by
  intro w t ao cap hc hT hN
  have hk := Lib.hid (fun (x : Tr) (hx : x ∈ t.kids) => (show x.count ≤ n by have := Tr.count_kid hx; omega))
  have hn0 := Lib.hid (trNest_kids hN)
  have hT' := Lib.hid hT
  have ih' := Lib.hid ih
  clear hT hN ih hc
  unfold tagg
  generalize t.kids = ks at *
  generalize t.fr = tf at *
  generalize t.to = te at *
  generalize t.kind = tk at *
  generalize t.text = tt at *
  go_enter Tryz.func20, Tryz.ntmps20
  go_wp2_with fail
  obtain ⟨W0, hW0⟩ : ∃ W0, w.alloc (.cells #[.int .i64 tk, .string tt, .int .i64 tf, .int .i64 te, .slice ao ks.length cap] 25) = W0 := ⟨_, rfl⟩
  rw [hW0]
  have hb0 : Hid (Below w.heap.size w W0) := by unfold Hid; rw [← hW0]; exact (Below.refl _ _).alloc (Nat.le_refl _) _
  have hx0 : Hid (W0.heap[w.heap.size]? = some (.cells #[.int .i64 tk, .string tt, .int .i64 tf, .int .i64 te, .slice ao ks.length cap] 25 (0, 0))) := by unfold Hid; rw [← hW0]; exact block_new _ _ _
  clear hW0
  obtain ⟨Z, hZ⟩ : ∃ Z, w.heap.size = Z := ⟨_, rfl⟩
  have hZ' := Lib.hid hZ
  rw [hZ] at hx0 ⊢
  clear hZ
  have hlen : ks.length ≤ 140737488355328 := by
    obtain ⟨_, _, _, h, _⟩ := hT'.out.at_
    exact h
  go_loopw [3, 11] (fun a i wr => ∃ (j : Nat) (v : Int), i = .int .i64 j ∧ a = .int .i64 v ∧ j ≤ ks.length ∧ Hid (trNests v te (ks.drop j) = true) ∧ Hid (Below w.heap.size w wr) ∧ Hid (wr.heap[Z]? = some (.cells #[.int .i64 tk, .string tt, .int .i64 tf, .int .i64 te, .slice ao ks.length cap] 25 (0, 0)))) (fun _ i _ => ks.length - (intOf i).toNat)
  case atStart => exact ⟨0, tf, rfl, rfl, Nat.zero_le _, hn0, hb0, hx0⟩
  case round =>
    clear hn0 hb0 hx0
    obtain ⟨j, v, rfl, rfl, hj, hn, hb, hx⟩ := hrel
    by_cases hlt : j < ks.length
    · obtain ⟨ao3, cp3, e0, _, hc⟩ := (hT'.out.below hb.out).at_
      obtain ⟨rfl, rfl⟩ : ao = ao3 ∧ cap = cp3 := by simpa using e0
      obtain ⟨b, o, kv, rfl, hbl, r1, T1⟩ := hc j hlt
      obtain ⟨ak, ck, rfl, _, _⟩ := T1.at_
      have hmem := hk.out _ (List.getElem_mem hlt)
      have hd := hn.out
      rw [List.drop_eq_getElem_cons hlt] at hd
      obtain ⟨n1, n2, n3, n4⟩ := trNests_cons hd
      have T1' := Lib.hid T1
      have q0 : wr.cell? ⟨b, o + j * 5, none⟩ = some (.int .i64 ks[j].kind) := range_cell r1 0 rfl
      have q1 : wr.cell? ⟨b, o + j * 5 + 1, none⟩ = some (.string ks[j].text) := range_cell r1 1 rfl
      have q2 : wr.cell? ⟨b, o + j * 5 + 2, none⟩ = some (.int .i64 ks[j].fr) := range_cell r1 2 rfl
      have q3 : wr.cell? ⟨b, o + j * 5 + 3, none⟩ = some (.int .i64 ks[j].to) := range_cell r1 3 rfl
      have q4 : wr.cell? ⟨b, o + j * 5 + 4, none⟩ = some (.slice ak ks[j].kids.length ck) := range_cell r1 4 rfl
      have hC := Lib.hid (fun (W : World) (h : TreesIn W (.slice ak ks[j].kids.length ck) ks[j].kids) => ih'.out W ks[j] ak ck hmem h n3)
      unfold tagg at hC
      have hn4 := Lib.hid n4
      clear e0 hc r1 T1 hd hn n3 n4 hmem hk
      generalize ks[j] = k at *
      generalize k.kids = kk at *
      generalize k.fr = kf at *
      generalize k.to = kt at *
      generalize k.kind = kkd at *
      generalize k.text = ktx at *
      have hZlt := lt_of_block hx.out
      have hbA := Lib.hid (fun (o : Obj) => hb.out.alloc hb.out.size o)
      have hxA := Lib.hid (fun (o : Obj) => (Below.heap_alloc wr o Z hZlt).trans hx.out)
      have hTA := Lib.hid (fun (o : Obj) => T1'.out.below ((Below.refl _ wr).alloc (Nat.le_refl _) o))
      have cz : ∀ o : Obj, (wr.alloc o).cell? ⟨Z, 3, none⟩ = some (.int .i64 te) := fun o => (cell_of_row _ _ _ _ _ _ (hxA.out o)).trans rfl
      have f1 : decide (kt < kf) = false := decide_eq_false (by omega)
      clear hb hx T1'
      by_cases hlt2 : kf < kt
      · have f2 : decide (kf < kt) = true := decide_eq_true hlt2
        have f3 : decide (kf < v) = false := decide_eq_false (by omega)
        have f4 : decide (te < kt) = false := decide_eq_false (by omega)
        rw [if_pos hlt2] at hn4
        clear n1 n2
        go_wp2_with (go_at_call 20; refine (hC.out _ (hTA.out _)).mono ?_; rintro e w4 ⟨rfl, b4⟩; have hy := (b4.block _ (by simp)).trans (block_new wr _ _); have y2 : w4.cell? ⟨wr.heap.size, 2, none⟩ = some (.int .i64 kf) := (cell_of_row _ _ _ _ _ _ hy).trans rfl; have y3 : w4.cell? ⟨wr.heap.size, 3, none⟩ = some (.int .i64 kt) := (cell_of_row _ _ _ _ _ _ hy).trans rfl; have b4' := Lib.hid b4; clear b4 hy)
        go_roundw
        case rel => exact ⟨j + 1, _, by go_num, rfl, by omega, hn4, Lib.hid (bel_then (hbA.out _) (hbA.out _).size b4'.out), Lib.hid ((b4'.out.block Z (by have := hZlt; simp; omega)).trans (hxA.out _))⟩
        case measure => simp [intOf]; omega
      · have f2 : decide (kf < kt) = false := decide_eq_false hlt2
        rw [if_neg hlt2] at hn4
        clear n1 n2
        go_wp2_with (go_at_call 20; refine (hC.out _ (hTA.out _)).mono ?_; rintro e w4 ⟨rfl, b4⟩; have hy := (b4.block _ (by simp)).trans (block_new wr _ _); have y2 : w4.cell? ⟨wr.heap.size, 2, none⟩ = some (.int .i64 kf) := (cell_of_row _ _ _ _ _ _ hy).trans rfl; have y3 : w4.cell? ⟨wr.heap.size, 3, none⟩ = some (.int .i64 kt) := (cell_of_row _ _ _ _ _ _ hy).trans rfl; have b4' := Lib.hid b4; clear b4 hy)
        go_roundw
        case rel => exact ⟨j + 1, _, by go_num, rfl, by omega, hn4, Lib.hid (bel_then (hbA.out _) (hbA.out _).size b4'.out), Lib.hid ((b4'.out.block Z (by have := hZlt; simp; omega)).trans (hxA.out _))⟩
        case measure => simp [intOf]; omega
    · obtain rfl : j = ks.length := by omega
      go_wp2_with fail
      go_ret
      exact ⟨rfl, hb.out⟩
theorem nested_ok : ∀ n, NestedOk n := by
  intro n
  induction n with
  | zero =>
    intro W t ao cap hc
    have := Tr.count_pos t
    omega
  | succ n ih => exact nested_step ih
theorem nested_walk (W : World) (t : Tr) (ao : Option Addr) (cap : Nat) (h : TreesIn W (.slice ao t.kids.length cap) t.kids) (hn : trNest t = true) : Calls Tryz.prog 20 #[tagg t (.slice ao t.kids.length cap)] W fun e w' => e = .returned (.bool true) ∧ Below W.heap.size W w' :=
  nested_ok t.count W t ao cap (Nat.le_refl _) h hn
/-- syntax.Count, for the trees below a size. -/
def CountOk (n : Nat) : Prop := ∀ (W : World) (t : Tr) (ao : Option Addr) (cap : Nat), t.count ≤ n → t.count ≤ 1000000 → TreesIn W (.slice ao t.kids.length cap) t.kids → Calls Tryz.prog 21 #[tagg t (.slice ao t.kids.length cap)] W fun e w' => e = .returned (.int .i64 (t.count : Nat)) ∧ Below W.heap.size W w'
theorem count_eq (t : Tr) : t.count = 1 + Tr.counts t.kids := by
  cases t
  rfl
set_option maxRecDepth 100000 in
set_option maxHeartbeats 4000000 in
theorem count_step {n : Nat} (ih : CountOk n) : CountOk (n + 1) := by
  intro w t ao cap hc hm hT
  have hk := Lib.hid (fun (x : Tr) (hx : x ∈ t.kids) => (show x.count ≤ n ∧ x.count ≤ 1000000 by have := Tr.count_kid hx; omega))
  have he := count_eq t
  have hT' := Lib.hid hT
  have ih' := Lib.hid ih
  clear hT ih hc
  unfold tagg
  generalize t.count = m at *
  generalize t.kids = ks at *
  generalize t.fr = tf at *
  generalize t.to = te at *
  generalize t.kind = tk at *
  generalize t.text = tt at *
  have hsum : Hid (1 + Tr.counts (ks.drop 0) = m) := he.symm
  clear he
  go_enter Tryz.func21, Tryz.ntmps21
  go_wp2_with fail
  obtain ⟨W0, hW0⟩ : ∃ W0, w.alloc (.cells #[.int .i64 tk, .string tt, .int .i64 tf, .int .i64 te, .slice ao ks.length cap] 25) = W0 := ⟨_, rfl⟩
  rw [hW0]
  have hb0 : Hid (Below w.heap.size w W0) := by unfold Hid; rw [← hW0]; exact (Below.refl _ _).alloc (Nat.le_refl _) _
  clear hW0
  have hlen : ks.length ≤ 140737488355328 := by
    obtain ⟨_, _, _, h, _⟩ := hT'.out.at_
    exact h
  go_loopw [3, 9] (fun a i wr => ∃ (j c : Nat), i = .int .i64 j ∧ a = .int .i64 c ∧ j ≤ ks.length ∧ Hid (c + Tr.counts (ks.drop j) = m) ∧ Hid (Below w.heap.size w wr)) (fun _ i _ => ks.length - (intOf i).toNat)
  case atStart => exact ⟨0, 1, rfl, rfl, Nat.zero_le _, hsum, hb0⟩
  case round =>
    clear hsum hb0
    obtain ⟨j, c, rfl, rfl, hj, hn, hb⟩ := hrel
    by_cases hlt : j < ks.length
    · obtain ⟨ao3, cp3, e0, _, hc⟩ := (hT'.out.below hb.out).at_
      obtain ⟨rfl, rfl⟩ : ao = ao3 ∧ cap = cp3 := by simpa using e0
      obtain ⟨b, o, kv, rfl, hbl, r1, T1⟩ := hc j hlt
      obtain ⟨ak, ck, rfl, _, _⟩ := T1.at_
      obtain ⟨m1, m2⟩ := hk.out _ (List.getElem_mem hlt)
      have hd := hn.out
      rw [List.drop_eq_getElem_cons hlt, Tr.counts] at hd
      have T1' := Lib.hid T1
      have q0 : wr.cell? ⟨b, o + j * 5, none⟩ = some (.int .i64 ks[j].kind) := range_cell r1 0 rfl
      have q1 : wr.cell? ⟨b, o + j * 5 + 1, none⟩ = some (.string ks[j].text) := range_cell r1 1 rfl
      have q2 : wr.cell? ⟨b, o + j * 5 + 2, none⟩ = some (.int .i64 ks[j].fr) := range_cell r1 2 rfl
      have q3 : wr.cell? ⟨b, o + j * 5 + 3, none⟩ = some (.int .i64 ks[j].to) := range_cell r1 3 rfl
      have q4 : wr.cell? ⟨b, o + j * 5 + 4, none⟩ = some (.slice ak ks[j].kids.length ck) := range_cell r1 4 rfl
      have hC := Lib.hid (fun (W : World) (h : TreesIn W (.slice ak ks[j].kids.length ck) ks[j].kids) => ih'.out W ks[j] ak ck m1 m2 h)
      unfold tagg at hC
      have hn4 : Hid ((c + ks[j].count) + Tr.counts (ks.drop (j + 1)) = m) := Lib.hid (by omega)
      have hcm : c + ks[j].count ≤ 1000000 := by omega
      clear e0 hc r1 T1 hd hn m1 m2 hk
      generalize ks[j] = k at *
      generalize k.kids = kk at *
      generalize k.fr = kf at *
      generalize k.to = kt at *
      generalize k.kind = kkd at *
      generalize k.text = ktx at *
      generalize k.count = kc at *
      have hbA := Lib.hid (fun (o : Obj) => hb.out.alloc hb.out.size o)
      have hTA := Lib.hid (fun (o : Obj) => T1'.out.below ((Below.refl _ wr).alloc (Nat.le_refl _) o))
      clear hb T1'
      go_wp2_with (go_at_call 21; refine (hC.out _ (hTA.out _)).mono ?_; rintro e w4 ⟨rfl, b4⟩; have b4' := Lib.hid b4; clear b4)
      go_roundw
      case rel => exact ⟨j + 1, c + kc, by go_num, by go_num, by omega, hn4, Lib.hid (bel_then (hbA.out _) (hbA.out _).size b4'.out)⟩
      case measure => simp [intOf]; omega
    · obtain rfl : j = ks.length := by omega
      have hcm : Hid (c = m) := by
        have := hn.out
        rw [List.drop_eq_nil_of_le (Nat.le_refl _)] at this
        exact this
      go_wp2_with fail
      go_ret
      exact ⟨by rw [← hcm.out]; rfl, hb.out⟩
theorem count_ok : ∀ n, CountOk n := by
  intro n
  induction n with
  | zero =>
    intro W t ao cap hc
    have := Tr.count_pos t
    omega
  | succ n ih => exact count_step ih
theorem count_walk (W : World) (t : Tr) (ao : Option Addr) (cap : Nat) (hc : t.count ≤ 1000000) (h : TreesIn W (.slice ao t.kids.length cap) t.kids) : Calls Tryz.prog 21 #[tagg t (.slice ao t.kids.length cap)] W fun e w' => e = .returned (.int .i64 (t.count : Nat)) ∧ Below W.heap.size W w' :=
  count_ok t.count W t ao cap (Nat.le_refl _) hc h
end Go.Proofs.YthggagophcnkfaaGreatDoor.px
