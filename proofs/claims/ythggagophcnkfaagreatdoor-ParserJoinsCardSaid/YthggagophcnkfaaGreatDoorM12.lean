/- Slices of diagnostics that are read; the walks of the reference's Same and of slices.Contains on them. Trees that are read. No function of the program is walked here. The examples that the parser's statements check first: what is read of them. No function of the program is walked here. -/
import Derived.Test.YthggagophcnkfaaGreatDoorSortC
import Derived.Test.YthggagophcnkfaaGreatDoorM8
import Derived.Test.YthggagophcnkfaaGreatDoorPParse
import Derived.Test.YthggagophcnkfaaGreatDoorM1
namespace Go.Proofs.YthggagophcnkfaaGreatDoor.px
open Go.RowKit Go.Proofs.YthggagophcnkfaaGreatDoor.agg Go.Proofs.YthggagophcnkfaaGreatDoor.sx Go.Proofs.YthggagophcnkfaaGreatDoor.lx Go.Proofs.YthggagophcnkfaaGreatDoor.so
set_option linter.unusedSimpArgs false
set_option linter.unusedVariables false

/-- A slice of diagnostics that is read. -/
def DgsIn (w : World) (v : Value) (l : List Dg) : Prop :=
  ∃ ao cap, v = .slice ao l.length cap ∧ ∀ i (h : i < l.length), ∃ b o, ao = some ⟨b, o, none⟩ ∧ b < w.heap.size ∧ w.rangeAt b (o + i * 4) l[i].cells.toList
theorem DgsIn.below {w w' : World} {v : Value} {l : List Dg} (h : DgsIn w v l) (hb : Below w.heap.size w w') : DgsIn w' v l := by
  obtain ⟨ao, cap, rfl, hc⟩ := h
  refine ⟨ao, cap, rfl, fun j hj => ?_⟩
  obtain ⟨b, o, e, hlt, hcj⟩ := hc j hj
  exact ⟨b, o, e, Nat.lt_of_lt_of_le hlt hb.size, fun k u hk => (hb.cell (p := ⟨b, _, none⟩) hlt).trans (hcj k u hk)⟩
theorem DgsIn.of_row {w : World} {B : Nat} {v : Value} {l : List Dg} (h : w.ownsRow B 34 4 v l.length (dgV l)) : DgsIn w v l := by
  rcases h.2 with ⟨rfl, h0⟩ | ⟨g, cap, cur, rfl, hg, hb, _⟩
  · obtain rfl := List.eq_nil_of_length_eq_zero h0
    exact ⟨none, 0, rfl, fun i hi => by simp at hi⟩
  · refine ⟨_, cap, rfl, fun i hi => ⟨g, 0, rfl, lt_of_block hb, fun j u hu => ?_⟩⟩
    have := h.cells (g := g) rfl (i * 4 + j) _ (dgV_get l hi hu)
    simpa [Addr.add_lit] using this
theorem range_below {w u : World} {b o : Nat} {cs : List Value} (h : w.rangeAt b o cs) (hb : b < w.heap.size) (hu : Below w.heap.size w u) : u.rangeAt b o cs := fun j v hv => (hu.cell (p := ⟨b, _, none⟩) hb).trans (h j v hv)
set_option maxRecDepth 100000 in
set_option maxHeartbeats 2000000 in
theorem rsame_walk (w : World) (v v2 : Value) (l : List Dg) (h : DgsIn w v l) (h2 : DgsIn w v2 l) (hl : l.length < 1000000) :
    Calls Tryz.prog 13 #[v, v2] w fun e w' => e = .returned (.bool true) ∧ Below w.heap.size w w' := by
  have hh := Lib.hid h
  have hh2 := Lib.hid h2
  obtain ⟨ao, ca, rfl, hc⟩ := h
  obtain ⟨ao2, ca2, rfl, hc2⟩ := h2
  clear hc hc2
  go_enter Tryz.func13, Tryz.ntmps13
  go_wp2_with fail
  go_loopw [5] (fun i wr => ∃ j : Nat, j ≤ l.length ∧ i = .int .i64 j ∧ Hid (Below w.heap.size w wr)) (fun i _ => l.length - (intOf i).toNat)
  case atStart => exact ⟨0, Nat.zero_le _, rfl, Below.refl _ _⟩
  case round =>
    obtain ⟨j, hj, rfl, hb⟩ := hrel
    by_cases hlt : j < l.length
    · obtain ⟨ao3, cp3, e0, hc⟩ := hh.out.below hb.out
      obtain ⟨rfl, rfl⟩ : ao = ao3 ∧ ca = cp3 := by simpa using e0
      obtain ⟨ao4, cp4, e1, hc2⟩ := hh2.out.below hb.out
      obtain ⟨rfl, rfl⟩ : ao2 = ao4 ∧ ca2 = cp4 := by simpa using e1
      obtain ⟨b1, o1, rfl, hb1, r1⟩ := hc j hlt
      obtain ⟨b2, o2, rfl, hb2, r2⟩ := hc2 j hlt
      clear hc hc2 e0 e1
      generalize l[j] = d at *
      have r1' := Lib.hid r1
      have r2' := Lib.hid r2
      clear r1 r2
      go_upto_region 6 with fail
      refine wp_region_held_drew (S := fun u => Below wr.heap.size wr u) (by kernel_rfl) (Below.refl _ _).drew (fun hHeld => ?_)
      refine wpAnyH_take (i := 0) (v := .slice (some ⟨b1, o1, none⟩) l.length ca) rfl (by kernel_rfl) (by kernel_rfl) (by kernel_rfl) (fun _ _ _ h => h) (Or.inl ⟨by rfl, by intro u hu; (try dsimp only at hu); go_simp⟩) hHeld ?_
      try simp only [Act.put, List.getElem_toArray, List.getElem_cons_zero, List.getElem_cons_succ, List.setIfInBounds_toArray, List.set_cons_zero, List.set_cons_succ]
      refine wpAnyH_take (i := 1) (v := .int .i64 j) rfl (by kernel_rfl) (by kernel_rfl) (by kernel_rfl) (fun _ _ _ h => h) (Or.inl ⟨by rfl, by intro u hu; (try dsimp only at hu); go_simp⟩) hHeld ?_
      try simp only [Act.put, List.getElem_toArray, List.getElem_cons_zero, List.getElem_cons_succ, List.setIfInBounds_toArray, List.set_cons_zero, List.set_cons_succ]
      refine wpAnyH_take (i := 2) (v := .pointer (some ⟨b1, o1 + j * 4, none⟩)) rfl (by kernel_rfl) (by kernel_rfl) (by kernel_rfl) (fun _ _ _ h => h) (Or.inl ⟨by rfl, by intro u hu; (try dsimp only at hu); go_simp⟩) hHeld ?_
      try simp only [Act.put, List.getElem_toArray, List.getElem_cons_zero, List.getElem_cons_succ, List.setIfInBounds_toArray, List.set_cons_zero, List.set_cons_succ]
      refine wpAnyH_take (i := 3) (v := .agg #[.int .i64 d.code, .int .i64 d.at_, .int .i64 d.to, .string d.text]) rfl (by kernel_rfl) (by kernel_rfl) (by kernel_rfl) (fun _ _ _ h => h) (yieldsIf_load_mid (by rfl) _ _ rfl _ _ rfl [.int .i64 d.code, .int .i64 d.at_, .int .i64 d.to, .string d.text] _ (fun _ h => range_below r1'.out hb1 h) Tryz.underlying34 rfl info_dg4) hHeld ?_
      try simp only [Act.put, List.getElem_toArray, List.getElem_cons_zero, List.getElem_cons_succ, List.setIfInBounds_toArray, List.set_cons_zero, List.set_cons_succ]
      refine wpAnyH_take (i := 4) (v := .slice (some ⟨b2, o2, none⟩) l.length ca2) rfl (by kernel_rfl) (by kernel_rfl) (by kernel_rfl) (fun _ _ _ h => h) (Or.inl ⟨by rfl, by intro u hu; (try dsimp only at hu); go_simp⟩) hHeld ?_
      try simp only [Act.put, List.getElem_toArray, List.getElem_cons_zero, List.getElem_cons_succ, List.setIfInBounds_toArray, List.set_cons_zero, List.set_cons_succ]
      refine wpAnyH_take (i := 5) (v := .int .i64 j) rfl (by kernel_rfl) (by kernel_rfl) (by kernel_rfl) (fun _ _ _ h => h) (Or.inl ⟨by rfl, by intro u hu; (try dsimp only at hu); go_simp⟩) hHeld ?_
      try simp only [Act.put, List.getElem_toArray, List.getElem_cons_zero, List.getElem_cons_succ, List.setIfInBounds_toArray, List.set_cons_zero, List.set_cons_succ]
      refine wpAnyH_take (i := 6) (v := .pointer (some ⟨b2, o2 + j * 4, none⟩)) rfl (by kernel_rfl) (by kernel_rfl) (by kernel_rfl) (fun _ _ _ h => h) (Or.inl ⟨by rfl, by intro u hu; (try dsimp only at hu); go_simp⟩) hHeld ?_
      try simp only [Act.put, List.getElem_toArray, List.getElem_cons_zero, List.getElem_cons_succ, List.setIfInBounds_toArray, List.set_cons_zero, List.set_cons_succ]
      refine wpAnyH_take (i := 7) (v := .agg #[.int .i64 d.code, .int .i64 d.at_, .int .i64 d.to, .string d.text]) rfl (by kernel_rfl) (by kernel_rfl) (by kernel_rfl) (fun _ _ _ h => h) (yieldsIf_load_mid (by rfl) _ _ rfl _ _ rfl [.int .i64 d.code, .int .i64 d.at_, .int .i64 d.to, .string d.text] _ (fun _ h => range_below r2'.out hb2 h) Tryz.underlying34 rfl info_dg4) hHeld ?_
      try simp only [Act.put, List.getElem_toArray, List.getElem_cons_zero, List.getElem_cons_succ, List.setIfInBounds_toArray, List.set_cons_zero, List.set_cons_succ]
      refine wpAnyH_take (i := 8) (v := .bool false) rfl (by kernel_rfl) (by kernel_rfl) (by kernel_rfl) (fun _ _ _ h => h) (Or.inl ⟨by rfl, by intro u hu; (try dsimp only at hu); go_simp⟩) hHeld ?_
      try simp only [Act.put, List.getElem_toArray, List.getElem_cons_zero, List.getElem_cons_succ, List.setIfInBounds_toArray, List.set_cons_zero, List.set_cons_succ]
      refine wpAnyH_done (by kernel_rfl) ?_ _
      clear hHeld
      go_wp2
      go_roundw
      case rel => exact ⟨j + 1, by omega, by go_num, hb.out.drew⟩
      case measure => simp [intOf]; omega
    · obtain rfl : j = l.length := by omega
      go_wp2_with fail
      go_ret
      exact ⟨rfl, hb.out⟩
/-- Same, the second list in a new slice. -/
theorem rsame_new (W : World) (l : List Dg) (v : Value) (h : DgsIn W v l) (hl : l.length < 1000000) {n a : Nat} (hn : n = l.length) (ha : a = W.heap.size) {cs : Array Value} (hc : cs = (dgV l).toArray) :
    Calls Tryz.prog 13 #[v, .slice (some ⟨a, 0, none⟩) n n] (W.alloc (.cells cs 34)) fun e w' => e = .returned (.bool true) ∧ Below W.heap.size W w' := by
  subst hn ha hc
  have hb := (Below.refl _ W).alloc (Nat.le_refl _) (.cells (dgV l).toArray 34)
  have h2 : DgsIn (W.alloc (.cells (dgV l).toArray 34)) (.slice (some ⟨W.heap.size, 0, none⟩) l.length l.length) l := by
    refine ⟨_, _, rfl, fun i hi => ⟨_, 0, rfl, by simp, fun j u hu => ?_⟩⟩
    refine (cell_of_row _ _ _ _ _ _ (MapKept.heap_alloc W _).1).trans ?_
    simpa using dgV_get l hi hu
  exact (rsame_walk _ _ _ l (h.below hb) h2 hl).mono fun e w' hw => ⟨hw.1, hb.trans (hw.2.mono hb.size)⟩
end Go.Proofs.YthggagophcnkfaaGreatDoor.px
namespace Go.Proofs.YthggagophcnkfaaGreatDoor.px
open Go.RowKit Go.Proofs.YthggagophcnkfaaGreatDoor.agg Go.Proofs.YthggagophcnkfaaGreatDoor.sx Go.Proofs.YthggagophcnkfaaGreatDoor.lx Go.Proofs.YthggagophcnkfaaGreatDoor.so
set_option linter.unusedSimpArgs false
set_option linter.unusedVariables false

/-- The nodes at the slice kv are these trees. -/
def TreesIn (w : World) (kv : Value) (ts : List Tr) : Prop := ∃ (G : Nat → Prop) (ks : List Nd), KidsAt G w kv ks ∧ (∀ n ∈ ks, NodeIn G w n) ∧ trs ks = ts
theorem TreesIn.below {w w' : World} {kv : Value} {ts : List Tr} (h : TreesIn w kv ts) (hb : Below w.heap.size w w') : TreesIn w' kv ts := by
  obtain ⟨G, ks, h1, h2, h3⟩ := h
  exact ⟨G, ks, h1.same (fun b hb' _ => hb.block b hb') hb.size (fun _ _ h => h), fun n hn => (h2 n hn).later hb, h3⟩
/-- The cells of a tree, its kids at a slice. -/
def trow (t : Tr) (kv : Value) : List Value := [.int .i64 t.kind, .string t.text, .int .i64 t.fr, .int .i64 t.to, kv]
theorem TreesIn.at_ {w : World} {kv : Value} {ts : List Tr} (h : TreesIn w kv ts) : ∃ ao cap, kv = .slice ao ts.length cap ∧ ts.length ≤ 140737488355328 ∧ ∀ i (hi : i < ts.length), ∃ b o kv', ao = some ⟨b, o, none⟩ ∧ b < w.heap.size ∧ w.rangeAt b (o + i * 5) (trow ts[i] kv') ∧ TreesIn w kv' ts[i].kids := by
  obtain ⟨G, ks, ⟨ao, cap, rfl, hl, hc⟩, h2, rfl⟩ := h
  have e : (trs ks).length = ks.length := by rw [trs_map, List.length_map]
  refine ⟨ao, cap, by rw [e], by rw [e]; exact hl, fun i hi => ?_⟩
  rw [e] at hi
  obtain ⟨b, o, rfl, hG, hlt, hcj⟩ := hc (by omega)
  have hi2 : (trs ks)[i]'(by rw [e]; exact hi) = ks[i].tr := by simp [trs_map]
  have hn := h2 _ (List.getElem_mem hi)
  have hcj' := hcj i hi
  rw [hi2]
  generalize ks[i] = n at *
  cases hn with
  | @mk k t a e' kv' ks' h1' h2' =>
    refine ⟨b, o, kv', rfl, hlt, fun j u hu => hcj' j u ?_, ?_⟩
    · simpa [trow, Nd.cells, Nd.tr, Tr.kind, Tr.text, Tr.fr, Tr.to, Nd.kind, Nd.text, Nd.fr, Nd.to, Nd.kv] using hu
    · exact ⟨G, ks', h1', h2', by simp [Nd.tr, Tr.kids]⟩
/-- How a call that parses ends: the tree, the diagnostics, as they are read. -/
def PEnd (w : World) (r : Tr × List Dg) (e : Ending) (w' : World) : Prop :=
  ∃ ao cap lv, e = .returned (.tuple #[.agg #[.int .i64 r.1.kind, .string r.1.text, .int .i64 r.1.fr, .int .i64 r.1.to, .slice ao r.1.kids.length cap], lv, .int .i64 0]) ∧ TreesIn w' (.slice ao r.1.kids.length cap) r.1.kids ∧ DgsIn w' lv r.2 ∧ Below w.heap.size w w'
theorem ParseEnd.read {w : World} {T : ByteArray} {r : Tr × List Dg} {e : Ending} {w' : World} (h : ParseEnd w T r e w') : PEnd w r e w' := by
  obtain ⟨lv, nk, nt, na, ne, nao, ncap, nks, rfl, h1, h2, h3, h4, _⟩ := h
  have hl : r.1.kids.length = nks.length := by
    rw [← h1, Nd.tr_kids, List.length_map]
    rfl
  cases h2 with
  | mk k1 k2 =>
    refine ⟨nao, ncap, lv, ?_, ?_, .of_row h3, h4⟩
    · rw [hl, ← h1]
      rfl
    · rw [hl]
      exact ⟨_, nks, k1, k2, by rw [← h1]; rfl⟩
theorem parse_read (w : World) (hT : TabIn w) (T : ByteArray) (hs : T.size ≤ 4096) : Calls Tryz.prog 10 #[.string T] w (PEnd w (parse T)) :=
  (parse_walk w hT T hs).mono fun _ _ h => h.read
theorem parse_readOk (w : World) (hT : TabIn w) (T : ByteArray) (hs : T.size ≤ 4096) : Calls Tryz.prog 10 #[.string T] w (fun e w' => PEnd w (parse T) e w' ∧ ResOk T (parse T).2 ∧ FinOk T) :=
  (parse_walk w hT T hs).mono fun _ _ h => ⟨h.read, by obtain ⟨_, _, _, _, _, _, _, _, _, _, _, _, _, h5⟩ := h; exact h5⟩
/-- One cell of a row. -/
theorem range_cell {w : World} {b o : Nat} {cs : List Value} (h : w.rangeAt b o cs) (j : Nat) {v : Value} (hv : cs[j]? = some v) : w.cell? ⟨b, o + j, none⟩ = some v := h j v hv
end Go.Proofs.YthggagophcnkfaaGreatDoor.px
namespace Go.Proofs.YthggagophcnkfaaGreatDoor.px
open Go.RowKit Go.Proofs.YthggagophcnkfaaGreatDoor.agg Go.Proofs.YthggagophcnkfaaGreatDoor.sx
set_option linter.unusedSimpArgs false
set_option linter.unusedVariables false

def ex1 : ByteArray := (ByteArray.mk #[115, 111, 114, 116, 32, 115, 32, 48, 50, 59, 32, 99, 111, 117, 110, 116, 101, 114, 32, 99, 40, 97, 58, 32, 115, 41, 32, 105, 110, 32, 45, 49, 46, 46, 51, 59])
def ex2 : ByteArray := (ByteArray.mk #[111, 112, 101, 114, 97, 116, 105, 111, 110, 32, 111, 40, 120, 32, 105, 110, 32, 48, 46, 46, 49, 41, 32, 123, 32, 114, 101, 113, 117, 105, 114, 101, 32, 120, 32, 60, 59, 32, 125])
def ex3 : ByteArray := (ByteArray.mk #[115, 111, 114, 116, 32, 115, 32, 50])
def tr1 : Tr := .mk 2 ⟨#[]⟩ 0 36 [.mk 3 ((ByteArray.mk #[115])) 0 10 [.mk 36 ((ByteArray.mk #[50])) 7 9 []], .mk 5 ((ByteArray.mk #[99])) 11 36 [.mk 10 ⟨#[]⟩ 20 26 [.mk 11 ((ByteArray.mk #[97])) 21 25 [.mk 35 ((ByteArray.mk #[115])) 24 25 []]], .mk 12 ⟨#[]⟩ 30 35 [.mk 37 ((ByteArray.mk #[45, 49])) 30 32 [], .mk 37 ((ByteArray.mk #[51])) 34 35 []]]]
theorem parse_ex1 : parse ex1 = (tr1, []) := by kernel_rfl
theorem parse_ex2 : (parse ex2).2 = [⟨5, 36, 37, ⟨#[]⟩⟩] := by kernel_rfl
theorem parse_ex3 : (parse ex3).2 = [⟨4, 8, 8, (ByteArray.mk #[59])⟩] := by kernel_rfl
end Go.Proofs.YthggagophcnkfaaGreatDoor.px
