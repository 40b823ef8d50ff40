/- The walk of wal.parse. -/
import Derived.Test.YtlhnhhjpjkgogaaWSector
import Derived.Deep.RegionLaw
import Derived.Deep.RegionHeld3
namespace Go.Proofs.Ytlhnhhjpjkgogaa.wl
open Go.RowKit Go.Proofs.Ytlhnhhjpjkgogaa.agg Go.Proofs.Ytlhnhhjpjkgogaa.dk
set_option linter.unusedSimpArgs false
set_option linter.unusedVariables false

/-- The frame of no sector. -/
def Fr.none : Fr := ⟨0, 0, 0, ⟨#[]⟩⟩
/-- What parse returns. -/
def parseFr (s : List Int) : Fr × Bool :=
  if num (s.take 4) < 1 ∨ s.getD 6 0 < 1 ∨ 4 < s.getD 6 0 ∨ 50 < s.getD 7 0 then (Fr.none, false)
  else
    let f : Fr := ⟨num (s.take 4), num ((s.drop 4).take 2), s.getD 6 0, strOf ((s.drop 8).take (s.getD 7 0).toNat)⟩
    (f, decide (f.sec = s))
/-- Sixty-four bytes. -/
structure IsSec (s : List Int) : Prop where
  len : s.length = 64
  rng : ∀ c ∈ s, 0 ≤ c ∧ c < 256

theorem seg_cells {w : World} {b : Nat} {s : List Int} {t : TypeId} (h : w.heap[b]? = some (.cells (sec s) t (0, 0))) (o n : Nat) (hn : o + n ≤ s.length) : ∀ j, j < ((s.drop o).take n).length → w.cell? ⟨b, o + j, none⟩ = some (.int .u8 (((s.drop o).take n).getD j 0)) := by
  intro j hj
  have hl : ((s.drop o).take n).length = n := by simp; omega
  rw [hl] at hj
  rw [cell_of_row w b _ _ _ _ h, sec_get _ _ (by omega)]
  congr 2
  rw [List.getD_eq_getElem?_getD, List.getD_eq_getElem?_getD, List.getElem?_take_of_lt hj, List.getElem?_drop]

/-- The memory of a call of parse: the sector's box, the result. -/
structure ParAt (w : World) (s : List Int) (W : World) : Prop where
  below : Below w.heap.size w W
  size : w.heap.size + 2 ≤ W.heap.size
  box : W.heap[w.heap.size]? = some (.cells (sec s) 26 (0, 0))
  res : W.heap[w.heap.size + 1]? = some (.cells Fr.none.cells 87 (0, 0))
def parW (w : World) (s : List Int) : World := (w.alloc (.cells (sec s) 26)).alloc (.cells Fr.none.cells 87)
theorem parW_at (w : World) (s : List Int) : ParAt w s (parW w s) := by
  refine ⟨((Below.refl _ w).alloc (Nat.le_refl _) _).alloc (by simp) _, by simp [parW], heap_alloc2_old w _ _, heap_alloc2_new w _ _⟩
theorem ParAt.alloc {w : World} {s : List Int} {W : World} (h : ParAt w s W) (o : Obj) : ParAt w s (W.alloc o) :=
  ⟨h.below.alloc h.below.size _, by have := h.size; simp; omega, (Below.heap_alloc _ _ _ (by have := h.size; omega)).trans h.box, (Below.heap_alloc _ _ _ (by have := h.size; omega)).trans h.res⟩
theorem ParAt.drew {w : World} {s : List Int} {W : World} (h : ParAt w s W) : ParAt w s W.drew := ⟨h.below.drew, h.size, h.box, h.res⟩

theorem ag_fr : IsAgg Try.prog 87 4 := ⟨fun _ => by kernel_rfl, fun _ => by kernel_rfl⟩
@[go_sem] theorem one_fr4 (e q k : Int) (d : ByteArray) : oneCells #[.int .i64 e, .int .i64 q, .int .i64 k, .string d] = true := rfl
theorem one_fr (f : Fr) : oneCells f.cells = true := rfl
theorem size_fr (f : Fr) : f.cells.size = 4 := rfl
section
variable {a : Act} {w : World} {K : Act → World → Prop} {Q : Exit → Act → World → Prop} {dst : Option Tmp} {ty : TypeId} {pos : String} {aft : Array Edge} {gd : Option (Nat × Bool)}
theorem load_fr (x : Operand) (h : aggOk w (a.eval x) 4 = true) : Oper.wp Try.prog ⟨dst, .load 87 x, ty, pos, aft, gd⟩ a w K Q = K (a.put dst (aggAt w (a.eval x) 4)) w := wp_load_agg ag_fr x h
theorem store_fr (x y : Operand) (h : aggOk w (a.eval x) 4 = true) (hy : plain (a.eval y) 4 = true) : Oper.wp Try.prog ⟨dst, .store 87 x y, ty, pos, aft, gd⟩ a w K Q = K (a.put dst undef) (putRow w (a.eval x) (cellsOf (a.eval y))) := wp_store_agg ag_fr x y h hy
end
/-- The same behind the frame's box. -/
structure ParBox (w : World) (s : List Int) (f : Fr) (H : Nat) (W : World) : Prop where
  below : Below w.heap.size w W
  box : W.heap[w.heap.size]? = some (.cells (sec s) 26 (0, 0))
  res : W.heap[w.heap.size + 1]? = some (.cells Fr.none.cells 87 (0, 0))
  fbox : W.heap[H]? = some (.cells f.cells 87 (0, 0))
  lt : w.heap.size + 1 < H
theorem ParAt.fbox {w : World} {s : List Int} {W : World} (h : ParAt w s W) (f : Fr) : ParBox w s f W.heap.size (W.alloc (.cells f.cells 87)).drew :=
  ⟨(h.alloc _).drew.below, (h.alloc _).drew.box, (h.alloc _).drew.res, heap_alloc_new W _, by have := h.size; omega⟩
theorem ParBox.facts {w : World} {s : List Int} {f : Fr} {H : Nat} {W : World} (h : ParBox w s f H W) :
    W.cell? ⟨H, 0, none⟩ = some (.int .i64 f.epoch) ∧ W.cell? ⟨H, 1, none⟩ = some (.int .i64 f.pos) ∧ W.cell? ⟨H, 2, none⟩ = some (.int .i64 f.kind) ∧ W.cell? ⟨H, 3, none⟩ = some (.string f.data) ∧ W.frozen? ⟨H, 3, none⟩ = false := by
  simp [World.cell?, World.frozen?, h.fbox, Fr.cells]
theorem ParBox.more {w : World} {s : List Int} {f : Fr} {H : Nat} {W W' : World} (h : ParBox w s f H W) (hb : Below W.heap.size W W') : ParBox w s f H W' :=
  ⟨⟨hb.os.trans h.below.os, hb.tape.trans h.below.tape, hb.output.trans h.below.output, Nat.le_trans h.below.size hb.size, fun i hi => (hb.block i (Nat.lt_of_lt_of_le hi h.below.size)).trans (h.below.block i hi)⟩,
    (hb.block _ (lt_of_block h.box)).trans h.box, (hb.block _ (lt_of_block h.res)).trans h.res, (hb.block _ (lt_of_block h.fbox)).trans h.fbox, h.lt⟩
theorem ParBox.set {w : World} {s : List Int} {f : Fr} {H : Nat} {W : World} (h : ParBox w s f H W) (d : ByteArray) : ParBox w s { f with data := d } H (W.setCell ⟨H, 3, none⟩ (.string d)) := by
  have hl := h.lt
  refine ⟨⟨h.below.os, h.below.tape, h.below.output, by simpa using h.below.size, fun i hi => (heap_setCell_other _ _ _ _ (by simp; omega)).trans (h.below.block i hi)⟩, (heap_setCell_other _ _ _ _ (by simp; omega)).trans h.box, (heap_setCell_other _ _ _ _ (by simp; omega)).trans h.res, ?_, hl⟩
  rw [heap_setCell_same _ _ _ _ _ _ h.fbox]
  rfl
theorem rangeAt_whole {w : World} {b : Nat} {C : Array Value} {t : TypeId} {fr : Nat × Nat} (hb : w.heap[b]? = some (.cells C t fr)) : w.rangeAt b 0 C.toList := fun j v hv => by
  rw [Nat.zero_add, cell_of_row w b j C t fr hb]
  simpa using hv
theorem info_fr (f : Fr) : (Try.prog.info? 87).map (·.size) = some f.cells.toList.length := by
  rw [show f.cells.toList.length = 4 from rfl]
  kernel_rfl
theorem info_sec (s : List Int) (h : s.length = 64) : (Try.prog.info? 26).map (·.size) = some (u8s s).length := by
  rw [length_u8s, h]
  kernel_rfl
theorem exec_eql {a : Act} {w : World} {dst : Option Tmp} {ty : TypeId} {pos : String} {aft : Array Edge} {gd : Option (Nat × Bool)} {T' : TypeId} (x y : Operand) (xs ys : List Int) (hx : a.eval x = .agg (sec xs)) (hy : a.eval y = .agg (sec ys)) (hl : xs.length = 64) (hl' : ys.length = 64) :
    (execOp a.eval ⟨dst, .binOp .eql 26 x y T', ty, pos, aft, gd⟩).run Try.prog w = .ok (.value (.bool (decide (xs = ys)))) w := by
  unfold execOp
  simp only [hx, hy, Sem.run_bind, run_eqGuard_agg (P := Try.prog) w .eql 26 x y (sec xs) (sec ys) (by kernel_rfl), run_eql_struct (P := Try.prog) w 26 (sec xs) (sec ys), Result.andThen_ok, run_equal_sec (P := Try.prog) (T := 26) (E := 5) (n := 64) (by kernel_rfl) (by kernel_rfl) (fun _ => by kernel_rfl) (fun _ => by kernel_rfl) xs ys hl hl' 9998]
  rfl
theorem ParBox.end' {w : World} {s : List Int} {f : Fr} {H : Nat} {W : World} (h : ParBox w s f H W) (g : Fr) :
    rowOf (W.setRow (w.heap.size + 1) g.cells) (w.heap.size + 1) = g.cells ∧ Below w.heap.size w (W.setRow (w.heap.size + 1) g.cells) :=
  ⟨rowOf_setRow_same _ (by rw [rowOf_of h.res, size_fr]; omega), h.below.os, h.below.tape, h.below.output, by simpa using h.below.size, fun i hi => (setRow_other _ _ _ _ (by omega)).trans (h.below.block i hi)⟩

attribute [local go_sem ↓] load_fr store_fr
set_option maxRecDepth 100000 in
set_option maxHeartbeats 2000000 in
theorem parse_walk (w : World) (s : List Int) (hs : IsSec s) :
    Calls Try.prog 63 #[.agg (sec s)] w fun e w' => e = .returned (.tuple #[.agg (parseFr s).1.cells, .bool (parseFr s).2]) ∧ Below w.heap.size w w' := by
  have h64 := hs.len
  have hW := parW_at w s
  have hW0 : parW w s = (w.alloc (.cells (sec s) 26)).alloc (.cells #[.int .i64 0, .int .i64 0, .int .i64 0, .string ⟨#[]⟩] 87) := rfl
  have hW0' := Lib.hid hW0
  have h64' := Lib.hid h64
  clear hW0 h64
  go_enter Try.func63, Try.ntmps63
  go_wp2_with fail
  rw [← hW0'.out]
  generalize parW w s = W at *
  clear hW0'
  have c6 : W.cell? ⟨w.heap.size, 6, none⟩ = some (.int .u8 (s.getD 6 0)) := by
    rw [cell_of_row _ _ _ _ _ _ hW.box, sec_get _ _ (by rw [h64'.out]; omega)]
  obtain ⟨b6, b6'⟩ := hs.rng (s.getD 6 0) (by rw [List.getD_eq_getElem?_getD, List.getElem?_eq_getElem (by rw [h64'.out]; omega)]; exact List.getElem_mem _)
  generalize hk0 : s.getD 6 0 = k at c6 b6 b6'
  have hkk := Lib.hid hk0
  clear hk0
  have v1 : ∀ W' o n cap, ParAt w s W' → o + n ≤ 64 → n ≤ 4 → Calls Try.prog 72 #[.slice (some ⟨w.heap.size, o, none⟩) n cap] W' fun e w' => e = .returned (.int .i64 (num ((s.drop o).take n))) ∧ W' = w' := by
    intro W' o n cap h ho hn
    have hl : ((s.drop o).take n).length = n := by have := h64'.out; simp; omega
    have := value_walk W' w.heap.size o cap ((s.drop o).take n) (by omega) (fun c hc => hs.rng c (List.mem_of_mem_drop (List.mem_of_mem_take hc))) (seg_cells h.box o n (by rw [h64'.out]; omega))
    rwa [hl] at this
  have v1' := Lib.hid (fun W' h => v1 W' 0 4 64 h (by omega) (by omega))
  have v2' := Lib.hid (fun W' h => v1 W' 4 2 60 h (by omega) (by omega))
  clear v1
  have hz1 : w.heap.size < W.heap.size := by have := hW.size; omega
  have hz2 : w.heap.size + 1 < W.heap.size := by have := hW.size; omega
  have hW' := Lib.hid hW
  apply once
  case r =>
    intro H
    go_region_law (first | (go_simp; go_at_call 72; ((with_reducible refine (v1'.out _ (by first | exact hW'.out.drew | exact (hW'.out.alloc _).drew)).mono ?_)); rintro e w' ⟨rfl, rfl⟩) | (go_simp; go_at_call 72; ((with_reducible refine (v2'.out _ (by first | exact hW'.out.drew | exact (hW'.out.alloc _).drew)).mono ?_)); rintro e w' ⟨rfl, rfl⟩))
    all_goals exact H
  rw [show IntKind.i64.wrap k = k by simp [IntKind.wrap, IntKind.bits, IntKind.signed]; omega]
  have hB := hW'.out.fbox ⟨num (s.take 4), num ((s.drop 4).take 2), k, ⟨#[]⟩⟩
  unfold Fr.cells at hB
  simp only at hB
  have hk := hkk
  clear hW' hz1 hz2 c6 v1' v2' hkk
  generalize (W.alloc _).drew = W1 at *
  generalize W.heap.size = H at *
  obtain ⟨c0, c1, c2, c3, f3⟩ := hB.facts
  have c7 : W1.cell? ⟨w.heap.size, 7, none⟩ = some (.int .u8 (s.getD 7 0)) := by
    rw [cell_of_row _ _ _ _ _ _ hB.box, sec_get _ _ (by rw [h64'.out]; omega)]
  obtain ⟨b7, b7'⟩ := hs.rng (s.getD 7 0) (by rw [List.getD_eq_getElem?_getD, List.getElem?_eq_getElem (by rw [h64'.out]; omega)]; exact List.getElem_mem _)
  have hn0 : s.getD 7 0 = s.getD 7 0 := rfl
  generalize hn1 : s.getD 7 0 = n at c7 b7 b7'
  have hn := Lib.hid hn1
  clear hn1 hn0
  simp only at c0 c1 c2 c3
  generalize he : num (s.take 4) = e at *
  generalize hp : num ((s.drop 4).take 2) = q at *
  have he' := Lib.hid he
  have hp' := Lib.hid hp
  clear he hp
  have hr : rowOf W1 (w.heap.size + 1) = #[.int .i64 0, .int .i64 0, .int .i64 0, .string ⟨#[]⟩] := rowOf_of hB.res
  have hlt := hB.lt
  have hlt1 := lt_of_block hB.res
  have hpf : e < 1 ∨ k < 1 ∨ 4 < k ∨ 50 < n → parseFr s = (Fr.none, false) := by
    intro h
    unfold parseFr
    rw [he'.out, hk.out, hn.out, if_pos h]
  have hpf' := Lib.hid hpf
  clear hpf
  by_cases p1 : e < 1
  · go_wp2
    rw [show parseFr s = _ from hpf'.out (.inl p1)]
    obtain ⟨z1, z2⟩ := hB.end' Fr.none
    exact bodyPost_ret (results_cell_tmp' rfl ag_fr _ rfl z1 rfl (by omega)) rfl ⟨rfl, z2⟩
  by_cases p2 : k < 1
  · go_wp2
    rw [show parseFr s = _ from hpf'.out (.inr (.inl p2))]
    obtain ⟨z1, z2⟩ := hB.end' Fr.none
    exact bodyPost_ret (results_cell_tmp' rfl ag_fr _ rfl z1 rfl (by omega)) rfl ⟨rfl, z2⟩
  by_cases p3 : 4 < k
  · go_wp2
    rw [show parseFr s = _ from hpf'.out (.inr (.inr (.inl p3)))]
    obtain ⟨z1, z2⟩ := hB.end' Fr.none
    exact bodyPost_ret (results_cell_tmp' rfl ag_fr _ rfl z1 rfl (by omega)) rfl ⟨rfl, z2⟩
  by_cases p4 : 50 < n
  · go_wp2
    rw [show parseFr s = _ from hpf'.out (.inr (.inr (.inr p4)))]
    obtain ⟨z1, z2⟩ := hB.end' Fr.none
    exact bodyPost_ret (results_cell_tmp' rfl ag_fr _ rfl z1 rfl (by omega)) rfl ⟨rfl, z2⟩
  clear hpf'
  have hnn : n = ((n.toNat : Nat) : Int) := by omega
  generalize n.toNat = m at hnn
  subst hnn
  have hseg := seg_cells hB.box 8 m (by rw [h64'.out]; omega)
  have hsl : ((s.drop 8).take m).length = m := by have := h64'.out; simp; omega
  rw [hsl] at hseg
  have hcv := run_convert_bytes_arg W1 28 5 Try.underlying28 Try.underlying5 w.heap.size 8 m 56 _ hsl hseg 9 Try.underlying9
  rw [show strOfNums ((s.drop 8).take m) = strOf ((s.drop 8).take m) from rfl] at hcv
  have hhb := Lib.hid hB
  have hsl' := Lib.hid hsl
  clear hseg hsl hB
  generalize hd0 : strOf ((s.drop 8).take m) = d at hcv
  have hd := Lib.hid hd0
  clear hd0
  have hd50 : d.size ≤ 50 := by rw [← hd.out, size_strOf, hsl'.out]; omega
  have hB2 := hhb.out.set d
  simp only at hB2
  have hB3 := Lib.hid hB2
  have hf : Hid (parseFr s = (⟨e, q, k, d⟩, decide ((⟨e, q, k, d⟩ : Fr).sec = s))) := by
    have hd' := hd.out
    unfold parseFr
    rw [he'.out, hp'.out, hk.out, hn.out, if_neg (by omega)]
    simp only [Int.toNat_natCast]
    subst hd'
    exact rfl
  have hfl := (⟨e, q, k, d⟩ : Fr).length_sec hd50
  have hfl' := Lib.hid hfl
  have g1 : (8 : Int) ≤ 8 + (m : Int) := by omega
  have g2 : (8 : Int) + (m : Int) ≤ 64 := by omega
  have g3 : ((8 : Int) + (m : Int)).toNat = 8 + m := by omega
  clear hB2 hfl
  go_wp2_with fail
  have hcl : Fr.cells ⟨e, q, k, d⟩ = #[.int .i64 e, .int .i64 q, .int .i64 k, .string d] := rfl
  have hcl' := Lib.hid hcl
  clear hcl c0 c1 c2 c3 f3 c7 hcv g1 g2 g3 hr hhb hd hn hk he' hp'
  generalize W1.setCell _ _ = W2 at *
  have hun := Try.underlying26
  have huf := Try.underlying87
  have hP0 : ParBox w s ⟨e, q, k, d⟩ H W2.drew := ⟨hB3.out.below.drew, hB3.out.box, hB3.out.res, hB3.out.fbox, hB3.out.lt⟩
  refine wp_region_held_drew (S := fun u => u.heap[w.heap.size]? = some (.cells (sec s) 26 (0, 0)) ∧ u.heap[H]? = some (.cells (Fr.cells ⟨e, q, k, d⟩) 87 (0, 0))) (by kernel_rfl) ⟨hP0.box, hP0.fbox⟩ (fun hHeld => ?_)
  refine wpAnyH_take (i := 0) (v := .agg (Fr.cells ⟨e, q, k, d⟩).toList.toArray) rfl (by kernel_rfl) (by kernel_rfl) (by kernel_rfl) (fun _ _ _ h => h) (yieldsIf_load_mid (by rfl) _ _ rfl _ _ rfl _ _ (fun _ h => rangeAt_whole h.2) huf rfl (info_fr _)) hHeld ?_
  try simp only [Act.put, List.getElem_toArray, List.getElem_cons_zero, List.getElem_cons_succ, List.setIfInBounds_toArray, List.set_cons_zero, List.set_cons_succ]
  refine wpAnyH_take (i := 1) (v := .agg (Fr.cells ⟨e, q, k, d⟩).toList.toArray) rfl (by kernel_rfl) (by kernel_rfl) (by kernel_rfl) (fun _ _ _ h => h) (yieldsIf_load_mid (by rfl) _ _ rfl _ _ rfl _ _ (fun _ h => rangeAt_whole h.2) huf rfl (info_fr _)) hHeld ?_
  try simp only [Act.put, List.getElem_toArray, List.getElem_cons_zero, List.getElem_cons_succ, List.setIfInBounds_toArray, List.set_cons_zero, List.set_cons_succ]
  refine wpAnyH_take (i := 3) (v := .agg (u8s s).toArray) rfl (by kernel_rfl) (by kernel_rfl) (by kernel_rfl) (fun _ _ _ h => h) (yieldsIf_load_mid (by rfl) _ _ rfl _ _ rfl (u8s s) _ (fun _ h => rangeAt_whole h.1) hun rfl (info_sec s h64'.out)) hHeld ?_
  try simp only [Act.put, List.getElem_toArray, List.getElem_cons_zero, List.getElem_cons_succ, List.setIfInBounds_toArray, List.set_cons_zero, List.set_cons_succ]
  refine wpAnyH_ready (rs := [2]) (by kernel_rfl) (by simp) ?_
  refine AllReadyH.cons rfl (fun K hK => ?_) AllReadyH.nil
  rw [if_pos (by rfl)]
  go_simp
  go_at_call 65
  refine (sector_walk _ ⟨e, q, k, d⟩ hd50).mono ?_
  rintro e1 u1 ⟨rfl, hb1⟩
  have hP1 := hP0.more hb1
  refine hK.out _ _ ⟨hP1.box, hP1.fbox⟩ (fun hHeld1 => ?_)
  clear hK K hHeld hb1 hP0
  try simp only [Act.put, List.getElem_toArray, List.getElem_cons_zero, List.getElem_cons_succ, List.setIfInBounds_toArray, List.set_cons_zero, List.set_cons_succ]
  refine wpAnyH_take (i := 4) (v := .bool (decide ((⟨e, q, k, d⟩ : Fr).sec = s))) rfl (by kernel_rfl) (by kernel_rfl) (by kernel_rfl) (fun _ _ _ h => h) (Or.inl ⟨by rfl, fun u _ => exec_eql (.tmp 41) (.tmp 42) _ s (by rfl) (by rfl) hfl'.out h64'.out⟩) hHeld1 ?_
  try simp only [Act.put, List.getElem_toArray, List.getElem_cons_zero, List.getElem_cons_succ, List.setIfInBounds_toArray, List.set_cons_zero, List.set_cons_succ]
  refine wpAnyH_ready (rs := [5]) (by kernel_rfl) (by simp) ?_
  refine AllReadyH.cons rfl (fun K hK => ?_) AllReadyH.nil
  rw [if_pos (by rfl)]
  have hr : rowOf u1 (w.heap.size + 1) = Fr.none.cells := rowOf_of hP1.res
  have hov : overrow (rowOf u1 (w.heap.size + 1)) 0 (Fr.cells ⟨e, q, k, d⟩) = Fr.cells ⟨e, q, k, d⟩ := overrow_whole (by rw [hr]; rfl)
  have hlt := hP1.lt
  have hS1 := hP1.box
  have hS2 := hP1.fbox
  obtain ⟨z1, z2⟩ := hP1.end' ⟨e, q, k, d⟩
  refine Eq.mpr (store_fr (.tmp 2) (.tmp 39) ?h1 ?h2) ?_
  case h1 =>
    show decide (0 + 4 ≤ (rowOf u1 (w.heap.size + 1)).size ∧ 0 < 4) = true
    rw [hr]
    rfl
  case h2 => rfl
  refine hK.out _ (u1.setRow (w.heap.size + 1) (overrow (rowOf u1 (w.heap.size + 1)) 0 (Fr.cells ⟨e, q, k, d⟩))) ?_ ?_
  · exact ⟨(setRow_other _ _ _ _ (by omega)).trans hS1, (setRow_other _ _ _ _ (by omega)).trans hS2⟩
  rw [hov]
  intro hHeld2
  clear hK K
  try simp only [Act.put, List.getElem_toArray, List.getElem_cons_zero, List.getElem_cons_succ, List.setIfInBounds_toArray, List.set_cons_zero, List.set_cons_succ]
  refine wpAnyH_take (i := 6) (v := .bool (decide ((⟨e, q, k, d⟩ : Fr).sec = s))) rfl (by kernel_rfl) (by kernel_rfl) (by kernel_rfl) (fun _ _ _ h => h) (Or.inl ⟨by rfl, by intro u hu; (try dsimp only at hu); go_simp⟩) hHeld2 ?_
  try simp only [Act.put, List.getElem_toArray, List.getElem_cons_zero, List.getElem_cons_succ, List.setIfInBounds_toArray, List.set_cons_zero, List.set_cons_succ]
  refine wpAnyH_done (by kernel_rfl) ?_ _
  clear hHeld1 hHeld2
  go_wp2_with fail
  rw [hf.out]
  exact bodyPost_ret (results_cell_tmp' rfl ag_fr _ rfl z1 rfl (by omega)) rfl ⟨rfl, z2⟩
end Go.Proofs.Ytlhnhhjpjkgogaa.wl
