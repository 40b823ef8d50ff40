/- The walk of look. -/
import Derived.Test.YtlhnhhjpjkgogaaWMap
import Derived.Test.YtlhnhhjpjkgogaaDRead
import Derived.Test.YtlhnhhjpjkgogaaDSmall
namespace Go.Proofs.Ytlhnhhjpjkgogaa.wl
open Go.RowKit Go.Proofs.Ytlhnhhjpjkgogaa.agg Go.Proofs.Ytlhnhhjpjkgogaa.dk

/-- What look finds. -/
structure Sc where
  m : List (Nat × Fr)
  greatest : Int
  block : Int
  area : Int
def Sc.cells (b : Nat) (x : Sc) : Array Value := #[.map (some b), .int .i64 x.greatest, .int .i64 x.block, .int .i64 x.area]
def Sc.zero : Sc := ⟨[], 0, -1, 0⟩
/-- Whether the frame of sector i becomes the current superblock. -/
def Sc.takes (x : Sc) (i : Nat) (f : Fr) : Bool := (superFr f).2 && decide (i < 2) && (decide (x.block < 0) || decide (((getFr (x.m ++ [(i, f)]) x.block).getD Fr.none).epoch < f.epoch))
def Sc.step (x : Sc) (i : Nat) (s : List Int) : Sc :=
  if (parseFr s).2 = true then
    if x.takes i (parseFr s).1 = true then ⟨x.m ++ [(i, (parseFr s).1)], max x.greatest (parseFr s).1.epoch, i, (superFr (parseFr s).1).1⟩
    else ⟨x.m ++ [(i, (parseFr s).1)], max x.greatest (parseFr s).1.epoch, x.block, x.area⟩
  else x
def scan (vis : Int → List Int) : Nat → Sc
  | 0 => Sc.zero
  | k + 1 => (scan vis k).step k (vis k)
theorem scan_keys (vis : Int → List Int) : ∀ k, ∀ x ∈ (scan vis k).m, x.1 < k
  | 0, x, hx => by simp [scan, Sc.zero] at hx
  | k + 1, x, hx => by
    have ih := scan_keys vis k
    simp only [scan, Sc.step] at hx
    split at hx
    · have hx' : x ∈ (scan vis k).m ++ [(k, (parseFr (vis k)).1)] := by
        split at hx <;> exact hx
      rcases List.mem_append.1 hx' with h | h
      · have := ih x h; omega
      · simp at h; subst h; simp
    · have := ih x hx; omega
theorem getFr_none {m : List (Nat × Fr)} {k : Nat} (h : ∀ x ∈ m, x.1 < k) : getFr m k = none := by
  unfold getFr
  rw [Option.map_eq_none_iff, List.find?_eq_none]
  intro x hx
  have := h x hx
  simp
  omega
/-- A disk behind k reads. -/
def rdN (r : Int) : Nat → Int
  | 0 => r
  | k + 1 => wrap64 (rdN r k + 1)
def reads (st : St) (k : Nat) : St := { st with rd := rdN st.rd k }
theorem reads_read (st : St) (k : Nat) (n : Int) (hf : st.failed = false) (h0 : 0 ≤ n) (hn : n < st.dur.length) : (reads st k).read n = (reads st (k + 1), st.visible n, 0) := by
  unfold St.read reads
  rw [if_neg (by simp only; omega), if_neg (by simp [hf])]
  rfl
theorem scan_greatest (vis : Int → List Int) (hv : ∀ i, 0 ≤ (parseFr (vis i)).1.epoch ∧ (parseFr (vis i)).1.epoch < 4294967296) : ∀ k, 0 ≤ (scan vis k).greatest ∧ (scan vis k).greatest < 4294967296
  | 0 => by simp [scan, Sc.zero]
  | k + 1 => by
    have ih := scan_greatest vis hv k
    have := hv k
    simp only [scan, Sc.step]
    split
    · split <;> simp only <;> omega
    · exact ih
theorem ag_scan : IsAgg Try.prog 81 4 := ⟨fun _ => by kernel_rfl, fun _ => by kernel_rfl⟩

set_option maxHeartbeats 1000000 in
theorem look_few {w : World} {D g : Nat} {pv : Value} {st : St} (h : DiskIn w D g pv st) (h8 : st.dur.length < 8) :
    Calls Try.prog 43 #[.pointer (some ⟨D, 0, none⟩)] w fun e w' => e = .returned (.tuple #[.agg #[.map none, .int .i64 0, .int .i64 0, .int .i64 0], .int .i64 1]) ∧ Below w.heap.size w w' := by
  have hh := Lib.hid h
  have h8' : (st.dur.length : Int) < 8 := by omega
  clear h h8
  have hs : ∀ W, Below w.heap.size w W → Calls Try.prog 52 #[.pointer (some ⟨D, 0, none⟩)] W fun e w' => e = .returned (.int .i64 st.dur.length) ∧ W = w' := fun W hb => sectors_any W (hh.out.kept (Kept.of_below (F := fun _ => False) hb) (fun _ _ => id))
  have hs' := Lib.hid hs
  clear hs
  generalize st.dur.length = n at *
  go_enter Try.func43, Try.ntmps43
  go_wp2_with (go_at_call 52; refine (hs'.out _ ((Below.refl _ _).alloc (Nat.le_refl _) _)).mono ?_; rintro e w' ⟨rfl, rfl⟩)
  exact bodyPost_ret (results_cell_tmp' rfl ag_scan _ rfl (rowOf_of (heap_alloc_new w _)) rfl (by omega)) rfl ⟨rfl, (Below.refl _ _).alloc (Nat.le_refl _) _⟩
/-- How look ends. -/
def LookEnd (w : World) (D g : Nat) (pv : Value) (st' : St) (x : Sc) (e : Ending) (w' : World) : Prop :=
  ∃ b, e = .returned (.tuple #[.agg (x.cells b), .int .i64 0]) ∧ DiskIn w' D g pv st' ∧ MapIn w' b x.m ∧ Kept (foot D g pv) w w' ∧ w.heap.size ≤ b
/-- What the walk's loop knows behind k sectors. -/
structure LookAt (w : World) (D g : Nat) (pv : Value) (st : St) (R b X k : Nat) (wr : World) : Prop where
  disk : DiskIn wr D g pv (reads st k)
  kept : Kept (foot D g pv) w wr
  res : wr.heap[R]? = some (.cells #[.map none, .int .i64 0, .int .i64 0, .int .i64 0] 81 (0, 0))
  box : wr.heap[X]? = some (.cells ((scan st.visible k).cells b) 81 (0, 0))
  map : MapIn wr b (scan st.visible k).m
theorem foot_lt {w : World} {D g : Nat} {pv : Value} {st : St} (h : DiskIn w D g pv st) {k : Nat} (hk : w.heap.size ≤ k) : ¬ foot D g pv k := fun e => by have := h.lt k e; omega
/-- New memory alone. -/
theorem LookAt.below {w : World} {D g : Nat} {pv : Value} {st : St} {R b X k : Nat} {wr u : World} (h : LookAt w D g pv st R b X k wr) (hb : Below wr.heap.size wr u) : LookAt w D g pv st R b X k u :=
  ⟨h.disk.kept (Kept.of_below (F := fun _ => False) hb) (fun _ _ => id), h.kept.trans (Kept.of_below hb), (hb.block _ (lt_of_block h.res)).trans h.res, (hb.block _ (lt_of_block h.box)).trans h.box, h.map.same (hb.block _ h.map.lt)⟩
theorem LookAt.read {w : World} {D g : Nat} {pv : Value} {st : St} {R b X k : Nat} {wr u : World} (h : LookAt w D g pv st R b X k wr) (hR : ¬ foot D g pv R) (hb : ¬ foot D g pv b) (hX : ¬ foot D g pv X) (hd : DiskIn u D g pv (reads st (k + 1))) (hk : Kept (foot D g pv) wr u) :
    DiskIn u D g pv (reads st (k + 1)) ∧ Kept (foot D g pv) w u ∧ u.heap[R]? = some (.cells #[.map none, .int .i64 0, .int .i64 0, .int .i64 0] 81 (0, 0)) ∧ u.heap[X]? = some (.cells ((scan st.visible k).cells b) 81 (0, 0)) ∧ MapIn u b (scan st.visible k).m :=
  ⟨hd, h.kept.trans hk, (hk.block _ (lt_of_block h.res) hR).trans h.res, (hk.block _ (lt_of_block h.box) hX).trans h.box, h.map.same (hk.block _ h.map.lt hb)⟩

/-- The same within a round. -/
structure LM (w : World) (D g : Nat) (pv : Value) (st : St) (R b X j : Nat) (c : Array Value) (m : List (Nat × Fr)) (wr : World) : Prop where
  disk : DiskIn wr D g pv (reads st j)
  kept : Kept (foot D g pv) w wr
  res : wr.heap[R]? = some (.cells #[.map none, .int .i64 0, .int .i64 0, .int .i64 0] 81 (0, 0))
  box : wr.heap[X]? = some (.cells c 81 (0, 0))
  map : MapIn wr b m
section
variable {w : World} {D g : Nat} {pv : Value} {st : St} {R b X j : Nat} {c : Array Value} {m : List (Nat × Fr)} {wr u : World}
theorem LM.below (h : LM w D g pv st R b X j c m wr) (hb : Below wr.heap.size wr u) : LM w D g pv st R b X j c m u :=
  ⟨h.disk.kept (Kept.of_below (F := fun _ => False) hb) (fun _ _ => id), h.kept.trans (Kept.of_below hb), (hb.block _ (lt_of_block h.res)).trans h.res, (hb.block _ (lt_of_block h.box)).trans h.box, h.map.same (hb.block _ h.map.lt)⟩
theorem LM.grown (h : LM w D g pv st R b X j c m wr) (hw : w.heap.size ≤ b) (h0 : DiskIn w D g pv st) (hR : R ≠ b) (hX : X ≠ b) {m' : List (Nat × Fr)} (hm : MapIn u b m') (hg : wr.grownBy u (some b)) : LM w D g pv st R b X j c m' u := by
  have hkp : Kept (fun i => i = b) wr u := Kept.grown hg (fun i hi => (Option.some.inj hi).symm)
  have hnb : ∀ i, foot D g pv i → i ≠ b := fun i hi e => foot_lt h0 hw (e ▸ hi)
  exact ⟨h.disk.kept hkp hnb, h.kept.trans' hkp (fun i hi e => by omega), (hkp.block _ (lt_of_block h.res) hR).trans h.res, (hkp.block _ (lt_of_block h.box) hX).trans h.box, hm⟩
theorem LM.set (h : LM w D g pv st R b X j c m wr) (hw : w.heap.size ≤ X) (h0 : DiskIn w D g pv st) (hR : R ≠ X) (hb : b ≠ X) (i : Nat) (v : Value) : LM w D g pv st R b X j (c.setIfInBounds i v) m (wr.setCell ⟨X, i, none⟩ v) := by
  have hkp : Kept (fun q => q = X) wr (wr.setCell ⟨X, i, none⟩ v) := Kept.setCell wr (a := ⟨X, i, none⟩) (F := fun q => q = X) rfl v
  exact ⟨h.disk.kept hkp (fun q hq e => foot_lt h0 hw (e ▸ hq)), h.kept.trans' hkp (fun q hq e => by omega), (hkp.block _ (lt_of_block h.res) hR).trans h.res, heap_setCell_same _ _ _ _ _ _ h.box, h.map.same (hkp.block _ h.map.lt hb)⟩
end
theorem wpList_max {P : Program} {w : World} {ops : Array Oper} {rest : List Oper} {o : Oper} {a : Act} {Q : Exit → Act → World → Prop} (hg : o.guard = none) (x y : Operand) (T : TypeId) (ho : o.op = .call { callee := .builtin .max, args := #[x, y], argTypes := #[T, T] })
    (p q : Int) (hx : a.eval x = .int .i64 p) (hy : a.eval y = .int .i64 q) (hK : wpList P ops Q rest (a.put o.dst (.int .i64 (max p q))) w) : wpList P ops Q (o :: rest) a w := by
  refine wpList_plain hg fun K hK' => ?_
  have hr : (Builtin.max_ #[T, T] o.type #[.int .i64 p, .int .i64 q]).run P w = .ok (.int .i64 (max p q)) w := by
    by_cases h : p < q
    · simp [Builtin.max_, Builtin.max2, h]; omega
    · simp [Builtin.max_, Builtin.max2, h]; omega
  unfold Oper.wp execOp
  simp only [ho, resolve, invoke, builtin, Sem.run_bind, Sem.run_pure, Result.andThen_ok, List.map_toArray, List.map_cons, List.map_nil, hx, hy, hr]
  exact hK' _ _ hK

theorem over_fr (f : Fr) : overrow #[Value.int .i64 0, .int .i64 0, .int .i64 0, .string ⟨#[]⟩] 0 f.cells = f.cells := overrow_whole rfl
theorem field_fr (f : Fr) (W : World) : (Instr.field 87 (.agg f.cells) 0).run Try.prog W = .ok (.int .i64 f.epoch) W := by
  obtain ⟨a, b, c, d⟩ := f
  kernel_rfl
theorem step_no {x : Sc} {i : Nat} {s : List Int} {f : Fr} (h : parseFr s = (f, true)) (ht : x.takes i f = false) : x.step i s = ⟨x.m ++ [(i, f)], max x.greatest f.epoch, x.block, x.area⟩ := by
  unfold Sc.step
  rw [h]
  simp only
  rw [if_pos trivial, if_neg (by rw [ht]; simp)]
theorem step_yes {x : Sc} {i : Nat} {s : List Int} {f : Fr} (h : parseFr s = (f, true)) (ht : x.takes i f = true) : x.step i s = ⟨x.m ++ [(i, f)], max x.greatest f.epoch, i, (superFr f).1⟩ := by
  unfold Sc.step
  rw [h]
  simp only
  rw [if_pos trivial, if_pos ht]
/-- A store of a whole value of many cells. -/
theorem wpList_store_whole {P : Program} {T : TypeId} {n : Nat} (hT : IsAgg P T n) (hn : 0 < n) {w : World} {ops : Array Oper} {rest : List Oper} {o : Oper} {a : Act} {Q : Exit → Act → World → Prop} (hg : o.guard = none) (x y : Operand) (ho : o.op = .store T x y)
    (g : Nat) (c d : Array Value) (hx : a.eval x = .pointer (some ⟨g, 0, none⟩)) (hy : a.eval y = .agg d) (hr : rowOf w g = c) (hc : c.size = n) (hd : d.size = n) (h1 : oneCells d = true) (hK : wpList P ops Q rest (a.put o.dst undef) (w.setRow g d)) : wpList P ops Q (o :: rest) a w := by
  obtain ⟨od, oo, ot, op, oa, og⟩ := o
  simp only at ho hg
  subst ho hg
  refine wpList_plain rfl fun K hK' => ?_
  have h := wp_store_agg (P := P) (a := a) (w := w) (K := K) (Q := Q) (dst := od) (ty := ot) (pos := op) (aft := oa) (gd := none) hT x y (by rw [hx]; simp [aggOk, hr, hc]; omega) (by rw [hy]; simp [plain, hd, h1])
  rw [h, hx, hy]
  simp only [putRow, cellsOf]
  rw [overrow_whole (by rw [hr, hc, hd])]
  exact hK' _ _ hK
theorem size_sc (b : Nat) (x : Sc) : (x.cells b).size = 4 := rfl
theorem one_sc (b : Nat) (x : Sc) : oneCells (x.cells b) = true := rfl
theorem cut_sc (b : Nat) (x : Sc) : cut (x.cells b) 0 4 = .agg (x.cells b) := cut_whole rfl
theorem over_sc (b : Nat) (x : Sc) : overrow #[Value.map none, .int .i64 0, .int .i64 0, .int .i64 0] 0 (x.cells b) = x.cells b := overrow_whole rfl
theorem cut_fr (f : Fr) : cut f.cells 0 4 = .agg f.cells := cut_whole rfl
theorem fr_0 (f : Fr) : f.cells[0]? = some (.int .i64 f.epoch) := rfl
theorem fr_0' (f : Fr) (h : 0 < f.cells.size) : f.cells[0] = .int .i64 f.epoch := rfl
theorem scan_facts {w : World} {X b : Nat} {g q a : Int} (h : w.heap[X]? = some (.cells #[.map (some b), .int .i64 g, .int .i64 q, .int .i64 a] 81 (0, 0))) :
    w.cell? ⟨X, 0, none⟩ = some (.map (some b)) ∧ w.cell? ⟨X, 1, none⟩ = some (.int .i64 g) ∧ w.cell? ⟨X, 2, none⟩ = some (.int .i64 q) ∧ w.cell? ⟨X, 3, none⟩ = some (.int .i64 a) ∧ (∀ i, w.frozen? ⟨X, i, none⟩ = false) ∧ X < w.heap.size := by
  refine ⟨?_, ?_, ?_, ?_, fun i => ?_, lt_of_block h⟩ <;> simp [World.cell?, World.frozen?, h]
theorem fbox_facts {w : World} {B : Nat} {f : Fr} (h : w.heap[B]? = some (.cells f.cells 87 (0, 0))) : w.cell? ⟨B, 0, none⟩ = some (.int .i64 f.epoch) ∧ rowOf w B = f.cells ∧ B < w.heap.size := by
  refine ⟨?_, rowOf_of h, lt_of_block h⟩
  simp [World.cell?, h, fr_0]
attribute [local go_sem ↓] load_fr store_fr
attribute [local go_sem] size_fr one_fr run_makeMap over_fr field_fr cut_fr fr_0 fr_0' rowOf_setCell_other
set_option maxRecDepth 100000 in
set_option maxHeartbeats 4000000 in
theorem look_walk {w : World} {D g : Nat} {pv : Value} {st : St} (h : DiskIn w D g pv st) (h8 : 8 ≤ st.dur.length) (hf : st.failed = false) (hsec : ∀ i : Nat, i < st.dur.length → IsSec (st.visible i)) (hpl : st.pend.length < 1000000) :
    Calls Try.prog 43 #[.pointer (some ⟨D, 0, none⟩)] w (LookEnd w D g pv (reads st st.dur.length) (scan st.visible st.dur.length)) := by
  have hh := Lib.hid h
  have hfw := h.few
  have h8' : ¬ (st.dur.length : Int) < 8 := by omega
  have hread : ∀ (W : World) (k : Nat), k < st.dur.length → DiskIn W D g pv (reads st k) → Calls Try.prog 37 #[.pointer (some ⟨D, 0, none⟩), .int .i64 (k : Nat)] W fun e w' => e = .returned (.tuple #[.agg (sec (st.visible k)), .int .i64 0]) ∧ DiskIn w' D g pv (reads st (k + 1)) ∧ Kept (foot D g pv) W w' := by
    intro W k hk hd
    refine (read_any W hd k hpl).mono ?_
    rintro e w' ⟨rfl, h1, h2⟩
    rw [reads_read st k k hf (by omega) (by omega)] at h1 ⊢
    exact ⟨rfl, h1, h2⟩
  have hs : ∀ W, Below w.heap.size w W → Calls Try.prog 52 #[.pointer (some ⟨D, 0, none⟩)] W fun e w' => e = .returned (.int .i64 st.dur.length) ∧ W = w' := fun W hb => sectors_any W (hh.out.kept (Kept.of_below (F := fun _ => False) hb) (fun _ _ => id))
  have hs' := Lib.hid hs
  have hread' := Lib.hid hread
  have hsec' := Lib.hid hsec
  clear h hs hread hf hsec h8
  generalize st.dur.length = n at *
  go_enter Try.func43, Try.ntmps43
  go_wp2_with (go_at_call 52; refine (hs'.out _ (by first | exact (Below.refl _ _).alloc (Nat.le_refl _) _ | exact (((Below.refl _ _).alloc (Nat.le_refl _) _).alloc (by simp) _).alloc (by simp; omega) _)).mono ?_; rintro e w' ⟨rfl, rfl⟩)
  have hA0 : LookAt w D g pv st w.heap.size (w.heap.size + 1) (w.heap.size + 1 + 1) 0 (((w.alloc (.cells #[.map none, .int .i64 0, .int .i64 0, .int .i64 0] 81)).alloc (.map #[] 0)).alloc (.cells (Sc.zero.cells (w.heap.size + 1)) 81)) := by
    have hb : Below w.heap.size w (((w.alloc (.cells #[.map none, .int .i64 0, .int .i64 0, .int .i64 0] 81)).alloc (.map #[] 0)).alloc (.cells (Sc.zero.cells (w.heap.size + 1)) 81)) := (((Below.refl _ w).alloc (Nat.le_refl _) _).alloc (by simp) _).alloc (by simp; omega) _
    refine ⟨hh.out.kept (Kept.of_below (F := fun _ => False) hb) (fun _ _ => id), Kept.of_below hb, ?_, ?_, #[], 0, ?_, by simp [scan, Sc.zero]⟩
    · rw [Below.heap_alloc _ _ _ (by simp; omega)]
      exact heap_alloc2_old w _ _
    · have := heap_alloc_new ((w.alloc (.cells #[.map none, .int .i64 0, .int .i64 0, .int .i64 0] 81)).alloc (.map #[] 0)) (.cells (Sc.zero.cells (w.heap.size + 1)) 81)
      rw [show ((w.alloc (.cells #[.map none, .int .i64 0, .int .i64 0, .int .i64 0] 81)).alloc (.map #[] 0)).heap.size = w.heap.size + 1 + 1 by simp] at this
      exact this
    · rw [Below.heap_alloc _ _ _ (by simp)]
      exact heap_alloc2_new w _ _
  have hA0' := Lib.hid hA0
  have hX : Hid (Sc.zero.cells (w.heap.size + 1) = #[.map (some (w.heap.size + 1)), .int .i64 0, .int .i64 (-1), .int .i64 0]) := rfl
  rw [hX.out] at hA0'
  clear hA0
  generalize ((w.alloc _).alloc _).alloc _ = W0 at *
  go_loopw [20] (fun i wr => ∃ k : Nat, k ≤ n ∧ i = .int .i64 k ∧ LookAt w D g pv st w.heap.size (w.heap.size + 1) (w.heap.size + 1 + 1) k wr) (fun i _ => n - (intOf i).toNat)
  case atStart => exact ⟨0, Nat.zero_le _, rfl, hA0'.out⟩
  case round =>
    obtain ⟨k, hk, rfl, hA⟩ := hrel
    by_cases hlt : k < n
    · have hA' := Lib.hid hA
      clear hA
      have hsk := hsec'.out k hlt
      have hstep : scan st.visible (k + 1) = (scan st.visible k).step k (st.visible k) := rfl
      have hr1 := hread'.out _ k hlt hA'.out.disk
      have hvk : Hid (st.visible k = st.visible k) := rfl
      generalize hsv : st.visible k = s at hsk hstep hr1
      have hr1' := Lib.hid hr1
      have hstep' := Lib.hid hstep
      have h64 := hsk.len
      clear hsv hr1 hstep
      go_wp2_with (go_at_call 37; refine (hr1'.out).mono ?_; rintro e u1 ⟨rfl, hd1, hk1⟩)
      obtain ⟨a1, a2, a3, a4, a5⟩ := hA'.out.read (foot_lt hh.out (Nat.le_refl _)) (foot_lt hh.out (by omega)) (foot_lt hh.out (by omega)) hd1 hk1
      have hL1 : LM w D g pv st w.heap.size (w.heap.size + 1) (w.heap.size + 1 + 1) (k + 1) ((scan st.visible k).cells (w.heap.size + 1)) (scan st.visible k).m u1 := ⟨a1, a2, a3, a4, a5⟩
      have hkeys : getFr (scan st.visible k).m (k : Nat) = none := getFr_none (scan_keys _ k)
      have hL1' := Lib.hid hL1
      have hkeys' := Lib.hid hkeys
      have hsk' := Lib.hid hsk
      clear a1 a2 a3 a4 a5 hd1 hk1 hL1 hkeys hsk
      generalize scan st.visible k = x at *
      obtain ⟨m, gr, bl, ar0⟩ := x
      have hparse := fun W => parse_walk W s hsk'.out
      generalize hpf : parseFr s = z at *
      have hpf' := Lib.hid hpf
      obtain ⟨f, ok⟩ := z
      have hparse' := Lib.hid hparse
      have hR : Hid (w.heap.size ≠ w.heap.size + 1 ∧ w.heap.size ≠ w.heap.size + 1 + 1 ∧ w.heap.size + 1 + 1 ≠ w.heap.size + 1 ∧ w.heap.size + 1 ≠ w.heap.size + 1 + 1) := ⟨by omega, by omega, by omega, by omega⟩
      have hh0 := hh
      clear hpf hparse
      cases ok with
      | false =>
        have hnext : Hid (scan st.visible (k + 1) = ⟨m, gr, bl, ar0⟩) := by
          rw [hstep'.out]
          unfold Sc.step
          rw [hpf'.out, if_neg (by simp)]
          exact rfl
        go_wp2_with (go_at_call 63; refine (hparse'.out _).mono ?_; rintro e u2 ⟨rfl, hb2⟩; have hL2 := Lib.hid ((hL1'.out.below ((Below.refl _ _).alloc (Nat.le_refl _) (.cells (sec s) 26))).below hb2))
        go_roundw
        case rel =>
          have hL3 := hL2.out.below ((Below.refl _ _).alloc (Nat.le_refl _) (.cells f.cells 87))
          exact ⟨k + 1, by omega, by go_num, ⟨hL3.disk, hL3.kept, hL3.res, by rw [hnext.out]; exact hL3.box, by rw [hnext.out]; exact hL3.map⟩⟩
        case measure => simp [intOf]; omega
      | true =>
        have hsup := fun W => super_walk W f
        generalize hsf : superFr f = sf at *
        have hsf' := Lib.hid hsf
        obtain ⟨ar, is⟩ := sf
        have hsup' := Lib.hid hsup
        clear hsf hsup
        generalize hfr : (getFr (m ++ [(k, f)]) bl).getD Fr.none = fr at *
        have hcase : (is = false ∧ Hid (Sc.takes ⟨m, gr, bl, ar0⟩ k f = false)) ∨ (is = true ∧ ¬ (k : Int) < 2 ∧ Hid (Sc.takes ⟨m, gr, bl, ar0⟩ k f = false)) ∨ (is = true ∧ (k : Int) < 2 ∧ bl < 0 ∧ Hid (Sc.takes ⟨m, gr, bl, ar0⟩ k f = true)) ∨ (is = true ∧ (k : Int) < 2 ∧ ¬ bl < 0 ∧ fr.epoch < f.epoch ∧ Hid (Sc.takes ⟨m, gr, bl, ar0⟩ k f = true)) ∨ (is = true ∧ (k : Int) < 2 ∧ ¬ bl < 0 ∧ ¬ fr.epoch < f.epoch ∧ Hid (Sc.takes ⟨m, gr, bl, ar0⟩ k f = false)) := by
          have hTe : Sc.takes ⟨m, gr, bl, ar0⟩ k f = (is && decide (k < 2) && (decide (bl < 0) || decide (fr.epoch < f.epoch))) := by
            unfold Sc.takes
            rw [hsf'.out, hfr]
          cases is
          · exact .inl ⟨rfl, by rw [hTe]; exact rfl⟩
          · by_cases h1 : (k : Int) < 2
            · have h1' : k < 2 := by omega
              by_cases h2 : bl < 0
              · exact .inr (.inr (.inl ⟨rfl, h1, h2, show _ = _ by rw [hTe]; simp [h1', h2]⟩))
              · by_cases h3 : fr.epoch < f.epoch
                · exact .inr (.inr (.inr (.inl ⟨rfl, h1, h2, h3, show _ = _ by rw [hTe]; simp [h1', h3]⟩)))
                · exact .inr (.inr (.inr (.inr ⟨rfl, h1, h2, h3, show _ = _ by rw [hTe]; simp only [h2, h3, decide_false, Bool.or_false, Bool.and_false]⟩)))
            · have h1' : ¬ k < 2 := by omega
              exact .inr (.inl ⟨rfl, h1, show _ = _ by rw [hTe]; simp [h1']⟩)
        have hfr' := Lib.hid hfr
        clear hfr
        have hmx1 : gr < f.epoch → max gr f.epoch = f.epoch := fun _ => by omega
        have hmx2 : ¬ gr < f.epoch → max gr f.epoch = gr := fun _ => by omega
        have hmx1' := Lib.hid hmx1
        have hmx2' := Lib.hid hmx2
        clear hmx1 hmx2
        by_cases hg : gr < f.epoch
        all_goals rcases hcase with ⟨rfl, hT⟩ | ⟨rfl, h1, hT⟩ | ⟨rfl, h1, h2, hT⟩ | ⟨rfl, h1, h2, h3, hT⟩ | ⟨rfl, h1, h2, h3, hT⟩
        all_goals
          go_wp2_with (first
            | (go_at_call 63; refine (hparse'.out _).mono ?_; rintro e u2 ⟨rfl, hb2⟩; have hL2 := Lib.hid ((hL1'.out.below ((Below.refl _ _).alloc (Nat.le_refl _) (.cells (sec s) 26))).below hb2); obtain ⟨x0, x1, x2, x3, xf, xl⟩ := scan_facts hL2.out.box; clear hb2)
            | (at_mapUpdate; refine wpList_update_own rfl (.tmp 41) (.tmp 42) (.tmp 43) rfl (w.heap.size + 1) m k f (by rfl) (by rfl) (by rfl) (hL2.out.below ((Below.refl _ _).alloc (Nat.le_refl _) (.cells f.cells 87))).map hkeys'.out ?_; intro w4 hm4 hg4; have hB2 : u2.heap.size < (u2.alloc (.cells f.cells 87)).heap.size := (by simp); have hfb4 : w4.heap[u2.heap.size]? = some (.cells f.cells 87 (0, 0)) := ((hg4.block _ hB2 (fun e => by have h9 := Option.some.inj e; have h10 := hL2.out.map.lt; omega)).trans (heap_alloc_new _ _)); have hL4 := Lib.hid ((hL2.out.below ((Below.refl _ _).alloc (Nat.le_refl _) (.cells f.cells 87))).grown (by omega) hh0.out hR.out.1 hR.out.2.2.1 hm4 hg4); have hfb4' := Lib.hid hfb4; clear x0 x1 x2 x3 xf xl hm4 hg4 hB2; obtain ⟨x0, x1, x2, x3, xf, xl⟩ := scan_facts hL4.out.box; obtain ⟨y0, y1, yl⟩ := fbox_facts hfb4; have hne4 : u2.heap.size ≠ w.heap.size + 1 + 1 := (by have h10 := lt_of_block hL2.out.box; omega); clear hfb4)
            | (go_at_call 64; refine (hsup'.out _).mono ?_; rintro e u5 ⟨rfl, hb5⟩; have hL5 := Lib.hid ((hL4.out.set (by omega) hh0.out hR.out.2.1 hR.out.2.2.2 1 _).below hb5); have hfb5 : u5.heap[u2.heap.size]? = some (.cells f.cells 87 (0, 0)) := (hb5.block _ (by simpa using lt_of_block hfb4'.out)).trans ((heap_setCell_other _ _ _ _ hne4).trans hfb4'.out); have hlk := run_lookup_own hL5.out.map bl false; rw [hfr'.out] at hlk; clear x0 x1 x2 x3 xf xl y0 y1 yl hb5 hne4; obtain ⟨x0, x1, x2, x3, xf, xl⟩ := scan_facts hL5.out.box; obtain ⟨y0, y1, yl⟩ := fbox_facts hfb5; clear hfb5))
          refine ⟨⟨k + 1, by omega, by go_num, ?_⟩, by simp [intOf]; omega⟩
          first
            | (have hst := hstep'.out.trans (step_no hpf'.out hT.out); have hL6 := hL5.out; (first | rw [hmx1'.out hg] at hst | rw [hmx2'.out hg] at hst); exact ⟨hL6.disk, hL6.kept, hL6.res, by rw [hst]; exact hL6.box, by rw [hst]; exact hL6.map⟩)
            | (have hst := hstep'.out.trans (step_yes hpf'.out hT.out); have hL6 := (hL5.out.set (by omega) hh0.out hR.out.2.1 hR.out.2.2.2 2 (.int .i64 k)).set (by omega) hh0.out hR.out.2.1 hR.out.2.2.2 3 (.int .i64 ar); rw [hsf'.out] at hst; (first | rw [hmx1'.out hg] at hst | rw [hmx2'.out hg] at hst); exact ⟨hL6.disk, hL6.kept, hL6.res, by rw [hst]; exact hL6.box, by rw [hst]; exact hL6.map⟩)
    · obtain rfl : k = n := by omega
      have hbx := rowOf_of hA.box
      have hrs := rowOf_of hA.res
      have hA' := Lib.hid hA
      clear hA
      have h1 := hA'.out.disk
      have h2 := hA'.out.kept
      have h3 := hA'.out.res
      have h4 := hA'.out.map
      have hl := foot_lt hh.out (Nat.le_refl _)
      have hsz := lt_of_block h3
      clear hA'
      have hx : Hid (MapIn wr (w.heap.size + 1) (scan st.visible k).m ∧ DiskIn wr D g pv (reads st k) ∧ Kept (foot D g pv) w wr ∧ wr.heap[w.heap.size]? = some (.cells #[.map none, .int .i64 0, .int .i64 0, .int .i64 0] 81 (0, 0))) := ⟨h4, h1, h2, h3⟩
      clear h1 h2 h3 h4
      generalize scan st.visible k = x at *
      have hcl : ∀ j u, (x.cells (w.heap.size + 1)).toList[j]? = some u → wr.cell? ⟨w.heap.size + 1 + 1, 0 + j, none⟩ = some u := by
        intro j u hu
        rw [cell_row (by rw [hbx, size_sc]; omega), hbx, Nat.zero_add]
        simpa using hu
      have hcl' := Lib.hid hcl
      clear hcl
      go_wp2_with (first
        | (with_reducible refine wpList_load_cells ag_scan rfl (.tmp 4) rfl (w.heap.size + 1 + 1) 0 rfl (x.cells (w.heap.size + 1)) (size_sc _ _) hcl'.out ?_)
        | (with_reducible refine wpList_store_whole ag_scan (by omega) rfl (.tmp 2) (.tmp 81) rfl w.heap.size _ (x.cells (w.heap.size + 1)) rfl rfl hrs rfl (size_sc _ _) (one_sc _ _) ?_))
      obtain ⟨z1, z2, z3, z4⟩ := hx.out
      have hkp : Kept (fun q => q = w.heap.size) wr (wr.setRow w.heap.size (x.cells (w.heap.size + 1))) := Kept.setRow wr (F := fun q => q = w.heap.size) rfl _
      exact bodyPost_ret (results_cell_tmp' rfl ag_scan _ rfl (rowOf_setRow_same _ (by rw [hrs]; simp)) (size_sc _ _) (by omega)) rfl
        ⟨w.heap.size + 1, rfl, z2.kept hkp (fun q hq e => hl (e ▸ hq)), z1.same (hkp.block _ z1.lt (by omega)), z3.trans' hkp (fun q hq e => by omega), by omega⟩
end Go.Proofs.Ytlhnhhjpjkgogaa.wl
