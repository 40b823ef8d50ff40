/-
  The disk (confluent/disk) as a value in Lean, and what it means that a world holds it. No program is walked here.
-/
import Derived.Test.YtlhnhhjpjkgogaaAgg
namespace Go.Proofs.Ytlhnhhjpjkgogaa.dk
open Go.RowKit Go.Proofs.Ytlhnhhjpjkgogaa.agg

/-- A pending write as cells. -/
def wcells (x : Int × List Int) : List Value := .int .i64 x.1 :: u8s x.2
def flatD (l : List (List Int)) : List Value := (l.map u8s).flatten
def flatP (l : List (Int × List Int)) : List Value := (l.map wcells).flatten

theorem ag_sec : IsAgg Try.prog 26 64 := ⟨fun _ => by kernel_rfl, fun _ => by kernel_rfl⟩
theorem ag_dw : IsAgg Try.prog 104 65 := ⟨fun _ => by kernel_rfl, fun _ => by kernel_rfl⟩
def zeros : List Int := List.replicate 64 0
@[go_sem] theorem length_zeros : zeros.length = 64 := by decide
theorem zero_sec (w : World) : (zeroValue 26).run Try.prog w = .ok (.agg (sec zeros)) w := by kernel_rfl
section
variable {a : Act} {w : World} {K : Act → World → Prop} {Q : Exit → Act → World → Prop} {dst : Option Tmp} {ty : TypeId} {pos : String} {aft : Array Edge} {gd : Option (Nat × Bool)}
@[go_sem ↓] theorem load_sec (x : Operand) (h : aggOk w (a.eval x) 64 = true) : Oper.wp Try.prog ⟨dst, .load 26 x, ty, pos, aft, gd⟩ a w K Q = K (a.put dst (aggAt w (a.eval x) 64)) w := wp_load_agg ag_sec x h
@[go_sem ↓] theorem store_sec (x y : Operand) (h : aggOk w (a.eval x) 64 = true) (hy : plain (a.eval y) 64 = true) : Oper.wp Try.prog ⟨dst, .store 26 x y, ty, pos, aft, gd⟩ a w K Q = K (a.put dst undef) (putRow w (a.eval x) (cellsOf (a.eval y))) := wp_store_agg ag_sec x y h hy
@[go_sem ↓] theorem alloc_sec : Oper.wp Try.prog ⟨dst, .alloc 26, ty, pos, aft, gd⟩ a w K Q = K (a.put dst (.pointer (some ⟨w.heap.size, 0, none⟩))) (w.alloc (.cells (sec zeros) 26)) := wp_alloc_agg zero_sec
@[go_sem ↓] theorem load_dw (x : Operand) (h : aggOk w (a.eval x) 65 = true) : Oper.wp Try.prog ⟨dst, .load 104 x, ty, pos, aft, gd⟩ a w K Q = K (a.put dst (aggAt w (a.eval x) 65)) w := wp_load_agg ag_dw x h
@[go_sem ↓] theorem store_dw (x y : Operand) (h : aggOk w (a.eval x) 65 = true) (hy : plain (a.eval y) 65 = true) : Oper.wp Try.prog ⟨dst, .store 104 x y, ty, pos, aft, gd⟩ a w K Q = K (a.put dst undef) (putRow w (a.eval x) (cellsOf (a.eval y))) := wp_store_agg ag_dw x y h hy
@[go_sem ↓] theorem eql_sec (x y : Operand) {T' : TypeId} (hx : isSec (a.eval x) 64) (hy : isSec (a.eval y) 64) :
    Oper.wp Try.prog ⟨dst, .binOp .eql 26 x y T', ty, pos, aft, gd⟩ a w K Q = K (a.put dst (.bool (decide (bytesOf (a.eval x) = bytesOf (a.eval y))))) w :=
  wp_eql_sec (P := Try.prog) (T := 26) (E := 5) (by kernel_rfl) (by kernel_rfl) (fun _ => by kernel_rfl) (fun _ => by kernel_rfl) (by kernel_rfl) x y hx hy
@[go_sem ↓] theorem neq_sec (x y : Operand) {T' : TypeId} (hx : isSec (a.eval x) 64) (hy : isSec (a.eval y) 64) :
    Oper.wp Try.prog ⟨dst, .binOp .neq 26 x y T', ty, pos, aft, gd⟩ a w K Q = K (a.put dst (.bool (!decide (bytesOf (a.eval x) = bytesOf (a.eval y))))) w :=
  wp_neq_sec (P := Try.prog) (T := 26) (E := 5) (by kernel_rfl) (by kernel_rfl) (fun _ => by kernel_rfl) (fun _ => by kernel_rfl) (by kernel_rfl) x y hx hy

/-- A pending write as cells. -/
def wrow (n : Int) (xs : List Int) : Array Value := #[.int .i64 n] ++ sec xs
@[go_sem] theorem size_wrow (n : Int) (xs : List Int) : (wrow n xs).size = xs.length + 1 := by simp [wrow, sec, u8s]
@[go_sem] theorem one_wrow (n : Int) (xs : List Int) : oneCells (wrow n xs) = true := by
  have := sec_oneCell xs
  simp only [oneCells, wrow, List.all_eq_true, Array.toList_append, List.mem_append]
  rintro u (hu | hu)
  · simp at hu; subst hu; rfl
  · exact this u hu
@[go_sem] theorem pair_wrow (n : Int) (xs : List Int) : pairOf (.int .i64 n) (.agg (sec xs)) = .agg (wrow n xs) := rfl
@[go_sem] theorem cut_wrow (n : Int) (xs : List Int) (k : Nat) (h : xs.length = k) : cut (wrow n xs) 1 k = .agg (sec xs) := by
  subst h
  unfold cut wrow
  congr 1
  apply Array.ext'
  simp [sec, u8s, List.take_of_length_le]
theorem wrow_zero (n : Int) (xs : List Int) : (wrow n xs)[0]? = some (.int .i64 n) := by rw [wrow, ← Array.getElem?_toList]; simp
theorem wrow_toList (n : Int) (xs : List Int) : (wrow n xs).toList = wcells (n, xs) := by simp [wrow, wcells, sec]
theorem zero_dw (w : World) : (zeroValue 104).run Try.prog w = .ok (.agg (wrow 0 zeros)) w := by kernel_rfl
theorem pair_dw : IsPair Try.prog 104 64 (wrow 0 zeros) where
  desc := ⟨_, _, Try.underlying104, rfl, rfl, fun _ => by kernel_rfl, fun _ => by kernel_rfl⟩
  zero := zero_dw
  size := by rw [size_wrow, length_zeros]
@[go_sem ↓] theorem alloc_dw : Oper.wp Try.prog ⟨dst, .alloc 104, ty, pos, aft, gd⟩ a w K Q = K (a.put dst (.pointer (some ⟨w.heap.size, 0, none⟩))) (w.alloc (.cells (wrow 0 zeros) 104)) := wp_alloc_agg zero_dw
@[go_sem ↓] theorem build_dw (x y : Operand) (hx : (a.eval x).oneCell' = true) (hy : sized (a.eval y) 64) : Oper.wp Try.prog ⟨dst, .build 104 #[(0, x), (1, y)], ty, pos, aft, gd⟩ a w K Q = K (a.put dst (pairOf (a.eval x) (a.eval y))) w := wp_build2 pair_dw x y hx hy
@[go_sem] theorem fold_wrow {c : Array Value} (n : Int) (xs : List Int) (hc : c.size = 65) (hx : xs.length = 64) :
    Array.foldl (fun cs (x : Value × Nat) => cs.setIfInBounds (1 + x.snd) x.fst) (c.setIfInBounds 0 (.int .i64 n)) (sec xs).zipIdx 0 64 = wrow n xs := by
  have hs : (sec xs).size = 64 := by rw [size_sec]; exact hx
  have h := fold_overrow' 1 (sec xs) (c.setIfInBounds 0 (.int .i64 n)) (by rw [hs]; simp [hc])
  rw [show (sec xs).zipIdx.size = 64 by simp [hs]] at h
  rw [h]
  obtain ⟨l, rfl⟩ : ∃ l : List Value, c = l.toArray := ⟨c.toList, by simp⟩
  cases l with
  | nil => simp at hc
  | cons v l =>
    apply Array.ext'
    simp at hc
    simp [overrow, wrow, hs, hc]
@[go_sem ↓] theorem slice1_dw (x : Operand) (hx : sized (a.eval x) 65) : Oper.wp Try.prog ⟨dst, .buildSlice 90 1 #[(0, x)], ty, pos, aft, gd⟩ a w K Q = K (a.put dst (.slice (some ⟨w.heap.size, 0, none⟩) 1 1)) (w.alloc (.cells (cellsOf (a.eval x)) 104)) :=
  wp_buildSlice1 (S := 90) (E := 104) (by kernel_rfl) (fun _ => by kernel_rfl) zero_dw (by omega) (by omega) x hx
@[go_sem ↓] theorem build_sec0 : Oper.wp Try.prog ⟨dst, .build 26 #[], ty, pos, aft, gd⟩ a w K Q = K (a.put dst (.agg (sec zeros))) w := by
  have h : (Instr.build 26 #[]).run Try.prog w = .ok (.agg (sec zeros)) w := by kernel_rfl
  unfold Oper.wp execOp
  simp [h, Oper.upon]
end

structure St where
  dur : List (List Int)
  pend : List (Int × List Int)
  left : Int
  failed : Bool
  rd : Int
  wr : Int
  fl : Int
  cap : Nat
  spare : List Value

/-- The cells of the durable contents; behind them what a clone's append may leave. -/
def rowD (st : St) : Array Value := (flatD st.dur ++ st.spare).toArray

/-- The cells of the struct Disk: g the block of the durable contents, pv the slice of the pending writes. -/
def dcells (g : Nat) (pv : Value) (st : St) : Array Value :=
  #[.slice (some ⟨g, 0, none⟩) st.dur.length st.cap, pv, .int .i64 st.left, .bool st.failed, .int .i64 st.rd, .int .i64 st.wr, .int .i64 st.fl]

/-- The disk lies at block D, its contents in block g, its pending writes behind the slice pv. -/
structure DiskIn (w : World) (D g : Nat) (pv : Value) (st : St) : Prop where
  blk : w.heap[D]? = some (.cells (dcells g pv st) 94 (0, 0))
  dur : w.heap[g]? = some (.cells (rowD st) 26 (0, 0))
  len : ∀ s ∈ st.dur, s.length = 64
  plen : ∀ x ∈ st.pend, x.2.length = 64
  pin : ∀ x ∈ st.pend, 0 ≤ x.1 ∧ x.1 < st.dur.length
  pend : w.ownsRow 0 104 65 pv st.pend.length (flatP st.pend)
  few : st.dur.length ≤ 2048
  cap : st.dur.length ≤ st.cap
  pne : pv ≠ .slice none 0 0 → 0 < st.pend.length
  ne1 : D ≠ g
  ne2 : pv.ownBlock ≠ some D
  ne3 : pv.ownBlock ≠ some g

theorem DiskIn.cell {w : World} {D g : Nat} {pv : Value} {st : St} (h : DiskIn w D g pv st) :
    w.cell? ⟨D, 0, none⟩ = some (.slice (some ⟨g, 0, none⟩) st.dur.length st.cap) ∧ w.cell? ⟨D, 1, none⟩ = some pv ∧ w.cell? ⟨D, 2, none⟩ = some (.int .i64 st.left) ∧
    w.cell? ⟨D, 3, none⟩ = some (.bool st.failed) ∧ w.cell? ⟨D, 4, none⟩ = some (.int .i64 st.rd) ∧ w.cell? ⟨D, 5, none⟩ = some (.int .i64 st.wr) ∧ w.cell? ⟨D, 6, none⟩ = some (.int .i64 st.fl) := by
  simp [World.cell?, h.blk, dcells]
theorem DiskIn.free {w : World} {D g : Nat} {pv : Value} {st : St} (h : DiskIn w D g pv st) (i : Nat) : w.frozen? ⟨D, i, none⟩ = false := by
  simp [World.frozen?, h.blk]

/-- What a disk's own call does to the disk's number of calls. -/
def St.call (st : St) : St :=
  if st.failed then st else if st.left = 0 then { st with failed := true } else if 0 < st.left then { st with left := wrap64 (st.left - 1) } else st

theorem St.call_pend (st : St) : st.call.pend = st.pend := by unfold St.call; split <;> (try split) <;> (try split) <;> rfl
theorem St.call_dur (st : St) : st.call.dur = st.dur := by unfold St.call; split <;> (try split) <;> (try split) <;> rfl
theorem St.call_rd (st : St) : st.call.rd = st.rd := by unfold St.call; split <;> (try split) <;> (try split) <;> rfl
theorem St.call_wr (st : St) : st.call.wr = st.wr := by unfold St.call; split <;> (try split) <;> (try split) <;> rfl
theorem St.call_cap (st : St) : st.call.cap = st.cap := by unfold St.call; split <;> (try split) <;> (try split) <;> rfl
theorem St.call_spare (st : St) : st.call.spare = st.spare := by unfold St.call; split <;> (try split) <;> (try split) <;> rfl
theorem St.call_fl (st : St) : st.call.fl = st.fl := by unfold St.call; split <;> (try split) <;> (try split) <;> rfl

/-- The blocks of a disk. -/
def foot (D g : Nat) (pv : Value) (k : Nat) : Prop := k = D ∨ k = g ∨ pv.ownBlock = some k
/-- Outside of some blocks the world is as it was. -/
structure Kept (F : Nat → Prop) (w w' : World) : Prop where
  os : w'.os = w.os
  tape : w'.tape = w.tape
  output : w'.output = w.output
  size : w.heap.size ≤ w'.heap.size
  block : ∀ k, k < w.heap.size → ¬ F k → w'.heap[k]? = w.heap[k]?
theorem Kept.refl (F : Nat → Prop) (w : World) : Kept F w w := ⟨rfl, rfl, rfl, Nat.le_refl _, fun _ _ _ => rfl⟩
theorem Kept.trans {F : Nat → Prop} {a b c : World} (h : Kept F a b) (k : Kept F b c) : Kept F a c :=
  ⟨k.os.trans h.os, k.tape.trans h.tape, k.output.trans h.output, Nat.le_trans h.size k.size, fun i hi hF => (k.block i (Nat.lt_of_lt_of_le hi h.size) hF).trans (h.block i hi hF)⟩
/-- Two steps, the second one with blocks that may be new. -/
theorem Kept.trans' {F G : Nat → Prop} {a b c : World} (h : Kept F a b) (k : Kept G b c) (hG : ∀ i, i < a.heap.size → G i → F i) : Kept F a c :=
  ⟨k.os.trans h.os, k.tape.trans h.tape, k.output.trans h.output, Nat.le_trans h.size k.size, fun i hi hF => (k.block i (Nat.lt_of_lt_of_le hi h.size) (fun g => hF (hG i hi g))).trans (h.block i hi hF)⟩
theorem Kept.mono {F G : Nat → Prop} {a b : World} (h : Kept F a b) (hG : ∀ i, i < a.heap.size → F i → G i) : Kept G a b :=
  ⟨h.os, h.tape, h.output, h.size, fun i hi hF => h.block i hi (fun f => hF (hG i hi f))⟩
theorem Kept.of_below {F : Nat → Prop} {a b : World} (h : Below a.heap.size a b) : Kept F a b := ⟨h.os, h.tape, h.output, h.size, fun i hi _ => h.block i hi⟩
theorem Kept.below {F : Nat → Prop} {a b : World} (h : Kept F a b) (B : Nat) (hB : B ≤ a.heap.size) (hF : ∀ i, F i → B ≤ i) : Below B a b :=
  ⟨h.os, h.tape, h.output, h.size, fun i hi => h.block i (Nat.lt_of_lt_of_le hi hB) (fun f => by have := hF i f; omega)⟩
theorem Kept.alloc {F : Nat → Prop} (w : World) (o : Obj) : Kept F w (w.alloc o) := .of_below ((Below.refl _ w).alloc (Nat.le_refl _) _)
theorem Kept.drew {F : Nat → Prop} (w : World) : Kept F w w.drew := .of_below (Below.refl _ w).drew
theorem Kept.setCell {F : Nat → Prop} (w : World) {a : Addr} (h : F a.block) (v : Value) : Kept F w (w.setCell a v) :=
  ⟨rfl, rfl, rfl, by simp, fun k _ hk => heap_setCell_other w a k v (fun e => hk (e ▸ h))⟩
theorem Kept.setRow {F : Nat → Prop} (w : World) {g : Nat} (h : F g) (c : Array Value) : Kept F w (w.setRow g c) :=
  ⟨rfl, rfl, rfl, by simp, fun k _ hk => setRow_other w g k c (fun e => hk (e ▸ h))⟩
theorem Kept.grown {F : Nat → Prop} {w w' : World} {row : Option Nat} (h : w.grownBy w' row) (hr : ∀ k, row = some k → F k) : Kept F w w' :=
  ⟨h.os, h.tape, h.output, h.size, fun k hk hF => h.block k hk (fun e => hF (hr k e.symm))⟩
/-- A slice of the pending writes is the old one's, or new. -/
def Fresh (w : World) (pv pv' : Value) : Prop := ∀ k, pv'.ownBlock = some k → pv.ownBlock = some k ∨ w.heap.size ≤ k

theorem live_step {B D g : Nat} {pv pv' : Value} {w w' : World} (hl : ∀ k, foot D g pv k → B ≤ k) (hB : B ≤ w.heap.size) (hk : Kept (foot D g pv) w w') (hf : Fresh w pv pv') : (∀ k, foot D g pv' k → B ≤ k) ∧ Below B w w' := by
  refine ⟨?_, hk.below B hB hl⟩
  rintro k (h | h | h)
  · exact hl k (.inl h)
  · exact hl k (.inr (.inl h))
  · rcases hf k h with h' | h'
    · exact hl k (.inr (.inr h'))
    · omega
theorem fresh_same (w : World) (pv : Value) : Fresh w pv pv := fun _ h => .inl h
theorem ownsRow_same {w w' : World} {base : Nat} {e : TypeId} {size : Nat} {v : Value} {n : Nat} {xs : List Value} (h : w.ownsRow base e size v n xs) (hb : ∀ k, v.ownBlock = some k → w'.heap[k]? = w.heap[k]?) : w'.ownsRow base e size v n xs := by
  refine ⟨h.1, ?_⟩
  rcases h.2 with hn | ⟨g, cap, cur, rfl, hg, hh, r⟩
  · exact .inl hn
  · exact .inr ⟨g, cap, cur, rfl, hg, by rw [hb g rfl]; exact hh, r⟩
theorem DiskIn.same {w w' : World} {D g : Nat} {pv : Value} {st : St} (h : DiskIn w D g pv st) (hb : ∀ k, foot D g pv k → w'.heap[k]? = w.heap[k]?) : DiskIn w' D g pv st :=
  { h with
    blk := by rw [hb D (.inl rfl)]; exact h.blk
    dur := by rw [hb g (.inr (.inl rfl))]; exact h.dur
    pend := ownsRow_same h.pend (fun k hk => hb k (.inr (.inr hk))) }
theorem grown_free {w w' : World} {row : Option Nat} (h : w.grownBy w' row) {a : Addr} {v : Value} (hc : w.cell? a = some v) (hne : some a.block ≠ row) (hf : w.frozen? a = false) : w'.frozen? a = false :=
  (World.frozen?_of_block (h.block a.block (World.block_lt_of_cell? w a hc) hne)).trans hf
theorem DiskIn.lt {w : World} {D g : Nat} {pv : Value} {st : St} (h : DiskIn w D g pv st) : ∀ k, foot D g pv k → k < w.heap.size := by
  rintro k (rfl | rfl | hk)
  · exact lt_of_block h.blk
  · exact lt_of_block h.dur
  · exact (h.pend.lt k hk).2
theorem DiskIn.kept {w w' : World} {D g : Nat} {pv : Value} {st : St} (h : DiskIn w D g pv st) {F : Nat → Prop} (hk : Kept F w w') (hF : ∀ k, foot D g pv k → ¬ F k) : DiskIn w' D g pv st :=
  h.same (fun k hf => hk.block k (h.lt k hf) (hF k hf))
theorem DiskIn.alloc {w : World} {D g : Nat} {pv : Value} {st : St} (h : DiskIn w D g pv st) (o : Obj) : DiskIn (w.alloc o) D g pv st :=
  h.kept (F := fun _ => False) (Kept.alloc w o) (fun _ _ => id)
theorem DiskIn.drew {w : World} {D g : Nat} {pv : Value} {st : St} (h : DiskIn w D g pv st) : DiskIn w.drew D g pv st := h.same (fun _ _ => rfl)
/-- The struct's own cells are written; the contents and the pending writes stay. -/
theorem DiskIn.turn {w w' : World} {D g : Nat} {pv : Value} {st st' : St} (h : DiskIn w D g pv st) (hb : w'.heap[D]? = some (.cells (dcells g pv st') 94 (0, 0))) (ho : ∀ k, k ≠ D → foot D g pv k → w'.heap[k]? = w.heap[k]?)
    (hd : st'.dur = st.dur) (hp : st'.pend = st.pend) (hs : st'.spare = st.spare := by rfl) (hcp : st'.cap = st.cap := by rfl) : DiskIn w' D g pv st' where
  blk := hb
  dur := by rw [ho g (fun e => h.ne1 e.symm) (.inr (.inl rfl)), rowD, hd, hs]; exact h.dur
  cap := by rw [hd, hcp]; exact h.cap
  pne := by rw [hp]; exact h.pne
  len := by rw [hd]; exact h.len
  plen := by rw [hp]; exact h.plen
  pin := by rw [hp, hd]; exact h.pin
  pend := by rw [hp]; exact ownsRow_same h.pend (fun k hk => ho k (fun e => h.ne2 (by rw [← e]; exact hk)) (.inr (.inr hk)))
  few := by rw [hd]; exact h.few
  ne1 := h.ne1
  ne2 := h.ne2
  ne3 := h.ne3

end Go.Proofs.Ytlhnhhjpjkgogaa.dk
