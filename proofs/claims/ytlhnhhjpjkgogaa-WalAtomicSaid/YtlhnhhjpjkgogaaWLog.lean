/- A log over a disk as a value, and the walks of its small functions. -/
import Derived.Test.YtlhnhhjpjkgogaaM1
import Derived.Test.YtlhnhhjpjkgogaaDSmall
import Derived.Test.YtlhnhhjpjkgogaaDFlush
import Derived.Deep.QuietTactic
import Derived.BigQuiet
namespace Go.Proofs.Ytlhnhhjpjkgogaa.wl
open Go.RowKit Go.Proofs.Ytlhnhhjpjkgogaa.agg Go.Proofs.Ytlhnhhjpjkgogaa.dk

/-- A log. -/
structure Lg where
  epoch : Int
  block : Int
  area : Int
  fin : Int
  failed : Int
def Lg.cells (D : Nat) (l : Lg) : Array Value := #[.pointer (some ⟨D, 0, none⟩), .int .i64 l.epoch, .int .i64 l.block, .int .i64 l.area, .int .i64 l.fin, .int .i64 l.failed]
/-- The log lies at block L, over a disk. -/
structure LogIn (w : World) (L D g : Nat) (pv : Value) (st : St) (l : Lg) : Prop where
  disk : DiskIn w D g pv st
  log : w.heap[L]? = some (.cells (l.cells D) 85 (0, 0))
  far : ¬ foot D g pv L
/-- The blocks of a log. -/
def lfoot (L D g : Nat) (pv : Value) (k : Nat) : Prop := k = L ∨ foot D g pv k
theorem LogIn.cell {w : World} {L D g : Nat} {pv : Value} {st : St} {l : Lg} (h : LogIn w L D g pv st l) :
    w.cell? ⟨L, 0, none⟩ = some (.pointer (some ⟨D, 0, none⟩)) ∧ w.cell? ⟨L, 1, none⟩ = some (.int .i64 l.epoch) ∧ w.cell? ⟨L, 2, none⟩ = some (.int .i64 l.block) ∧ w.cell? ⟨L, 3, none⟩ = some (.int .i64 l.area) ∧ w.cell? ⟨L, 4, none⟩ = some (.int .i64 l.fin) ∧ w.cell? ⟨L, 5, none⟩ = some (.int .i64 l.failed) := by
  simp [World.cell?, h.log, Lg.cells]
theorem LogIn.free {w : World} {L D g : Nat} {pv : Value} {st : St} {l : Lg} (h : LogIn w L D g pv st l) (i : Nat) : w.frozen? ⟨L, i, none⟩ = false := by
  simp [World.frozen?, h.log]
theorem LogIn.lt {w : World} {L D g : Nat} {pv : Value} {st : St} {l : Lg} (h : LogIn w L D g pv st l) : ∀ k, lfoot L D g pv k → k < w.heap.size := by
  rintro k (rfl | hk)
  · exact lt_of_block h.log
  · exact h.disk.lt k hk
theorem LogIn.kept {w w' : World} {L D g : Nat} {pv : Value} {st : St} {l : Lg} (h : LogIn w L D g pv st l) {F : Nat → Prop} (hk : Kept F w w') (hF : ∀ k, lfoot L D g pv k → ¬ F k) : LogIn w' L D g pv st l :=
  ⟨h.disk.kept hk (fun k hf => hF k (.inr hf)), (hk.block L (h.lt L (.inl rfl)) (hF L (.inl rfl))).trans h.log, h.far⟩
theorem LogIn.below {w w' : World} {L D g : Nat} {pv : Value} {st : St} {l : Lg} (h : LogIn w L D g pv st l) (hb : Below w.heap.size w w') : LogIn w' L D g pv st l :=
  h.kept (F := fun _ => False) (Kept.of_below hb) (fun _ _ => id)
theorem LogIn.drew {w : World} {L D g : Nat} {pv : Value} {st : St} {l : Lg} (h : LogIn w L D g pv st l) : LogIn w.drew L D g pv st l := h.below (Below.refl _ w).drew
/-- A call of the disk's own. -/
theorem LogIn.turn {w w' : World} {L D g : Nat} {pv pv' : Value} {st st' : St} {l : Lg} (h : LogIn w L D g pv st l) (hd : DiskIn w' D g pv' st') (hk : Kept (foot D g pv) w w') (hf : Fresh w pv pv') : LogIn w' L D g pv' st' l := by
  have hL := lt_of_block h.log
  refine ⟨hd, (hk.block L hL h.far).trans h.log, ?_⟩
  rintro (e | e | e)
  · exact h.far (.inl e)
  · exact h.far (.inr (.inl e))
  · rcases hf L e with e' | e'
    · exact h.far (.inr (.inr e'))
    · omega
theorem lkept {w w' : World} {L D g : Nat} {pv : Value} (hk : Kept (foot D g pv) w w') : Kept (lfoot L D g pv) w w' := hk.mono (fun _ _ h => .inr h)
/-- Two steps. -/
theorem lkept_trans {a b c : World} {L D g : Nat} {pv pv' : Value} (h : Kept (lfoot L D g pv) a b) (hf : Fresh a pv pv') (k : Kept (lfoot L D g pv') b c) : Kept (lfoot L D g pv) a c :=
  h.trans' k (fun i hi e => by
    rcases e with e | e | e | e
    · exact .inl e
    · exact .inr (.inl e)
    · exact .inr (.inr (.inl e))
    · rcases hf i e with e' | e'
      · exact .inr (.inr (.inr e'))
      · omega)
theorem fresh_trans {a b : World} {pv pv' pv'' : Value} (h : Fresh a pv pv') (hs : a.heap.size ≤ b.heap.size) (k : Fresh b pv' pv'') : Fresh a pv pv'' := fun i hi => by
  rcases k i hi with e | e
  · exact h i e
  · exact .inr (by omega)
/-- The log's own cells are written. -/
theorem LogIn.put {w : World} {L D g : Nat} {pv : Value} {st : St} {l l' : Lg} (h : LogIn w L D g pv st l) (i : Nat) (v : Value) (e : (l.cells D).setIfInBounds i v = l'.cells D) : LogIn (w.setCell ⟨L, i, none⟩ v) L D g pv st l' :=
  ⟨h.disk.kept (F := fun k => k = L) (Kept.setCell w (a := ⟨L, i, none⟩) (F := fun k => k = L) rfl v) (fun k hf e => h.far (e ▸ hf)), by rw [heap_setCell_same _ _ _ _ _ _ h.log, e], h.far⟩

/-- The number of sectors of an area. -/
def sizeOf' (st : St) : Int := ((st.dur.length : Int) - 2).tdiv 2

set_option maxHeartbeats 400000 in
theorem size_any {w : World} {L D g : Nat} {pv : Value} {st : St} {l : Lg} (h : LogIn w L D g pv st l) :
    Calls Try.prog 44 #[.pointer (some ⟨L, 0, none⟩)] w fun e w' => e = .returned (.int .i64 (sizeOf' st)) ∧ w = w' := by
  obtain ⟨c0, c1, c2, c3, c4, c5⟩ := h.cell
  have hfew := h.disk.few
  have hd := h.disk
  clear c1 c2 c3 c4 c5
  unfold sizeOf'
  generalize hm : st.dur.length = m at *
  have hm' := Lib.hid hm
  clear hm
  go_enter Try.func44, Try.ntmps44
  go_wp2_with (go_at_call 52; refine (sectors_any _ hd).mono ?_; rintro e w' ⟨rfl, rfl⟩; rw [hm'.out])
  go_ret
  exact ⟨rfl, rfl⟩
set_option maxHeartbeats 400000 in
theorem fail_any {w : World} {L D g : Nat} {pv : Value} {st : St} {l : Lg} (h : LogIn w L D g pv st l) (n : Int) :
    Calls Try.prog 48 #[.pointer (some ⟨L, 0, none⟩), .int .i64 n] w fun e w' => e = .returned (.int .i64 n) ∧ LogIn w' L D g pv st (if n = 0 then l else { l with failed := n }) ∧ Kept (lfoot L D g pv) w w' := by
  obtain ⟨c0, c1, c2, c3, c4, c5⟩ := h.cell
  have f5 := h.free 5
  have hh := Lib.hid h
  by_cases h0 : n = 0
  · subst h0
    go_enter Try.func48, Try.ntmps48
    go_wp2
    go_ret
    exact ⟨rfl, hh.out, Kept.refl _ _⟩
  · rw [if_neg h0]
    have hp := h.put 5 (.int .i64 n) (l' := { l with failed := n }) rfl
    have hp' := Lib.hid hp
    clear hp
    go_enter Try.func48, Try.ntmps48
    go_wp2
    go_ret
    exact ⟨rfl, hp'.out, Kept.setCell w (.inl rfl) _⟩
end Go.Proofs.Ytlhnhhjpjkgogaa.wl
