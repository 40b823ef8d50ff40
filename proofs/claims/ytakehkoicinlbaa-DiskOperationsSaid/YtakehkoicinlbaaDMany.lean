/- Several disks in one world. -/
import Derived.Test.YtakehkoicinlbaaDClone
namespace Go.Proofs.Ytakehkoicinlbaa.dk
open Go.RowKit Go.Proofs.Ytakehkoicinlbaa.agg

structure Dk where
  D : Nat
  g : Nat
  pv : Value
  st : St
def Dk.In (x : Dk) (w : World) : Prop := DiskIn w x.D x.g x.pv x.st
def Dk.foot (x : Dk) (k : Nat) : Prop := dk.foot x.D x.g x.pv k
def Apart (x y : Dk) : Prop := ∀ k, x.foot k → ¬ y.foot k
theorem Apart.symm {x y : Dk} (h : Apart x y) : Apart y x := fun k hy hx => h k hx hy
/-- Disks that lie apart, in blocks from B on; the world below B as it was. -/
structure Lives (B : Nat) (w0 w : World) (l : List Dk) : Prop where
  disk : ∀ x ∈ l, x.In w
  ge : ∀ x ∈ l, ∀ k, x.foot k → B ≤ k
  apart : l.Pairwise Apart
  below : Below B w0 w
theorem Live.many {B D g : Nat} {w0 w : World} {pv : Value} {st : St} (h : Live B D g w0 w pv st) : Lives B w0 w [⟨D, g, pv, st⟩] :=
  ⟨fun x hx => by rw [List.mem_singleton.1 hx]; exact h.disk, fun x hx => by rw [List.mem_singleton.1 hx]; exact h.ge, by simp, h.below⟩
theorem Lives.quiet {B : Nat} {w0 w w' : World} {l : List Dk} (h : Lives B w0 w l) (hB : B ≤ w0.heap.size) (hb : Below w.heap.size w w') : Lives B w0 w' l :=
  ⟨fun x hx => (h.disk x hx).kept (Kept.of_below (F := fun _ => False) hb) (fun _ _ => id), h.ge, h.apart, h.below.trans (hb.mono (Nat.le_trans hB h.below.size))⟩
theorem Lives.drew {B : Nat} {w0 w : World} {l : List Dk} (h : Lives B w0 w l) : Lives B w0 w.drew l :=
  ⟨fun x hx => DiskIn.drew (h.disk x hx), h.ge, h.apart, h.below.drew⟩
/-- One more disk, in new blocks. -/
theorem Lives.add {B : Nat} {w0 w w' : World} {l : List Dk} (h : Lives B w0 w l) (hB : B ≤ w0.heap.size) (hb : Below w.heap.size w w') (x : Dk) (hx : x.In w') (hf : ∀ k, x.foot k → w.heap.size ≤ k) : Lives B w0 w' (x :: l) := by
  have h2 := h.quiet hB hb
  refine ⟨fun y hy => ?_, fun y hy k hk => ?_, ?_, h2.below⟩
  · rcases List.mem_cons.1 hy with rfl | hy
    · exact hx
    · exact h2.disk y hy
  · rcases List.mem_cons.1 hy with rfl | hy
    · exact Nat.le_trans (Nat.le_trans hB h.below.size) (hf k hk)
    · exact h2.ge y hy k hk
  · refine List.pairwise_cons.2 ⟨fun y hy k hk hk2 => ?_, h.apart⟩
    have h3 := hf k hk
    have h4 := DiskIn.lt (h.disk y hy) k hk2
    omega
theorem Lives.done {B : Nat} {w0 w w' : World} (p : List Dk) {x : Dk} {q : List Dk} (h : Lives B w0 w (p ++ x :: q)) (hB : B ≤ w0.heap.size) {st' : St} (hd : Done x.D x.g x.pv st' w w') : ∃ pv', Lives B w0 w' (p ++ ⟨x.D, x.g, pv', st'⟩ :: q) := by
  obtain ⟨pv', h1, h2, h3⟩ := hd
  have hx : x ∈ p ++ x :: q := by simp
  have hfresh : ∀ k, dk.foot x.D x.g pv' k → x.foot k ∨ w.heap.size ≤ k := by
    rintro k (rfl | rfl | hk)
    · exact .inl (.inl rfl)
    · exact .inl (.inr (.inl rfl))
    · rcases h3 k hk with h4 | h4
      · exact .inl (.inr (.inr h4))
      · exact .inr h4
  obtain ⟨h4, h5⟩ := live_step (h.ge x hx) (Nat.le_trans hB h.below.size) h2 h3
  obtain ⟨a1, a2, a3⟩ := List.pairwise_append.1 h.apart
  obtain ⟨a4, a5⟩ := List.pairwise_cons.1 a2
  have hap : ∀ y, y ∈ p ∨ y ∈ q → Apart x y := by
    rintro y (hy | hy)
    · exact (a3 y hy x (by simp)).symm
    · exact a4 y hy
  have hin : ∀ y, y ∈ p ∨ y ∈ q → y ∈ p ++ x :: q := by
    rintro y (hy | hy) <;> simp [hy]
  have hnew : ∀ y, y ∈ p ∨ y ∈ q → Apart ⟨x.D, x.g, pv', st'⟩ y := by
    intro y hy k hk hk2
    rcases hfresh k hk with h6 | h6
    · exact hap y hy k h6 hk2
    · have := DiskIn.lt (h.disk y (hin y hy)) k hk2
      omega
  refine ⟨pv', fun y hy => ?_, fun y hy k hk => ?_, ?_, h.below.trans h5⟩
  · have hy' : (y ∈ p ∨ y ∈ q) ∨ y = ⟨x.D, x.g, pv', st'⟩ := by
      rcases List.mem_append.1 hy with hy | hy
      · exact .inl (.inl hy)
      · rcases List.mem_cons.1 hy with hy | hy
        · exact .inr hy
        · exact .inl (.inr hy)
    rcases hy' with hy' | rfl
    · exact DiskIn.kept (h.disk y (hin y hy')) h2 (fun k hk hk2 => hap y hy' k hk2 hk)
    · exact h1
  · have hy' : (y ∈ p ∨ y ∈ q) ∨ y = ⟨x.D, x.g, pv', st'⟩ := by
      rcases List.mem_append.1 hy with hy | hy
      · exact .inl (.inl hy)
      · rcases List.mem_cons.1 hy with hy | hy
        · exact .inr hy
        · exact .inl (.inr hy)
    rcases hy' with hy' | rfl
    · exact h.ge y (hin y hy') k hk
    · exact h4 k hk
  · refine List.pairwise_append.2 ⟨a1, List.pairwise_cons.2 ⟨fun y hy => hnew y (.inr hy), a5⟩, fun y hy z hz => ?_⟩
    rcases List.mem_cons.1 hz with rfl | hz
    · exact (hnew y (.inl hy)).symm
    · exact a3 y hy z (by simp [hz])
theorem Lives.applied {B : Nat} {w0 w w' : World} (p : List Dk) {x : Dk} {q : List Dk} (h : Lives B w0 w (p ++ x :: q)) (hB : B ≤ w0.heap.size) {st' : St} (hd : Applied x.D x.g x.pv st' w w') : Lives B w0 w' (p ++ ⟨x.D, x.g, x.pv, st'⟩ :: q) := by
  have hx : x ∈ p ++ x :: q := by simp
  obtain ⟨h4, h5⟩ := live_step (h.ge x hx) (Nat.le_trans hB h.below.size) hd.2 (fresh_same _ _)
  obtain ⟨a1, a2, a3⟩ := List.pairwise_append.1 h.apart
  obtain ⟨a4, a5⟩ := List.pairwise_cons.1 a2
  have hap : ∀ y, y ∈ p ∨ y ∈ q → Apart x y := by
    rintro y (hy | hy)
    · exact (a3 y hy x (by simp)).symm
    · exact a4 y hy
  have hin : ∀ y, y ∈ p ∨ y ∈ q → y ∈ p ++ x :: q := by
    rintro y (hy | hy) <;> simp [hy]
  refine ⟨fun y hy => ?_, fun y hy k hk => ?_, ?_, h.below.trans h5⟩
  · have hy' : (y ∈ p ∨ y ∈ q) ∨ y = ⟨x.D, x.g, x.pv, st'⟩ := by
      rcases List.mem_append.1 hy with hy | hy
      · exact .inl (.inl hy)
      · rcases List.mem_cons.1 hy with hy | hy
        · exact .inr hy
        · exact .inl (.inr hy)
    rcases hy' with hy' | rfl
    · exact DiskIn.kept (h.disk y (hin y hy')) hd.2 (fun k hk hk2 => hap y hy' k hk2 hk)
    · exact hd.1
  · have hy' : (y ∈ p ∨ y ∈ q) ∨ y = ⟨x.D, x.g, x.pv, st'⟩ := by
      rcases List.mem_append.1 hy with hy | hy
      · exact .inl (.inl hy)
      · rcases List.mem_cons.1 hy with hy | hy
        · exact .inr hy
        · exact .inl (.inr hy)
    rcases hy' with hy' | rfl
    · exact h.ge y (hin y hy') k hk
    · exact h4 k hk
  · refine List.pairwise_append.2 ⟨a1, List.pairwise_cons.2 ⟨fun y hy => a4 y hy, a5⟩, fun y hy z hz => ?_⟩
    rcases List.mem_cons.1 hz with rfl | hz
    · exact (hap y (.inl hy)).symm
    · exact a3 y hy z (by simp [hz])
end Go.Proofs.Ytakehkoicinlbaa.dk
