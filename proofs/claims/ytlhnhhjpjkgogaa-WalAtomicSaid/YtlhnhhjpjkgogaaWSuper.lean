/- The walk of (wal.frame).superblock. -/
import Derived.Test.YtlhnhhjpjkgogaaWParse
namespace Go.Proofs.Ytlhnhhjpjkgogaa.wl
open Go.RowKit Go.Proofs.Ytlhnhhjpjkgogaa.agg Go.Proofs.Ytlhnhhjpjkgogaa.dk

/-- What superblock returns. -/
def superFr (f : Fr) : Int × Bool :=
  if f.pos = 0 ∧ f.kind = 3 ∧ f.data = ⟨#[0]⟩ then (0, true) else if f.pos = 0 ∧ f.kind = 3 ∧ f.data = ⟨#[1]⟩ then (1, true) else (0, false)

theorem not_bytes {d : ByteArray} {c : UInt8} (h : ¬ d = ⟨#[c]⟩) : (d.toList == [c]) = false := by
  rw [ByteArray.toList_eq]
  rw [beq_eq_false_iff_ne]
  intro e
  refine h ?_
  obtain ⟨⟨l⟩⟩ := d
  simp only at e
  rw [e]
set_option maxHeartbeats 1000000 in
theorem super_walk (w : World) (f : Fr) :
    Calls Try.prog 64 #[.agg f.cells] w fun e w' => e = .returned (.tuple #[.int .i64 (superFr f).1, .bool (superFr f).2]) ∧ Below w.heap.size w w' := by
  obtain ⟨e, p, k, d⟩ := f
  unfold Fr.cells
  simp only
  generalize hr : superFr ⟨e, p, k, d⟩ = r
  have hr' := Lib.hid hr
  clear hr
  by_cases h1 : p = 0
  · subst h1
    by_cases h2 : k = 3
    · subst h2
      by_cases h3 : d = ⟨#[0]⟩
      · subst h3
        have hx : Hid (r = (0, true)) := by
          rw [← hr'.out]
          unfold superFr
          rw [if_pos ⟨rfl, rfl, rfl⟩]
          exact rfl
        go_enter Try.func64, Try.ntmps64
        go_wp2
        go_ret2
        exact ⟨by rw [hx.out]; show Ending.returned (.tuple #[.int .i64 (wrap64 ((⟨#[0]⟩ : ByteArray)[0]'(by decide)).toNat), .bool true]) = Ending.returned (.tuple #[.int .i64 0, .bool true]); rw [show wrap64 (((⟨#[0]⟩ : ByteArray)[0]'(by decide)).toNat : Int) = 0 by decide +kernel], (Below.refl _ _).alloc (Nat.le_refl _) _⟩
      · by_cases h4 : d = ⟨#[1]⟩
        · subst h4
          have hx : Hid (r = (1, true)) := by
            rw [← hr'.out]
            unfold superFr
            rw [if_neg (fun h => h3 h.2.2), if_pos ⟨rfl, rfl, rfl⟩]
            exact rfl
          go_enter Try.func64, Try.ntmps64
          go_wp2
          go_ret2
          exact ⟨by rw [hx.out]; show Ending.returned (.tuple #[.int .i64 (wrap64 ((⟨#[1]⟩ : ByteArray)[0]'(by decide)).toNat), .bool true]) = Ending.returned (.tuple #[.int .i64 1, .bool true]); rw [show wrap64 (((⟨#[1]⟩ : ByteArray)[0]'(by decide)).toNat : Int) = 1 by decide +kernel], (Below.refl _ _).alloc (Nat.le_refl _) _⟩
        · have e1 := not_bytes h3
          have e2 := not_bytes h4
          have hx : Hid (r = (0, false)) := by
            rw [← hr'.out]
            unfold superFr
            rw [if_neg (fun h => h3 h.2.2), if_neg (fun h => h4 h.2.2)]
            exact rfl
          clear h3 h4
          go_enter Try.func64, Try.ntmps64
          go_wp2
          go_ret2
          exact ⟨by rw [hx.out]; rfl, (Below.refl _ _).alloc (Nat.le_refl _) _⟩
    · have hx : Hid (r = (0, false)) := by
        rw [← hr'.out]
        unfold superFr
        rw [if_neg (fun h => h2 h.2.1), if_neg (fun h => h2 h.2.1)]
        exact rfl
      go_enter Try.func64, Try.ntmps64
      go_wp2
      go_ret2
      exact ⟨by rw [hx.out]; rfl, (Below.refl _ _).alloc (Nat.le_refl _) _⟩
  · have hx : Hid (r = (0, false)) := by
      rw [← hr'.out]
      unfold superFr
      rw [if_neg (fun h => h1 h.1), if_neg (fun h => h1 h.1)]
      exact rfl
    go_enter Try.func64, Try.ntmps64
    go_wp2
    go_ret2
    exact ⟨by rw [hx.out]; rfl, (Below.refl _ _).alloc (Nat.le_refl _) _⟩
end Go.Proofs.Ytlhnhhjpjkgogaa.wl
