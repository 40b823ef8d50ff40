/- Two frames compared. -/
import Derived.Test.YtlhnhhjpjkgogaaWTornMem
import Derived.Test.YtlhnhhjpjkgogaaWQuiet
import Derived.Test.YtlhnhhjpjkgogaaWRead
namespace Go.Proofs.Ytlhnhhjpjkgogaa.wl
open Go.RowKit Go.Proofs.Ytlhnhhjpjkgogaa.agg Go.Proofs.Ytlhnhhjpjkgogaa.dk

/-- Whether two frames are the same. -/
def sameFr (f g : Fr) : Bool := decide (f.epoch = g.epoch ∧ f.pos = g.pos ∧ f.kind = g.kind ∧ f.data = g.data)
theorem sameFr_self (f : Fr) : sameFr f f = true := by simp [sameFr]
theorem sameFr_ne {f g : Fr} (h : f ≠ g) : sameFr f g = false := by
  unfold sameFr
  rw [decide_eq_false_iff_not]
  rintro ⟨h1, h2, h3, h4⟩
  obtain ⟨fe, fp, fk, fd⟩ := f
  obtain ⟨ge, gp, gk, gd⟩ := g
  simp only at h1 h2 h3 h4
  subst h1 h2 h3 h4
  exact h rfl
theorem run_equal_fr (f g : Fr) (W : World) : (Op.equalIn 10000 23 (.agg f.cells) (.agg g.cells)).run Try.prog W = .ok (sameFr f g) W := by
  have e1 : ∀ a b : Int, (Op.equalIn 9999 3 (.int .i64 a) (.int .i64 b)).run Try.prog W = .ok (a == b) W := fun a b => run_equalIn_int W 9998 3 .i64 .i64 a b Try.underlying3
  have e2 : ∀ a b : ByteArray, (Op.equalIn 9999 9 (.string a) (.string b)).run Try.prog W = .ok (a.toList == b.toList) W := fun a b => run_equalIn_string W 9998 9 a b Try.underlying9
  rw [show (10000 : Nat) = 9999 + 1 from rfl, run_equalIn_agg (P := Try.prog) W 9999 23 f.cells g.cells (by kernel_rfl) (by kernel_rfl)]
  obtain ⟨fe, fp, fk, fd⟩ := f
  obtain ⟨ge, gp, gk, gd⟩ := g
  have hd : (fd.toList == gd.toList) = decide (fd = gd) := by
    rw [ByteArray.toList_eq, ByteArray.toList_eq]
    obtain ⟨⟨x⟩⟩ := fd
    obtain ⟨⟨y⟩⟩ := gd
    by_cases h : x = y
    · subst h; simp
    · have : ¬ (⟨⟨x⟩⟩ : ByteArray) = ⟨⟨y⟩⟩ := by simpa using h
      simp [h]
  go_simp
  simp only [Fr.cells, List.getElem?_toArray, List.getElem?_cons_zero, List.getElem?_cons_succ, Sem.run_pure, Result.andThen_ok, e1, e2, hd]
  by_cases h1 : fe = ge <;> by_cases h2 : fp = gp <;> by_cases h3 : fk = gk <;> by_cases h4 : fd = gd <;> simp [sameFr, h1, h2, h3, h4]
section
variable {a : Act} {C : World → Prop} {K : Act → Prop} {dst : Option Tmp} {ty : TypeId} {pos : String} {aft : Array Edge} {gd : Option (Nat × Bool)}
theorem quiet_eql_fr {T' : TypeId} (x y : Operand) (f g : Fr) (hx : a.eval x = .agg f.cells) (hy : a.eval y = .agg g.cells) (hk : K (a.put dst (.bool (sameFr f g)))) :
    Oper.quiet Try.prog ⟨dst, .binOp .eql 23 x y T', ty, pos, aft, gd⟩ a C K :=
  quiet_exec (.bool (sameFr f g)) (fun w _ => by
    unfold execOp
    simp only [hx, hy, Sem.run_bind, run_eqGuard_agg (P := Try.prog) w .eql 23 x y f.cells g.cells (by kernel_rfl), run_eql_struct (P := Try.prog) w 23 f.cells g.cells, Result.andThen_ok, run_equal_fr f g w]
    rfl) hk
end
theorem row_quiet {W : World} {C : Nat} {s : List Int} (hs : s.length = 64) (h : W.heap[C]? = some (.cells (sec s) 26 (0, 0))) : ∀ u, (∃ n, u = W.drewN n) → 0 + 64 ≤ (rowOf u C).size ∧ 0 < 64 ∧ cut (rowOf u C) 0 64 = .agg (sec s) := by
  rintro u ⟨n, rfl⟩
  have hb : Below W.heap.size W (W.drewN n) := below_drewN (Below.refl _ _) n
  have hr := rowOf_of ((hb.block _ (lt_of_block h)).trans h)
  rw [hr, size_sec, hs]
  exact ⟨by omega, by omega, cut_whole (by rw [size_sec, hs])⟩
theorem row_quiet4 {W u : World} {C : Nat} {f : Fr} (hu : ∃ n, u = W.drewN n) (h : W.heap[C]? = some (.cells f.cells 23 (0, 0))) : 0 + 4 ≤ (rowOf u C).size ∧ 0 < 4 ∧ cut (rowOf u C) 0 4 = .agg f.cells := by
  obtain ⟨n, rfl⟩ := hu
  have hb : Below W.heap.size W (W.drewN n) := below_drewN (Below.refl _ _) n
  have hr := rowOf_of ((hb.block _ (lt_of_block h)).trans h)
  rw [hr]
  exact ⟨by rw [size_fr]; omega, by omega, cut_whole (size_fr f)⟩
theorem make_secs (n : Nat) (h2 : n ≤ 2048) (u : World) : (Instr.makeSlice 31 (.int .i64 (n : Int)) (.int .i64 (n : Int))).run Try.prog u =
      .ok (.slice (some ⟨u.heap.size, 0, none⟩) n n) (u.alloc (.cells (flatD (List.replicate n zeros)).toArray 26)) := by
  obtain ⟨i0, hi, hz0, hz1, hz2⟩ := info_parts Go.Proofs.Ytlhnhhjpjkgogaa.dk.info_sec
  have h := run_make (P := Try.prog) u 31 26 i0 (.agg (sec zeros)) Try.underlying31 hi hz0 .i64 .i64 (n : Int) (n : Int) (by omega) (Int.le_refl _) (by rw [hz2]; omega) (by omega)
  rw [← madeCells_sec]
  simpa [hz1, Value.cells] using h
theorem over_secs (l : List (List Int)) (h : ∀ s ∈ l, s.length = 64) (k : Nat) (hk : k < l.length) (xs : List Int) (hx : xs.length = 64) :
    overrow (flatD l).toArray (k * 64) (sec xs) = (flatD (l.set k xs)).toArray := by
  have h1 := flatD_overrow l h k hk xs hx 64 (Nat.le_refl _) []
  have h2 : overlay (l.getD k []) xs 64 = xs := by
    have hl : (l.getD k []).length = 64 := h _ (by rw [List.getD_eq_getElem?_getD, List.getElem?_eq_getElem hk]; exact List.getElem_mem _)
    unfold overlay
    rw [List.take_of_length_le (by omega), List.drop_of_length_le (by omega), List.append_nil]
  rw [h2, List.append_nil, List.append_nil, List.take_of_length_le (by omega)] at h1
  exact h1
theorem size_eight : (flatD (List.replicate 8 zeros)).toArray.size = 512 := by decide +kernel
theorem fill_one : overrow (flatD (List.replicate 8 zeros)).toArray 0 (sec f0.sec) = (flatD ((List.replicate 8 zeros).set 0 f0.sec)).toArray :=
  over_secs _ (fun s hs => by rw [(List.mem_replicate.1 hs).2]; exact length_zeros) 0 (by decide) _ (Fr.length_sec _ (by decide))
theorem fill_two {s : List Int} (hs : s.length = 64) : overrow (flatD ((List.replicate 8 zeros).set 0 f0.sec)).toArray 128 (sec s) = (flatD (tornSecs s)).toArray := by
  refine (over_secs _ (fun x hx => ?_) 2 (by decide) s hs).trans rfl
  rcases List.mem_or_eq_of_mem_set hx with h | h
  · rw [(List.mem_replicate.1 h).2]; exact length_zeros
  · rw [h]; exact Fr.length_sec _ (by decide)
theorem size_one : (flatD ((List.replicate 8 zeros).set 0 f0.sec)).toArray.size = 512 := by
  have h : (flatD ((List.replicate 8 zeros).set 0 f0.sec)).length = 512 := by
    rw [size_flatD]
    · rfl
    · intro x hx
      rcases List.mem_or_eq_of_mem_set hx with h | h
      · rw [(List.mem_replicate.1 h).2]; exact length_zeros
      · rw [h]; exact Fr.length_sec _ (by decide)
  rw [List.size_toArray, h]
theorem Tor3.other {w : World} {f g : Fr} {A B C S : Nat} {s : List Int} {W : World} (h : Tor3 w f g A B C s W) (c : Array Value) (nA : A ≠ S) (nB : B ≠ S) (nC : C ≠ S) (hl : w.heap.size + 1 < S) : Tor3 w f g A B C s (W.setRow S c) := by
  have hp := h.tor.pair
  have ho : ∀ i, i ≠ S → (W.setRow S c).heap[i]? = W.heap[i]? := fun i hi => setRow_other _ _ _ _ hi
  exact ⟨⟨(ho _ nA).trans h.tor.a, (ho _ nB).trans h.tor.b, h.tor.ne, ⟨⟨hp.below.os, hp.below.tape, hp.below.output, by simpa using hp.below.size, fun i hi => (ho _ (by omega)).trans (hp.below.block i hi)⟩, (ho _ (by omega)).trans hp.one, (ho _ (by omega)).trans hp.two⟩, h.tor.la, h.tor.lb⟩, (ho _ nC).trans h.c, h.na, h.nb, h.lc⟩
theorem torn_recs (s : List Int) : tornRecs s = if (readFr s).2 = true ∧ (readFr s).1.pos = 0 ∧ (readFr s).1.kind = 3 then [(readFr s).1.data] else [] := by
  unfold tornRecs readFr
  by_cases h : (parseFr s).2 = true
  · simp [h]
  · simp [h]
end Go.Proofs.Ytlhnhhjpjkgogaa.wl
