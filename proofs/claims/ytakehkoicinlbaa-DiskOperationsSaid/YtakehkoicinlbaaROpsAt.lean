/- A disk and a State of the reference side by side in memory, and what calls make of them; New of the reference with the places of what it makes. -/
import Derived.Test.YtakehkoicinlbaaRSame
import Derived.Test.YtakehkoicinlbaaDBegin
import Derived.Deep.RegionHeld3
namespace Go.Proofs.Ytakehkoicinlbaa.dk
open Go.RowKit Go.Proofs.Ytakehkoicinlbaa.agg

/-- A disk in state st and a State that agrees with a disk in state s0, apart from each other in memory; the State lies in the box sb. -/
structure OpsAt (B D g sb : Nat) (w0 w : World) (pv : Value) (st s0 : St) (r : Ref) : Prop where
  live : Live B D g w0 w pv st
  box : w.heap[sb]? = some (.cells (r.row s0.ref) 55 (0, 0))
  ref : RefIn w r s0.ref
  n1 : ¬ foot D g pv sb
  n2 : ∀ k, r.own k → ¬ foot D g pv k
  ge : B ≤ sb
theorem OpsAt.quiet {B D g sb : Nat} {w0 w w' : World} {pv : Value} {st s0 : St} {r : Ref} (h : OpsAt B D g sb w0 w pv st s0 r) (hB : B ≤ w0.heap.size) (hb : Below w.heap.size w w') : OpsAt B D g sb w0 w' pv st s0 r :=
  ⟨h.live.quiet hB hb, (hb.block _ (lt_of_block h.box)).trans h.box, h.ref.below hb, h.n1, h.n2, h.ge⟩
theorem OpsAt.done {B D g sb : Nat} {w0 w w' : World} {pv : Value} {st s0 s1 : St} {r : Ref} (h : OpsAt B D g sb w0 w pv st s0 r) (hB : B ≤ w0.heap.size) (hd : Done D g pv s1 w w') : ∃ pv', OpsAt B D g sb w0 w' pv' s1 s0 r := by
  obtain ⟨pv', hd1, hk, hf⟩ := hd
  have hfoot : ∀ k, k < w.heap.size → ¬ foot D g pv k → ¬ foot D g pv' k := by
    rintro k hk hn (e | e | e)
    · exact hn (.inl e)
    · exact hn (.inr (.inl e))
    · rcases hf k e with e' | e'
      · exact hn (.inr (.inr e'))
      · omega
  have hs := live_step h.live.ge (Nat.le_trans hB h.live.below.size) hk hf
  refine ⟨pv', ⟨hd1, hs.1, h.live.below.trans hs.2⟩, (hk.block _ (lt_of_block h.box) h.n1).trans h.box, h.ref.same (fun k ho => hk.block k (h.ref.own_lt k ho) (h.n2 k ho)), hfoot _ (lt_of_block h.box) h.n1, fun k ho => hfoot k (h.ref.own_lt k ho) (h.n2 k ho), h.ge⟩
/-- The State's box is written anew. -/
theorem OpsAt.next {B D g sb : Nat} {w0 w w2 : World} {pv : Value} {st s0 : St} {r r' : Ref} (h : OpsAt B D g sb w0 w pv st s0 r) (hB : B ≤ w0.heap.size) (hb : Below w.heap.size w w2) (hr : RefIn w2 r' st.ref) (hn : Newer w r r') :
    OpsAt B D g sb w0 (w2.setRow sb (r'.row st.ref)) pv st st r' := by
  have h2 := h.quiet hB hb
  have hlt := h.live.disk.lt
  refine ⟨⟨h2.live.disk.same (fun k hk => setRow_other _ _ _ _ (fun e => h.n1 (e ▸ hk))), h2.live.ge, below_setRow h2.live.below h.ge _⟩, setRow_heap _ _ _ _ _ _ h2.box, ?_, h.n1, ?_, h.ge⟩
  · exact hr.other h2.box h2.box (fun k h1 _ => setRow_other _ _ _ _ h1)
  · intro k ho hf
    rcases hn k ho with e | e
    · exact h.n2 k e hf
    · have := hlt k hf; omega

theorem doit_len64r {w : World} {D g : Nat} {pv : Value} {st : St} (h : DiskIn w D g pv st) (x : ActV) : (st.doit x).2.1.length = 64 := by
  unfold St.doit
  split
  · exact length_zeros
  · split
    · exact length_zeros
    · split
      · exact read_len h _
      · split
        · exact length_zeros
        · split <;> exact length_zeros
theorem val_clone (r : Ref) (st : St) (c : Nat) (sp : List Value) : r.val (St.ref { st with cap := c, spare := sp }) = r.val st.ref := by
  unfold St.ref
  show r.val (if st.failed then _ else _) = _
  by_cases hf : st.failed = true
  · rw [if_pos hf, if_pos hf]; rfl
  · rw [if_neg hf, if_neg hf]; rfl
theorem same_clone {D g : Nat} {pv : Value} {st : St} {c : Nat} {sp : List Value} (w : World) (h : DiskIn w D g pv { st with cap := c, spare := sp }) (r : Ref) (hr : RefIn w r st.ref) (hap : ∀ k, r.own k → ¬ foot D g pv k) (hpl : st.pend.length < 1000000) :
    Calls Try.prog 26 #[.pointer (some ⟨D, 0, none⟩), r.val st.ref] w fun e w' => e = .returned (.int .i64 1) ∧ Kept (foot D g pv) w w' := by
  have := same_any w h r (hr.turn (by rw [ref_dur, ref_dur]) (by rw [ref_pend, ref_pend])) hap hpl
  rwa [val_clone] at this
theorem counts_ref {D g : Nat} {pv : Value} {st : St} (w : World) (h : DiskIn w D g pv st) :
    Calls Try.prog 25 #[.pointer (some ⟨D, 0, none⟩)] w fun e w' => e = .returned (.agg #[.int .i64 st.ref.rd, .int .i64 st.ref.wr, .int .i64 st.ref.fl]) ∧ Below w.heap.size w w' := by
  rw [ref_rd, ref_wr, ref_fl]
  exact counts_any w h
theorem sec_fold (xs : List Int) : (u8s xs).toArray = sec xs := rfl
theorem range_sec {w : World} {b : Nat} {x : List Int} {t : TypeId} (h : w.heap[b]? = some (.cells (sec x) t (0, 0))) : w.rangeAt b 0 (u8s x) := fun j v hv => by
  simp only [World.cell?, h, Nat.zero_add]
  simpa [sec] using hv
theorem exec_neq {a : Act} {w : World} {dst : Option Tmp} {ty : TypeId} {pos : String} {aft : Array Edge} {gd : Option (Nat × Bool)} {T' : TypeId} (x y : Operand) (xs : List Int) (hx : a.eval x = .agg (sec xs)) (hy : a.eval y = .agg (sec xs)) (hl : xs.length = 64) :
    (execOp a.eval ⟨dst, .binOp .neq 23 x y T', ty, pos, aft, gd⟩).run Try.prog w = .ok (.value (.bool false)) w := by
  unfold execOp
  simp only [hx, hy, Sem.run_bind, run_eqGuard_agg (P := Try.prog) w .neq 23 x y (sec xs) (sec xs) (by kernel_rfl), run_neq_struct (P := Try.prog) w 23 (sec xs) (sec xs), Result.andThen_ok, run_equal_sec (P := Try.prog) (T := 23) (E := 5) (n := 64) (by kernel_rfl) (by kernel_rfl) (fun _ => by kernel_rfl) (fun _ => by kernel_rfl) xs xs hl hl 9998]
  simp
theorem one_zrow : oneCells zrow = true := rfl
set_option maxHeartbeats 400000 in
theorem rnew_own (n : Nat) (h1 : 1 ≤ n) (h2 : n ≤ 2048) (w : World) :
    Calls Try.prog 23 #[.int .i64 n] w fun e w' => ∃ r, e = .returned (.tuple #[r.val (St.new n), .int .i64 0]) ∧ RefIn w' r (St.new n) ∧ Below w.heap.size w w' ∧ ∀ k, r.own k → w.heap.size ≤ k := by
  have hmk := rmake_sec n h2
  go_enter Try.func23, Try.ntmps23
  go_wp2
  have hlen : (St.new n).dur.length = n := by simp [St.new]
  have hfl : (flatD (St.new n).dur).length = n * 64 := by
    rw [size_flatD _ (by intro s hs; rw [(List.mem_replicate.1 hs).2]; exact length_zeros), hlen]
  refine bodyPost_ret (v := .tuple #[.agg #[.slice (some ⟨w.heap.size + 1, 0, none⟩) n n, .slice none 0 0, .int .i64 (-1), .bool false, .int .i64 0, .int .i64 0, .int .i64 0], .int .i64 0]) (by simp [results, Try.results23, go_sem]) rfl
    ⟨⟨some ⟨w.heap.size + 1, 0, none⟩, n, none, 0⟩, by rw [Ref.val, Ref.row, hlen]; rfl, ?_, ((Below.refl _ w).alloc (Nat.le_refl _) _).alloc (by simp) _, ?_⟩
  case' refine_2 =>
    rintro k (⟨o, t, e⟩ | ⟨o, t, e⟩)
    · injection e with e; injection e with e; omega
    · cases e
  refine ⟨?_, World.ownsRow_nil _ _ _ _, ?_, by simp [St.new], by simp [St.new], by rw [hlen]; exact h2⟩
  · refine ⟨by rw [hlen]; exact hfl, .inr ⟨w.heap.size + 1, n, (flatD (List.replicate n zeros)).toArray, by rw [hlen], Nat.zero_le _, ?_, by rw [hlen]; exact Nat.le_refl _, by unfold maxLen; omega, ?_, ?_⟩⟩
    · exact heap_alloc2_new w _ _
    · rw [List.size_toArray]; exact hfl
    · rw [hlen, List.toList_toArray]; exact List.take_of_length_le (Nat.le_of_eq hfl)
  · intro s hs
    rw [(List.mem_replicate.1 hs).2]; exact length_zeros
end Go.Proofs.Ytakehkoicinlbaa.dk
