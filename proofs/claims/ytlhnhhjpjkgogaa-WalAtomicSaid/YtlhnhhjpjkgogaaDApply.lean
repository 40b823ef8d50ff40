/- The walk of (*disk.Disk).apply: it writes some bytes of a write over the durable contents of its sector. -/
import Derived.Test.YtlhnhhjpjkgogaaDCall
import Derived.Deep.RegionLaw
namespace Go.Proofs.Ytlhnhhjpjkgogaa.dk
open Go.RowKit Go.Proofs.Ytlhnhhjpjkgogaa.agg

/-- The number of bytes that survive. -/
def few64 (n : Int) : Nat := (min (max n 0) 64).toNat
def overlay (old new : List Int) (j : Nat) : List Int := new.take j ++ old.drop j
/-- Some bytes of a write over the contents of its sector. -/
def lay (d : List (List Int)) (x : Int × List Int) (n : Int) : List (List Int) := d.set x.1.toNat (overlay (d.getD x.1.toNat []) x.2 (few64 n))
/-- apply, as a value. -/
def St.apply (st : St) (k : Nat) (xs : List Int) (n : Int) : St := { st with dur := lay st.dur (k, xs) n }

theorem size_flatD (l : List (List Int)) (h : ∀ s ∈ l, s.length = 64) : (flatD l).length = l.length * 64 := by
  induction l with
  | nil => rfl
  | cons x l ih =>
    have h1 := h x (by simp)
    have h2 := ih (fun s hs => h s (by simp [hs]))
    simp only [flatD, List.map_cons, List.flatten_cons, List.length_append, List.length_cons] at *
    simp only [length_u8s, h1, h2]
    omega
theorem size_rowD (st : St) (h : ∀ s ∈ st.dur, s.length = 64) : st.dur.length * 64 ≤ (rowD st).size := by
  rw [rowD, List.size_toArray, List.length_append, size_flatD _ h]
  omega
theorem flatD_split (l : List (List Int)) : ∀ (k : Nat), k < l.length → flatD l = flatD (l.take k) ++ u8s (l.getD k []) ++ flatD (l.drop (k + 1)) := by
  intro k hk
  have e : l = l.take k ++ (l.getD k [] :: l.drop (k + 1)) := by
    rw [List.getD_eq_getElem?_getD, List.getElem?_eq_getElem hk, Option.getD_some, ← List.drop_eq_getElem_cons hk, List.take_append_drop]
  have e2 : flatD l = flatD (l.take k ++ (l.getD k [] :: l.drop (k + 1))) := congrArg flatD e
  rw [e2]
  simp [flatD]
theorem flatD_set (l : List (List Int)) (k : Nat) (hk : k < l.length) (s : List Int) : flatD (l.set k s) = flatD (l.take k) ++ u8s s ++ flatD (l.drop (k + 1)) := by
  have e : l.set k s = l.take k ++ (s :: l.drop (k + 1)) := by rw [List.set_eq_take_append_cons_drop, if_pos hk]
  rw [e]
  simp [flatD]
theorem flatD_overrow (l : List (List Int)) (h : ∀ s ∈ l, s.length = 64) (k : Nat) (hk : k < l.length) (xs : List Int) (hx : xs.length = 64) (j : Nat) (hj : j ≤ 64) (rest : List Value) :
    overrow (flatD l ++ rest).toArray (k * 64) (u8s (xs.take j)).toArray = (flatD (l.set k (overlay (l.getD k []) xs j)) ++ rest).toArray := by
  apply Array.ext'
  have h1 : (l.getD k []).length = 64 := by
    rw [List.getD_eq_getElem?_getD, List.getElem?_eq_getElem hk]
    exact h _ (List.getElem_mem hk)
  have h2 : (flatD (l.take k)).length = k * 64 := by
    rw [size_flatD _ (fun s hs => h s (List.mem_of_mem_take hs)), List.length_take]
    congr 1
    omega
  have hxj : (xs.take j).length = j := by rw [List.length_take]; omega
  rw [flatD_set l k hk]
  simp only [overrow, List.size_toArray, length_u8s, hxj]
  have e : flatD l ++ rest = flatD (l.take k) ++ (u8s (l.getD k []) ++ (flatD (l.drop (k + 1)) ++ rest)) := by rw [flatD_split l k hk, List.append_assoc, List.append_assoc]
  rw [e, ← h2, List.take_left, List.drop_append, List.drop_append]
  have z1 : (flatD (l.take k)).length + j - (flatD (l.take k)).length = j := by omega
  have z2 : j - (u8s (l.getD k [])).length = 0 := by rw [length_u8s, h1]; omega
  have z3 : List.drop ((flatD (l.take k)).length + j) (flatD (l.take k)) = [] := by simp
  rw [z1, z2, z3]
  simp [overlay, u8s]

theorem flatD_cut (l : List (List Int)) (h : ∀ s ∈ l, s.length = 64) (k : Nat) (hk : k < l.length) (rest : List Value) : cut (flatD l ++ rest).toArray (k * 64) 64 = .agg (sec (l.getD k [])) := by
  have h2 : (flatD (l.take k)).length = k * 64 := by
    rw [size_flatD _ (fun s hs => h s (List.mem_of_mem_take hs)), List.length_take]
    congr 1
    omega
  have h1 : (u8s (l.getD k [])).length = 64 := by
    rw [length_u8s, List.getD_eq_getElem?_getD, List.getElem?_eq_getElem hk]
    exact h _ (List.getElem_mem hk)
  unfold cut
  congr 1
  apply Array.ext'
  rw [Array.toList_extract, flatD_split l k hk, ← h2]
  simp only [List.append_assoc, List.extract_eq_take_drop]
  rw [List.drop_left]
  rw [show (flatD (l.take k)).length + 64 - (flatD (l.take k)).length = 64 by omega, ← h1, List.take_left]
  rfl
theorem cells_wrow (n : Int) (xs : List Int) (j : Nat) : (wrow n xs).extract 1 (1 + j) = (u8s (xs.take j)).toArray := by
  apply Array.ext'
  simp [wrow, sec, u8s]
/-- What apply leaves. -/
def Applied (D g : Nat) (pv : Value) (st' : St) (w w' : World) : Prop := DiskIn w' D g pv st' ∧ Kept (foot D g pv) w w'
theorem apply_close {D g : Nat} {pv : Value} {st : St} {w : World} (h : DiskIn w D g pv st) (k : Nat) (hk : k < st.dur.length) (xs : List Int) (hx : xs.length = 64) (n : Int) (j : Nat) (hj : j ≤ 64) (hn : few64 n = j) (e : Nat) (he : e = 1 + j) (o : Obj) :
    Applied D g pv (st.apply k xs n) w ((w.setRow g (overrow (rowOf w g) (k * 64) ((wrow k xs).extract 1 e))).alloc o).drew := by
  subst he
  have hrg : rowOf w g = rowD st := rowOf_of h.dur
  rw [hrg, cells_wrow, rowD, flatD_overrow _ h.len k hk xs hx j hj]
  have hl : ∀ s ∈ (st.apply k xs n).dur, s.length = 64 := by
    intro s hs
    simp only [St.apply, lay, Int.toNat_natCast] at hs
    rcases List.mem_or_eq_of_mem_set hs with hs | rfl
    · exact h.len s hs
    · have h1 : (st.dur.getD k []).length = 64 := by
        rw [List.getD_eq_getElem?_getD, List.getElem?_eq_getElem hk]
        exact h.len _ (List.getElem_mem hk)
      simp only [overlay, List.length_append, List.length_take, List.length_drop, hx, h1, hn]
      omega
  have hd : DiskIn (w.setRow g (flatD (st.dur.set k (overlay (st.dur.getD k []) xs j)) ++ st.spare).toArray) D g pv (st.apply k xs n) :=
    { blk := by
        rw [setRow_other _ _ _ _ h.ne1, h.blk]
        simp [dcells, St.apply, lay]
      dur := by
        rw [setRow_heap _ _ _ _ _ _ h.dur]
        simp only [rowD, St.apply, lay, Int.toNat_natCast, hn]
      len := hl
      plen := h.plen
      pin := by simpa [St.apply, lay] using h.pin
      pend := ownsRow_same h.pend (fun q hq => setRow_other _ _ _ _ (fun e => h.ne3 (e ▸ hq)))
      few := by simpa [St.apply, lay] using h.few
      cap := by simpa [St.apply, lay] using h.cap
      pne := h.pne
      ne1 := h.ne1
      ne2 := h.ne2
      ne3 := h.ne3 }
  have h2 : ∀ (W : World), Kept (fun _ => False) W (W.alloc o).drew := fun W => (Kept.alloc W o).trans (Kept.drew _)
  exact ⟨hd.kept (h2 _) (fun _ _ => id), (Kept.setRow w (Or.inr (Or.inl rfl)) _).trans ((h2 _).mono (fun _ _ f => f.elim))⟩

set_option maxHeartbeats 800000 in
theorem apply_walk {D g : Nat} {pv : Value} {st : St} (w : World) (h : DiskIn w D g pv st) (k : Nat) (xs : List Int) (n : Int) (hx : xs.length = 64) (hk : k < st.dur.length) :
    Calls Try.prog 54 #[.pointer (some ⟨D, 0, none⟩), .agg (wrow k xs), .int .i64 n] w fun e w' => e = .returned (.tuple #[]) ∧ Applied D g pv (st.apply k xs n) w w' := by
  have hD := lt_of_block h.blk
  have hg := lt_of_block h.dur
  obtain ⟨c0, c1, c2, c3, c4, c5, c6⟩ := h.cell
  clear c1 c2 c3 c4 c5 c6
  have hrg0 : rowOf (w.alloc (.cells (wrow k xs) 104)).drew g = rowD st := (rowOf_alloc_past (w := w) (.cells (wrow k xs) 104) g hg).trans (rowOf_of h.dur)
  have hrh0 : rowOf (w.alloc (.cells (wrow k xs) 104)).drew w.heap.size = wrow k xs := rowOf_alloc_at (w := w) (wrow k xs) 104 w.heap.size rfl
  have hrg := Lib.hid hrg0
  have hrh := Lib.hid hrh0
  clear hrg0 hrh0
  have hsz := Lib.hid (size_rowD st h.len)
  have hci : (w.alloc (.cells (wrow k xs) 104)).cell? ⟨w.heap.size, 0, none⟩ = some (.int .i64 k) := by rw [World.cell?_alloc_new, wrow_zero]
  by_cases hn : n < 0
  · go_enter Try.func54, Try.ntmps54
    go_wp2_with fail
    go_region_law (refine step_copy rfl (.tmp 17) (.tmp 20) 28 28 rfl (E := 5) Try.underlying28 (fun _ => by kernel_rfl) g (k * 64) 0 64 w.heap.size 1 0 64 0 rfl rfl (Nat.min_self _) (by rw [hrg.out]; have := hsz.out; omega) (by rw [hrh.out, size_wrow, hx]; omega) (by rw [hrg.out]; have := hsz.out; omega) (by rw [hrh.out, size_wrow, hx]; omega) (by rw [hrh.out]; exact one_wrow _ _) ?_)
    all_goals go_wp2
    all_goals go_end0
    all_goals exact ⟨rfl, apply_close h k hk xs hx _ 0 (by omega) (by simp [few64]; omega) _ (by first | rfl | omega) _⟩
  · by_cases hn2 : 64 < n
    · go_enter Try.func54, Try.ntmps54
      go_wp2_with fail
      go_region_law (refine step_copy rfl (.tmp 17) (.tmp 20) 28 28 rfl (E := 5) Try.underlying28 (fun _ => by kernel_rfl) g (k * 64) 64 64 w.heap.size 1 64 64 64 rfl rfl (Nat.min_self _) (by rw [hrg.out]; have := hsz.out; omega) (by rw [hrh.out, size_wrow, hx]; omega) (by rw [hrg.out]; have := hsz.out; omega) (by rw [hrh.out, size_wrow, hx]; omega) (by rw [hrh.out]; exact one_wrow _ _) ?_)
      all_goals go_wp2
      all_goals go_end0
      all_goals exact ⟨rfl, apply_close h k hk xs hx _ 64 (by omega) (by simp [few64]; omega) _ (by first | rfl | omega) _⟩
    · obtain ⟨j, rfl⟩ := Int.eq_ofNat_of_zero_le (show 0 ≤ n by omega)
      have hj : j ≤ 64 := by omega
      go_enter Try.func54, Try.ntmps54
      go_wp2_with fail
      go_region_law (refine step_copy rfl (.tmp 17) (.tmp 20) 28 28 rfl (E := 5) Try.underlying28 (fun _ => by kernel_rfl) g (k * 64) j 64 w.heap.size 1 j 64 j rfl rfl (Nat.min_self _) (by rw [hrg.out]; have := hsz.out; omega) (by rw [hrh.out, size_wrow, hx]; omega) (by rw [hrg.out]; have := hsz.out; omega) (by rw [hrh.out, size_wrow, hx]; omega) (by rw [hrh.out]; exact one_wrow _ _) ?_)
      all_goals go_wp2
      all_goals go_end0
      all_goals exact ⟨rfl, apply_close h k hk xs hx _ j (by omega) (by simp [few64]; omega) _ (by first | rfl | omega) _⟩
/-- apply, of whatever write to a sector that there is. -/
theorem apply_any {D g : Nat} {pv : Value} {st : St} (w : World) (h : DiskIn w D g pv st) (x : Int × List Int) (n : Int) (hx : x.2.length = 64) (hk : 0 ≤ x.1 ∧ x.1 < st.dur.length) :
    Calls Try.prog 54 #[.pointer (some ⟨D, 0, none⟩), .agg (wrow x.1 x.2), .int .i64 n] w fun e w' => e = .returned (.tuple #[]) ∧ Applied D g pv { st with dur := lay st.dur x n } w w' := by
  obtain ⟨z, xs⟩ := x
  obtain ⟨k, rfl⟩ := Int.eq_ofNat_of_zero_le hk.1
  exact apply_walk w h k xs n hx (by simpa using hk.2)
end Go.Proofs.Ytlhnhhjpjkgogaa.dk
