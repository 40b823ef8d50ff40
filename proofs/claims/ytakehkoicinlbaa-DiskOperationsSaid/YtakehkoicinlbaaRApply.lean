/- The walk of confluentref47.apply. -/
import Derived.Test.YtakehkoicinlbaaRBase
import Derived.Test.YtakehkoicinlbaaRowApp
import Derived.StillTailTactics
import Derived.RegionTactic
import Derived.ChangeAlike
namespace Go.Proofs.Ytakehkoicinlbaa.dk
open Go.RowKit Go.Proofs.Ytakehkoicinlbaa.agg

/-- apply of the reference, as a value: the first k bytes of each pending write, k told by sv, or rest. -/
def layRef (sv : List Int) (rest : Int) : List (List Int) → Nat → List Wr → List (List Int)
  | d, _, [] => d
  | d, i, x :: l => layRef sv rest (lay d x (if i < sv.length then sv.getD i 0 else rest)) (i + 1) l
theorem layRef_snoc (sv : List Int) (rest : Int) (x : Wr) : ∀ (l : List Wr) (d : List (List Int)) (i : Nat),
    layRef sv rest d i (l ++ [x]) = lay (layRef sv rest d i l) x (if i + l.length < sv.length then sv.getD (i + l.length) 0 else rest)
  | [], d, i => by simp [layRef]
  | y :: l, d, i => by
    simp only [List.cons_append, layRef]
    rw [layRef_snoc sv rest x l]
    rw [show i + 1 + l.length = i + (y :: l).length by simp; omega]
theorem length_layRef (sv : List Int) (rest : Int) : ∀ (l : List Wr) (d : List (List Int)) (i : Nat), (layRef sv rest d i l).length = d.length
  | [], _, _ => rfl
  | x :: l, d, i => by rw [layRef, length_layRef sv rest l, length_lay]
theorem layRef_lens (sv : List Int) (rest : Int) : ∀ (l : List Wr) (d : List (List Int)) (i : Nat), (∀ s ∈ d, s.length = 64) → (∀ x ∈ l, x.2.length = 64) → (∀ x ∈ l, 0 ≤ x.1 ∧ x.1 < d.length) → ∀ s ∈ layRef sv rest d i l, s.length = 64
  | [], d, _, hd, _, _ => hd
  | x :: l, d, i, hd, hl, hin => by
    rw [layRef]
    refine layRef_lens sv rest l _ _ ?_ (fun y hy => hl y (by simp [hy])) (fun y hy => by rw [length_lay]; exact hin y (by simp [hy]))
    intro s hs
    rcases List.mem_or_eq_of_mem_set hs with hs | rfl
    · exact hd s hs
    · have h1 := hl x (by simp)
      have h2 := (hin x (by simp))
      have h3 := hd (d.getD x.1.toNat []) (by rw [List.getD_eq_getElem?_getD, List.getElem?_eq_getElem (by omega)]; exact List.getElem_mem _)
      unfold overlay few64
      rw [List.length_append, List.length_take, List.length_drop]; omega
theorem World.drew_heap' (w : World) : w.drew.heap = w.heap := rfl
def St.rapply (st : St) (sv : List Int) (rest : Int) : St := { st with dur := layRef sv rest st.dur 0 st.pend, pend := [] }
/-- Byte by byte: one more byte of a write. -/
theorem overlay_step (a b : List Int) (k : Nat) (ha : a.length = 64) (hb : b.length = 64) (hk : k < 64) : (overlay a b k).set k (b.getD k 0) = overlay a b (k + 1) := by
  unfold overlay
  apply List.ext_getElem?
  intro i
  have h1 : (b.take k).length = k := by rw [List.length_take]; omega
  have h2 : (b.take (k + 1)).length = k + 1 := by rw [List.length_take]; omega
  by_cases hi : i = k
  · subst hi
    rw [List.getElem?_set_self (by rw [List.length_append, h1, List.length_drop]; omega), List.getElem?_append_left (by omega), List.getElem?_take, if_pos (by omega), List.getD_eq_getElem?_getD, List.getElem?_eq_getElem (by omega)]
    rfl
  · rw [List.getElem?_set_ne (fun e => hi e.symm)]
    by_cases hlt : i < k
    · rw [List.getElem?_append_left (by omega), List.getElem?_append_left (by omega), List.getElem?_take, List.getElem?_take, if_pos hlt, if_pos (by omega)]
    · rw [List.getElem?_append_right (by omega), List.getElem?_append_right (by omega), List.getElem?_drop, List.getElem?_drop]
      congr 1; omega
/-- The contents when k bytes of a write have been laid. -/
def laid (d : List (List Int)) (x : Wr) (k : Nat) : List (List Int) := d.set x.1.toNat (overlay (d.getD x.1.toNat []) x.2 k)
theorem laid_zero (d : List (List Int)) (x : Wr) : laid d x 0 = d := by
  unfold laid
  rw [overlay_zero]
  by_cases h : x.1.toNat < d.length
  · rw [List.getD_eq_getElem?_getD, List.getElem?_eq_getElem h]
    exact List.set_getElem_self h
  · exact List.set_eq_of_length_le (by omega)
theorem laid_lens {d : List (List Int)} {x : Wr} {k : Nat} (hd : ∀ s ∈ d, s.length = 64) (hx : x.2.length = 64) (hn : x.1.toNat < d.length) (hk : k ≤ 64) : ∀ s ∈ laid d x k, s.length = 64 := by
  intro s hs
  rcases List.mem_or_eq_of_mem_set hs with hs | rfl
  · exact hd s hs
  · unfold overlay
    have := hd (d.getD x.1.toNat []) (by rw [List.getD_eq_getElem?_getD, List.getElem?_eq_getElem hn]; exact List.getElem_mem hn)
    rw [List.length_append, List.length_take, List.length_drop]; omega
theorem laid_len (d : List (List Int)) (x : Wr) (k : Nat) : (laid d x k).length = d.length := by simp [laid]
theorem flatD_setByte : ∀ (l : List (List Int)) (n : Nat), n < l.length → (∀ s ∈ l, s.length = 64) → ∀ b, b < 64 → ∀ v : Int, (flatD l).set (n * 64 + b) (.int .u8 v) = flatD (l.set n ((l.getD n []).set b v))
  | [], n, hn, _, _, _, _ => by simp at hn
  | x :: l, 0, _, h, b, hb, v => by
    have hx := h x (by simp)
    show (u8s x ++ flatD l).set (0 * 64 + b) _ = u8s (x.set b v) ++ flatD l
    rw [Nat.zero_mul, Nat.zero_add, List.set_append_left _ _ (by rw [length_u8s, hx]; exact hb)]
    simp [u8s, List.map_set]
  | x :: l, n + 1, hn, h, b, hb, v => by
    have hx := h x (by simp)
    have hl : (u8s x).length = 64 := by rw [length_u8s, hx]
    show (u8s x ++ flatD l).set ((n + 1) * 64 + b) _ = u8s x ++ flatD (l.set n ((l.getD n []).set b v))
    rw [List.set_append_right _ _ (by omega), hl, show (n + 1) * 64 + b - 64 = n * 64 + b by omega, flatD_setByte l n (by simpa using hn) (fun y hy => h y (by simp [hy])) b hb v]
theorem laid_step (d : List (List Int)) (x : Wr) (k : Nat) (hd : ∀ s ∈ d, s.length = 64) (hx : x.2.length = 64) (hn : x.1.toNat < d.length) (hk : k < 64) :
    (flatD (laid d x k)).set (x.1.toNat * 64 + k) (.int .u8 (x.2.getD k 0)) = flatD (laid d x (k + 1)) := by
  rw [flatD_setByte (laid d x k) _ (by rw [laid_len]; exact hn) (laid_lens (k := k) hd hx hn (by omega)) k hk]
  congr 1
  have h64 : (d.getD x.1.toNat []).length = 64 := hd _ (by rw [List.getD_eq_getElem?_getD, List.getElem?_eq_getElem hn]; exact List.getElem_mem hn)
  have e : (laid d x k).getD x.1.toNat [] = overlay (d.getD x.1.toNat []) x.2 k := by
    unfold laid
    generalize overlay (d.getD x.1.toNat []) x.2 k = o
    rw [List.getD_eq_getElem?_getD, List.getElem?_set_self hn, Option.getD_some]
  rw [e, overlay_step _ _ _ h64 hx hk]
  unfold laid
  rw [List.set_set]

attribute [local go_sem ↓] alloc_state load_state store_state
attribute [local go_sem] cut_row over_row' over_zrow one_row size_row size_zrow row_0 row_1 row_2 row_3 row_4 row_5 row_6 row_0' row_1' row_2' row_3' row_4' row_5' row_6' set_row2 set_row3 set_row4 set_row5 set_row6

set_option maxHeartbeats 1000000 in
theorem rapply_walk (w : World) (r : Ref) (st : St) (h : RefIn w r st) (hm : 1 ≤ st.dur.length) (hpl : st.pend.length < 1000000) (ao : Option Addr) (cap : Nat) (sv : List Int) (hs : IntsIn w.heap.size w (.slice ao sv.length cap) sv) (hsl : sv.length < 1000000) (rest : Int) :
    Calls Try.prog 41 #[r.val st, .slice ao sv.length cap, .int .i64 rest] w fun e w' => ∃ r', e = .returned (r'.val (st.rapply sv rest)) ∧ RefIn w' r' (st.rapply sv rest) ∧ Below w.heap.size w w' ∧ Newer w r r' := by
  unfold Ref.val
  obtain ⟨i0, hi, hz0, hz1, hz2⟩ := info_parts info_sec
  have hfew := h.few
  have hB0 : Below w.heap.size w (((w.alloc (.cells (r.row st) 55)).alloc (.cells zrow 55)).alloc (.cells #[] 23)) := (heap3 w _ _ _).2.2.2
  obtain ⟨b1, b2, _, _⟩ := heap3 w (.cells (r.row st) 55) (.cells zrow 55) (.cells #[] 23)
  have hsrc := own_below h.dur hB0 (Nat.le_refl _)
  have hB0' := Lib.hid hB0
  have b1' := Lib.hid b1
  have b2' := Lib.hid b2
  clear hB0 b1 b2
  go_enter Try.func41, Try.ntmps41
  go_wp2_with (at_builtin; refine wpList_append_row rfl (.tmp 12) (.tmp 14) 43 rfl _ 23 i0 _ 64 64 Try.underlying43 hi hz0 hz1 hz2 (by decide) _ 0 [] rfl (.inl ⟨rfl, rfl, .inr ⟨_, rfl⟩⟩) 0 _ st.dur.length (flatD st.dur) rfl hsrc (one_flatD _) (by unfold maxLen; omega) (by omega) (Nat.le_refl _) ?_; intro ao1 cc1 wa hrow1 hba)
  simp only [Nat.zero_add, List.nil_append] at hrow1
  rcases (hrow1.owns hm).2 with ⟨_, h0⟩ | ⟨g, cc, cur, hv, hgB, hgh, hcc, hcm, hcs, htk⟩
  · omega
  have e1 : ao1 = some ⟨g, 0, none⟩ := by injection hv
  have e2 : cc = cc1 := by injection hv with _ _ e; exact e.symm
  subst e1 e2
  clear hv hrow1
  have hfl := (h.dur).1
  obtain ⟨sp, hcur⟩ : ∃ sp, cur = (flatD st.dur ++ sp).toArray := ⟨cur.toList.drop (st.dur.length * 64), by rw [← htk, List.take_append_drop, Array.toArray_toList]⟩
  subst hcur
  have hBa : Below w.heap.size w wa := hB0'.out.trans (hba.mono (by simp; omega))
  have d1 := (hba.block w.heap.size (by simp; omega)).trans b1'.out
  have d2 := (hba.block (w.heap.size + 1) (by simp)).trans b2'.out
  have hg1 : w.heap.size + 2 < g := by simp at hgB; omega
  have hcs' := Lib.hid hcs
  have hpend := h.pend
  have hplen := h.plen
  have hpin := h.pin
  have hlen := h.len
  clear hcs htk hgB hba b1' b2' hB0' hsrc
  generalize hdd : st.dur = d at *
  generalize hnd : d.length = nd at *
  have hdd' := Lib.hid hdd
  have hnd' := Lib.hid hnd
  have hh := Lib.hid h
  clear hdd hnd h
  go_loopw [8] (fun i wr => ∃ k : Nat, k ≤ st.pend.length ∧ i = .int .i64 k ∧ wr.heap[g]? = some (.cells (flatD (layRef sv rest d 0 (st.pend.take k)) ++ sp).toArray 23 (0, 0)) ∧ wr.heap[w.heap.size]? = some (.cells (r.row st) 55 (0, 0)) ∧ wr.heap[w.heap.size + 1]? = some (.cells zrow 55 (0, 0)) ∧ Below w.heap.size w wr)
    (fun i _ => st.pend.length - (intOf i).toNat)
  case atStart => exact ⟨0, Nat.zero_le _, rfl, hgh, d1, d2, hBa⟩
  case round =>
    obtain ⟨k, hk, rfl, hgk, d1, d2, hB⟩ := hrel
    obtain ⟨c0, c1, c2, c3, c4, c5, c6, cf⟩ := row_cells d1
    have cf0 := cf 0
    have cf1 := cf 1
    clear c2 c3 c4 c5 c6 cf
    by_cases hlt : k < st.pend.length
    · have hn64 := hplen _ (List.getElem_mem hlt)
      obtain ⟨hx0, hx1⟩ := hpin _ (List.getElem_mem hlt)
      obtain ⟨q, hpa, _, hql, hqc⟩ := writes_cells hpend hplen k hlt
      have hqc' : ∀ j u, (wrow st.pend[k].1 st.pend[k].2).toList[j]? = some u → wr.cell? ⟨q, k * 65 + j, none⟩ = some u := fun j u hu => (hB.cell (p := ⟨q, k * 65 + j, none⟩) hql).trans (hqc j u hu)
      rw [hpa] at c1
      have hstep := Lib.hid (layRef_snoc sv rest st.pend[k] (st.pend.take k) d 0)
      have htk := Lib.hid (take_snoc' st.pend k hlt)
      have hDl := Lib.hid (length_layRef sv rest (st.pend.take k) d 0)
      have hD64 : Hid (∀ s ∈ layRef sv rest d 0 (st.pend.take k), s.length = 64) := Lib.hid (layRef_lens sv rest _ d 0 hlen (fun x hx => hplen x (List.mem_of_mem_take hx)) (fun x hx => by rw [hnd'.out]; exact hpin x (List.mem_of_mem_take hx)))
      have hlk : (st.pend.take k).length = k := by rw [List.length_take]; omega
      rw [hlk] at hstep
      clear hpa hqc hlk
      generalize layRef sv rest d 0 (st.pend.take k) = D at *
      generalize st.pend[k] = x at *
      obtain ⟨xn, xs⟩ := x
      simp only at hn64 hx0 hx1 hqc'
      obtain ⟨xn, rfl⟩ := Int.eq_ofNat_of_zero_le hx0
      have hone : oneCells (wrow (xn : Int) xs) = true := one_wrow _ xs
      have hz := length_zeros
      have hsrd := True.intro
      have hx1' : ((xn : Int)).toNat < D.length := by rw [hDl.out, hnd'.out]; omega
      by_cases hjs : k < sv.length
      · obtain ⟨ao', cap', e, hsat⟩ := hs.below hB
        injection e with e1 e2 e3
        subst e1 e3
        obtain ⟨b0, o, rfl, hbB, hsc⟩ := hsat (by omega)
        have hsc1 := hsc k hjs
        rw [Nat.zero_add, if_pos hjs] at hstep
        clear hsc hsat
        generalize sv.getD k 0 = N at *
        go_wp2_with (with_reducible refine wpList_load_cells ag_w47 rfl (.tmp 35) rfl q (k * 65) rfl (wrow (xn : Int) xs) (by rw [size_wrow, hn64]) hqc' ?_)
        have e1 := heap_alloc_new wr (.cells (wrow (xn : Int) xs) 46)
        have g1 := (Below.heap_alloc wr (.cells (wrow (xn : Int) xs) 46) g (lt_of_block hgk)).trans hgk
        have d1a := (Below.heap_alloc wr (.cells (wrow (xn : Int) xs) 46) _ (lt_of_block d1)).trans d1
        have d2a := (Below.heap_alloc wr (.cells (wrow (xn : Int) xs) 46) _ (lt_of_block d2)).trans d2
        have hBa := hB.alloc hB.size (.cells (wrow (xn : Int) xs) 46)
        have hgl := lt_of_block hgk
        have hbs := hB.size
        rw [← laid_zero D ((xn : Int), xs)] at g1
        clear hqc' d1 d2 hgk c0 c1 cf0 cf1 hsrd
        have hNf : few64 N ≤ 64 := by unfold few64; omega
        generalize wr.alloc (.cells (wrow (xn : Int) xs) 46) = W1 at *
        generalize wr.heap.size = wb at *
        go_loopw [11] (fun i w2 => ∃ j : Nat, j ≤ few64 N ∧ i = .int .i64 j ∧ w2.heap[g]? = some (.cells (flatD (laid D ((xn : Int), xs) j) ++ sp).toArray 23 (0, 0)) ∧ w2.heap[wb]? = some (.cells (wrow (xn : Int) xs) 46 (0, 0)) ∧ w2.heap[w.heap.size]? = some (.cells (r.row st) 55 (0, 0)) ∧ w2.heap[w.heap.size + 1]? = some (.cells zrow 55 (0, 0)) ∧ Below w.heap.size w w2)
          (fun i _ => 64 - (intOf i).toNat)
        case atStart => exact ⟨0, Nat.zero_le _, rfl, g1, e1, d1a, d2a, hBa⟩
        case round =>
          obtain ⟨j, hj, rfl, g2, e2, f1, f2, hB2⟩ := hrel
          clear g1 e1 d1a d2a hBa
          by_cases hjn : j < few64 N
          · have hj1 : (j : Int) < N := by unfold few64 at hjn; omega
            have hj2 : j < 64 := by omega
            have hj3 : (j : Int) < 64 := by omega
            have hL64 := laid_lens (x := ((xn : Int), xs)) (k := j) hD64.out hn64 hx1' (by omega)
            have hx1N : xn < nd := by omega
            have hx1I : (xn : Int) < nd := by omega
            have hxD : xn < (laid D ((xn : Int), xs) j).length := by rw [laid_len]; simpa using hx1'
            have ew0 : wr.cell? ⟨wb, 0, none⟩ = some (.int .i64 (xn : Int)) := by simp only [World.cell?, e2]; exact wrow_zero _ _
            have ew1 : wr.cell? ⟨wb, 1 + j, none⟩ = some (.int .u8 (xs.getD j 0)) := by simp only [World.cell?, e2]; rw [← Array.getElem?_toList]; exact wrow_byte _ _ hn64 j hj2
            have eg : wr.cell? ⟨g, xn * 64 + j, none⟩ = some (.int .u8 (((laid D ((xn : Int), xs) j).getD xn []).getD j 0)) := by
              simp only [World.cell?, g2]
              rw [List.getElem?_toArray, List.getElem?_append_left (by rw [size_flatD _ hL64]; omega)]
              exact flatD_get _ xn hxD hL64 j hj2
            have ef : wr.frozen? ⟨g, xn * 64 + j, none⟩ = false := by simp [World.frozen?, g2]
            have hls := Lib.hid (laid_step D ((xn : Int), xs) j hD64.out hn64 hx1' hj2)
            have g2' := Lib.hid g2
            have e2' := Lib.hid e2
            have f1' := Lib.hid f1
            have f2' := Lib.hid f2
            clear g2 e2 f1 f2
            go_wp2
            go_region
            go_wp2
            go_roundw
            case rel =>
              refine ⟨j + 1, by omega, by go_num, ?_, ?_, ?_, ?_, ?_⟩
              · rw [World.drew_heap', heap_setCell_same _ _ _ _ _ _ g2'.out, ← hls.out]
                congr 2
                apply Array.ext'
                rw [Array.toList_setIfInBounds, List.toList_toArray, List.toList_toArray, List.set_append_left _ _ (by rw [size_flatD _ hL64]; have := hxD; omega)]
                simp [List.getD, hn64, hj2]
              · rw [World.drew_heap', heap_setCell_other _ _ _ _ (by simp; omega)]; exact e2'.out
              · rw [World.drew_heap', heap_setCell_other _ _ _ _ (by simp; omega)]; exact f1'.out
              · rw [World.drew_heap', heap_setCell_other _ _ _ _ (by simp; omega)]; exact f2'.out
              · exact (hB2.setCell (by simp; omega) _).drew
            case measure => simp [intOf]; omega
          · have hj0 : j = few64 N := by omega
            have hnx : layRef sv rest d 0 (st.pend.take (k + 1)) = laid D ((xn : Int), xs) j := by rw [htk.out, hstep.out, hj0]; rfl
            have hnx' := Lib.hid hnx
            clear hnx e2
            by_cases hN : (j : Int) < N
            · have h64 : 64 ≤ (j : Int) := by unfold few64 at hj0; omega
              have h64' : ¬ (j : Int) < 64 := by omega
              clear hj0
              go_wp2
              go_roundw
              case rel => exact ⟨k + 1, by omega, by go_num, by rw [hnx'.out]; exact g2, f1, f2, hB2⟩
              case measure => simp [intOf]; omega
            · clear hj0
              go_wp2
              go_roundw
              case rel => exact ⟨k + 1, by omega, by go_num, by rw [hnx'.out]; exact g2, f1, f2, hB2⟩
              case measure => simp [intOf]; omega
      · rw [Nat.zero_add, if_neg hjs] at hstep
        go_wp2_with (with_reducible refine wpList_load_cells ag_w47 rfl (.tmp 35) rfl q (k * 65) rfl (wrow (xn : Int) xs) (by rw [size_wrow, hn64]) hqc' ?_)
        have e1 := heap_alloc_new wr (.cells (wrow (xn : Int) xs) 46)
        have g1 := (Below.heap_alloc wr (.cells (wrow (xn : Int) xs) 46) g (lt_of_block hgk)).trans hgk
        have d1a := (Below.heap_alloc wr (.cells (wrow (xn : Int) xs) 46) _ (lt_of_block d1)).trans d1
        have d2a := (Below.heap_alloc wr (.cells (wrow (xn : Int) xs) 46) _ (lt_of_block d2)).trans d2
        have hBa := hB.alloc hB.size (.cells (wrow (xn : Int) xs) 46)
        have hgl := lt_of_block hgk
        have hbs := hB.size
        rw [← laid_zero D ((xn : Int), xs)] at g1
        clear hqc' d1 d2 hgk c0 c1 cf0 cf1 hsrd
        have hNf : few64 rest ≤ 64 := by unfold few64; omega
        generalize wr.alloc (.cells (wrow (xn : Int) xs) 46) = W1 at *
        generalize wr.heap.size = wb at *
        go_loopw [11] (fun i w2 => ∃ j : Nat, j ≤ few64 rest ∧ i = .int .i64 j ∧ w2.heap[g]? = some (.cells (flatD (laid D ((xn : Int), xs) j) ++ sp).toArray 23 (0, 0)) ∧ w2.heap[wb]? = some (.cells (wrow (xn : Int) xs) 46 (0, 0)) ∧ w2.heap[w.heap.size]? = some (.cells (r.row st) 55 (0, 0)) ∧ w2.heap[w.heap.size + 1]? = some (.cells zrow 55 (0, 0)) ∧ Below w.heap.size w w2)
          (fun i _ => 64 - (intOf i).toNat)
        case atStart => exact ⟨0, Nat.zero_le _, rfl, g1, e1, d1a, d2a, hBa⟩
        case round =>
          obtain ⟨j, hj, rfl, g2, e2, f1, f2, hB2⟩ := hrel
          clear g1 e1 d1a d2a hBa
          by_cases hjn : j < few64 rest
          · have hj1 : (j : Int) < rest := by unfold few64 at hjn; omega
            have hj2 : j < 64 := by omega
            have hj3 : (j : Int) < 64 := by omega
            have hL64 := laid_lens (x := ((xn : Int), xs)) (k := j) hD64.out hn64 hx1' (by omega)
            have hx1N : xn < nd := by omega
            have hx1I : (xn : Int) < nd := by omega
            have hxD : xn < (laid D ((xn : Int), xs) j).length := by rw [laid_len]; simpa using hx1'
            have ew0 : wr.cell? ⟨wb, 0, none⟩ = some (.int .i64 (xn : Int)) := by simp only [World.cell?, e2]; exact wrow_zero _ _
            have ew1 : wr.cell? ⟨wb, 1 + j, none⟩ = some (.int .u8 (xs.getD j 0)) := by simp only [World.cell?, e2]; rw [← Array.getElem?_toList]; exact wrow_byte _ _ hn64 j hj2
            have eg : wr.cell? ⟨g, xn * 64 + j, none⟩ = some (.int .u8 (((laid D ((xn : Int), xs) j).getD xn []).getD j 0)) := by
              simp only [World.cell?, g2]
              rw [List.getElem?_toArray, List.getElem?_append_left (by rw [size_flatD _ hL64]; omega)]
              exact flatD_get _ xn hxD hL64 j hj2
            have ef : wr.frozen? ⟨g, xn * 64 + j, none⟩ = false := by simp [World.frozen?, g2]
            have hls := Lib.hid (laid_step D ((xn : Int), xs) j hD64.out hn64 hx1' hj2)
            have g2' := Lib.hid g2
            have e2' := Lib.hid e2
            have f1' := Lib.hid f1
            have f2' := Lib.hid f2
            clear g2 e2 f1 f2
            go_wp2
            go_region
            go_wp2
            go_roundw
            case rel =>
              refine ⟨j + 1, by omega, by go_num, ?_, ?_, ?_, ?_, ?_⟩
              · rw [World.drew_heap', heap_setCell_same _ _ _ _ _ _ g2'.out, ← hls.out]
                congr 2
                apply Array.ext'
                rw [Array.toList_setIfInBounds, List.toList_toArray, List.toList_toArray, List.set_append_left _ _ (by rw [size_flatD _ hL64]; have := hxD; omega)]
                simp [List.getD, hn64, hj2]
              · rw [World.drew_heap', heap_setCell_other _ _ _ _ (by simp; omega)]; exact e2'.out
              · rw [World.drew_heap', heap_setCell_other _ _ _ _ (by simp; omega)]; exact f1'.out
              · rw [World.drew_heap', heap_setCell_other _ _ _ _ (by simp; omega)]; exact f2'.out
              · exact (hB2.setCell (by simp; omega) _).drew
            case measure => simp [intOf]; omega
          · have hj0 : j = few64 rest := by omega
            have hnx : layRef sv rest d 0 (st.pend.take (k + 1)) = laid D ((xn : Int), xs) j := by rw [htk.out, hstep.out, hj0]; rfl
            have hnx' := Lib.hid hnx
            clear hnx e2
            by_cases hN : (j : Int) < rest
            · have h64 : 64 ≤ (j : Int) := by unfold few64 at hj0; omega
              have h64' : ¬ (j : Int) < 64 := by omega
              clear hj0
              go_wp2
              go_roundw
              case rel => exact ⟨k + 1, by omega, by go_num, by rw [hnx'.out]; exact g2, f1, f2, hB2⟩
              case measure => simp [intOf]; omega
            · clear hj0
              go_wp2
              go_roundw
              case rel => exact ⟨k + 1, by omega, by go_num, by rw [hnx'.out]; exact g2, f1, f2, hB2⟩
              case measure => simp [intOf]; omega
    · obtain rfl : k = st.pend.length := by omega
      rw [List.take_length] at hgk
      have hDl := length_layRef sv rest st.pend d 0
      have hrow : rowOf ((wr.setCell ⟨w.heap.size, 0, none⟩ (.slice (some ⟨g, 0, none⟩) nd cc)).setCell ⟨w.heap.size, 1, none⟩ (.slice none 0 0)) w.heap.size = Ref.row ⟨some ⟨g, 0, none⟩, cc, none, 0⟩ (st.rapply sv rest) := by
        rw [rowOf_of (heap_setCell_same _ _ _ _ _ _ (heap_setCell_same _ _ _ _ _ _ d1))]
        unfold Ref.row St.rapply
        rw [hdd'.out]
        simp only [hDl, hnd'.out]
        rfl
      have hrs : rowOf ((wr.setCell ⟨w.heap.size, 0, none⟩ (.slice (some ⟨g, 0, none⟩) nd cc)).setCell ⟨w.heap.size, 1, none⟩ (.slice none 0 0)) (w.heap.size + 1) = zrow := by
        rw [rowOf_setCell_other _ (by simp), rowOf_setCell_other _ (by simp)]
        exact rowOf_of d2
      have hDl' := Lib.hid hDl
      have d1' := Lib.hid d1
      have d2' := Lib.hid d2
      have hgk' := Lib.hid hgk
      clear d1 d2 hgk hDl
      go_wp2
      have hB1 : Below w.heap.size w ((wr.setCell ⟨w.heap.size, 0, none⟩ (.slice (some ⟨g, 0, none⟩) nd cc)).setCell ⟨w.heap.size, 1, none⟩ (.slice none 0 0)) := (hB.setCell (Nat.le_refl _) _).setCell (Nat.le_refl _) _
      have hgk2 : (((wr.setCell ⟨w.heap.size, 0, none⟩ (.slice (some ⟨g, 0, none⟩) nd cc)).setCell ⟨w.heap.size, 1, none⟩ (.slice none 0 0))).heap[g]? = some (.cells (flatD (layRef sv rest d 0 st.pend) ++ sp).toArray 23 (0, 0)) := by
        rw [heap_setCell_other _ _ _ _ (by simp; omega), heap_setCell_other _ _ _ _ (by simp; omega)]
        exact hgk'.out
      generalize (wr.setCell ⟨w.heap.size, 0, none⟩ (.slice (some ⟨g, 0, none⟩) nd cc)).setCell ⟨w.heap.size, 1, none⟩ (.slice none 0 0) = W3 at *
      have hro := rowOf_setRow_same (w := W3) (g := w.heap.size + 1) (Ref.row ⟨some ⟨g, 0, none⟩, cc, none, 0⟩ (st.rapply sv rest)) (by rw [hrs, size_zrow]; omega)
      have hL64 := layRef_lens sv rest st.pend d 0 (by rw [← hdd'.out]; exact hh.out.len) hplen (by rw [hnd'.out]; exact hpin)
      refine bodyPost_ret (results_cell rfl ag_state _ rfl hro (size_row _ _) (by omega)) rfl ⟨_, rfl, ?_, below_setRow hB1 (by omega) _, ?_⟩
      case' refine_2 =>
        rintro k (⟨o, t, e⟩ | ⟨o, t, e⟩)
        · injection e with e; injection e with e; exact .inr (by omega)
        · cases e
      have hdur : (st.rapply sv rest).dur = layRef sv rest d 0 st.pend := by unfold St.rapply; rw [hdd'.out]
      have hlen2 : (layRef sv rest d 0 st.pend).length = nd := hDl'.out.trans hnd'.out
      refine ⟨?_, World.ownsRow_nil _ _ _ _, by rw [hdur]; exact hL64, by simp [St.rapply], by simp [St.rapply], by rw [hdur, hlen2]; exact hfew⟩
      rw [hdur, hlen2]
      have hsz : (flatD (layRef sv rest d 0 st.pend)).length = nd * 64 := by rw [size_flatD _ hL64, hlen2]
      refine ⟨hsz, .inr ⟨g, cc, _, rfl, Nat.zero_le _, (setRow_other _ _ _ _ (by omega)).trans hgk2, hcc, hcm, ?_, ?_⟩⟩
      · have := hcs'.out
        rw [List.size_toArray, List.length_append] at this ⊢
        rw [hsz]
        rw [hfl] at this
        exact this
      · rw [List.toList_toArray, ← hsz]
        exact List.take_left
theorem rapply_any (w : World) (r : Ref) (st : St) (h : RefIn w r st) (hm : 1 ≤ st.dur.length) (hpl : st.pend.length < 1000000) (svv : Value) (sv : List Int) (hs : IntsIn w.heap.size w svv sv) (hsl : sv.length < 1000000) (rest : Int) :
    Calls Try.prog 41 #[r.val st, svv, .int .i64 rest] w fun e w' => ∃ r', e = .returned (r'.val (st.rapply sv rest)) ∧ RefIn w' r' (st.rapply sv rest) ∧ Below w.heap.size w w' ∧ Newer w r r' := by
  obtain ⟨ao, cap, rfl, hs2⟩ := hs
  exact rapply_walk w r st h hm hpl ao cap sv ⟨ao, cap, rfl, hs2⟩ hsl rest
end Go.Proofs.Ytakehkoicinlbaa.dk
