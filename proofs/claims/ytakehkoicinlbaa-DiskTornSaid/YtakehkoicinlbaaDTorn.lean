/- The walk of confluentlaw47.DiskTorn. -/
import Derived.Test.YtakehkoicinlbaaDTornOne
import Derived.OwnWalk
namespace Go.Proofs.Ytakehkoicinlbaa.dk
open Go.RowKit Go.Proofs.Ytakehkoicinlbaa.agg

theorem make_sec (n : Nat) (h2 : n ≤ 2048) (u : World) : (Instr.makeSlice 43 (.int .i64 (n : Int)) (.int .i64 (n : Int))).run Try.prog u =
      .ok (.slice (some ⟨u.heap.size, 0, none⟩) n n) (u.alloc (.cells (flatD (List.replicate n zeros)).toArray 23)) := by
  obtain ⟨i0, hi, hz0, hz1, hz2⟩ := info_parts info_sec
  have h := run_make (P := Try.prog) u 43 23 i0 (.agg (sec zeros)) Try.underlying43 hi hz0 .i64 .i64 (n : Int) (n : Int) (by omega) (Int.le_refl _) (by rw [hz2]; omega) (by omega)
  rw [← madeCells_sec]
  simpa [hz1, Value.cells] using h
/-- The row of the contents as far as they are read. -/
def readTo (d : List (List Int)) (m k : Nat) : List (List Int) := d.take k ++ List.replicate (m - k) zeros
theorem readTo_lens {d : List (List Int)} {m k : Nat} (h : ∀ s ∈ d, s.length = 64) : ∀ s ∈ readTo d m k, s.length = 64 := by
  intro s hs
  rcases List.mem_append.1 hs with hs | hs
  · exact h s (List.mem_of_mem_take hs)
  · rw [(List.mem_replicate.1 hs).2]; exact length_zeros
theorem readTo_len {d : List (List Int)} {m k : Nat} (hd : d.length = m) (hk : k ≤ m) : (readTo d m k).length = m := by
  unfold readTo; rw [List.length_append, List.length_take, List.length_replicate]; omega
theorem readTo_set {d : List (List Int)} {m k : Nat} (hd : d.length = m) (hk : k < m) : (readTo d m k).set k (d.getD k []) = readTo d m (k + 1) := by
  unfold readTo
  apply List.ext_getElem?
  intro i
  have h1 : (d.take k).length = k := by rw [List.length_take]; omega
  have h2 : (d.take (k + 1)).length = k + 1 := by rw [List.length_take]; omega
  by_cases hi : i = k
  · subst hi
    rw [List.getElem?_set_self (by rw [List.length_append, h1, List.length_replicate]; omega), List.getElem?_append_left (by omega), List.getElem?_take, if_pos (by omega), List.getD_eq_getElem?_getD, List.getElem?_eq_getElem (by omega)]
    rfl
  · rw [List.getElem?_set_ne (fun e => hi e.symm)]
    by_cases hlt : i < k
    · rw [List.getElem?_append_left (by omega), List.getElem?_append_left (by omega), List.getElem?_take, List.getElem?_take, if_pos hlt, if_pos (by omega)]
    · rw [List.getElem?_append_right (by omega), List.getElem?_append_right (by omega), List.getElem?_replicate, List.getElem?_replicate]
      have : (i - (d.take k).length < m - k) = (i - (d.take (k + 1)).length < m - (k + 1)) := by rw [h1, h2]; apply propext; omega
      simp only [this]
theorem flat_store (l : List (List Int)) (h : ∀ s ∈ l, s.length = 64) (k : Nat) (hk : k < l.length) (xs : List Int) (hx : xs.length = 64) :
    overrow (flatD l).toArray (k * 64) (sec xs) = (flatD (l.set k xs)).toArray := by
  have h1 := flatD_overrow l h k hk xs hx 64 (Nat.le_refl _) []
  have h2 : (l.getD k []).length = 64 := by
    rw [List.getD_eq_getElem?_getD, List.getElem?_eq_getElem hk]; exact h _ (List.getElem_mem hk)
  rw [List.append_nil, List.append_nil, List.take_of_length_le (by omega)] at h1
  rw [show sec xs = (u8s xs).toArray from rfl, h1]
  unfold overlay
  rw [List.take_of_length_le (by omega), List.drop_of_length_le (by omega), List.append_nil]

theorem flatP_get : ∀ (l : List Wr) (t : Nat) (ht : t < l.length), (∀ x ∈ l, x.2.length = 64) → ∀ j, j < 65 → (flatP l)[t * 65 + j]? = (wrow l[t].1 l[t].2).toList[j]?
  | [], t, ht, _, _, _ => by simp at ht
  | x :: l, 0, _, h, j, hj => by
    have hx := h x (by simp)
    have hl : (wcells x).length = 65 := by simp [wcells, u8s, hx]
    show (wcells x ++ flatP l)[0 * 65 + j]? = _
    rw [Nat.zero_mul, Nat.zero_add, List.getElem?_append_left (by omega), List.getElem_cons_zero, wrow_toList]
  | x :: l, t + 1, ht, h, j, hj => by
    have hx := h x (by simp)
    have hl : (wcells x).length = 65 := by simp [wcells, u8s, hx]
    show (wcells x ++ flatP l)[(t + 1) * 65 + j]? = _
    rw [List.getElem?_append_right (by omega), hl, show (t + 1) * 65 + j - 65 = t * 65 + j by omega]
    exact flatP_get l t (by simpa using ht) (fun y hy => h y (by simp [hy])) j hj
theorem own_len {w : World} {base : Nat} {e : TypeId} {size : Nat} {ao : Option Addr} {n c k : Nat} {xs : List Value} (h : w.ownsRow base e size (.slice ao n c) k xs) : n = k := by
  rcases h.2 with ⟨e, rfl⟩ | ⟨g, cap, cur, e, _⟩
  · cases e; rfl
  · cases e; rfl
theorem own_cells {w : World} {base : Nat} {e : TypeId} {size : Nat} {ao : Option Addr} {n c k : Nat} {xs : List Value} (h : w.ownsRow base e size (.slice ao n c) k xs) (hk : 0 < k) :
    ∃ q, ao = some ⟨q, 0, none⟩ ∧ base ≤ q ∧ q < w.heap.size ∧ ∀ j u, xs[j]? = some u → w.cell? ⟨q, j, none⟩ = some u := by
  rcases h.2 with ⟨_, rfl⟩ | ⟨g, cap, cur, e, hg, hh, _, _, _, ht⟩
  · omega
  · cases e
    refine ⟨g, rfl, hg, lt_of_block hh, fun j u hu => ?_⟩
    simp only [World.cell?, hh]
    rw [← ht, List.getElem?_take] at hu
    split at hu
    · simpa using hu
    · cases hu
theorem writes_cells {w : World} {base : Nat} {ao : Option Addr} {n c : Nat} {dn : List Wr} (h : w.ownsRow base 46 65 (.slice ao n c) dn.length (flatP dn)) (h64 : ∀ x ∈ dn, x.2.length = 64) (t : Nat) (ht : t < dn.length) :
    ∃ q, ao = some ⟨q, 0, none⟩ ∧ base ≤ q ∧ q < w.heap.size ∧ ∀ j u, (wrow dn[t].1 dn[t].2).toList[j]? = some u → w.cell? ⟨q, t * 65 + j, none⟩ = some u := by
  obtain ⟨q, rfl, h1, h2, hc⟩ := own_cells h (by omega)
  refine ⟨q, rfl, h1, h2, fun j u hu => hc _ _ ?_⟩
  have hj : j < 65 := by
    have := (List.getElem?_eq_some_iff.1 hu).1
    rw [Array.length_toList, size_wrow, h64 _ (List.getElem_mem ht)] at this
    exact this
  rw [flatP_get dn t ht h64 j hj]
  exact hu
def natInts (l : List Nat) : List Value := l.map (fun i : Nat => Value.int .i64 (i : Int))
theorem sec_cell {w : World} {b : Nat} {x : List Int} {t : TypeId} (h : w.heap[b]? = some (.cells (sec x) t (0, 0))) (hx : x.length = 64) (i : Nat) (hi : i < 64) : w.cell? ⟨b, i, none⟩ = some (.int .u8 (x.getD i 0)) := by
  simp only [World.cell?, h]
  exact sec_get x i (by omega)
theorem flatD_get : ∀ (l : List (List Int)) (n : Nat), n < l.length → (∀ s ∈ l, s.length = 64) → ∀ b, b < 64 → (flatD l)[n * 64 + b]? = some (.int .u8 ((l.getD n []).getD b 0))
  | [], n, hn, _, _, _ => by simp at hn
  | x :: l, 0, _, h, b, hb => by
    have hx := h x (by simp)
    have hl : (u8s x).length = 64 := by rw [length_u8s, hx]
    show (u8s x ++ flatD l)[0 * 64 + b]? = _
    rw [Nat.zero_mul, Nat.zero_add, List.getElem?_append_left (by omega)]
    simp [u8s, List.getD, hx, hb]
  | x :: l, n + 1, hn, h, b, hb => by
    have hx := h x (by simp)
    have hl : (u8s x).length = 64 := by rw [length_u8s, hx]
    show (u8s x ++ flatD l)[(n + 1) * 64 + b]? = _
    rw [List.getElem?_append_right (by omega), hl, show (n + 1) * 64 + b - 64 = n * 64 + b by omega]
    exact flatD_get l n (by simpa using hn) (fun y hy => h y (by simp [hy])) b hb
theorem row_cell {w : World} {bb : Nat} {d : List (List Int)} {t : TypeId} (h : w.heap[bb]? = some (.cells (flatD d).toArray t (0, 0))) (hd : ∀ s ∈ d, s.length = 64) (n : Nat) (hn : n < d.length) (b : Nat) (hb : b < 64) :
    w.cell? ⟨bb, n * 64 + b, none⟩ = some (.int .u8 ((d.getD n []).getD b 0)) := by
  simp only [World.cell?, h]
  rw [List.getElem?_toArray]
  exact flatD_get d n hn hd b hb
theorem wrow_byte (n : Int) (xs : List Int) (hx : xs.length = 64) (b : Nat) (hb : b < 64) : (wrow n xs).toList[1 + b]? = some (.int .u8 (xs.getD b 0)) := by
  rw [wrow_toList, wcells, Nat.add_comm 1 b, List.getElem?_cons_succ]
  simp [u8s, List.getD, hx, hb]
theorem few64_min (y : Int) : min (max y 0) 64 = ((few64 y : Nat) : Int) := by unfold few64; omega
theorem cells_new2 (w : World) (o : Obj) (c : Array Value) (t : TypeId) : ∀ j u, c.toList[j]? = some u → ((w.alloc o).alloc (.cells c t)).cell? ((⟨w.heap.size + 1, 0, none⟩ : Addr).add j) = some u := by
  have h := cells_new (w.alloc o) c t
  rw [show (w.alloc o).heap.size = w.heap.size + 1 by simp] at h
  exact h
theorem ownFrom_len (n : Int) : ∀ (l : List Wr) (i : Nat), (ownFrom n i l).length ≤ l.length
  | [], _ => by simp [ownFrom]
  | x :: l, i => by
    have := ownFrom_len n l (i + 1)
    simp only [ownFrom, List.length_cons]
    split
    · simp only [List.length_cons]; omega
    · omega
theorem own_take (n : Int) (dn : List Wr) (t : Nat) (ht : t < dn.length) : ownFrom n 0 (dn.take (t + 1)) = ownFrom n 0 (dn.take t) ++ (if dn[t].1 = n then [t] else []) := by
  rw [take_snoc' dn t ht, ownFrom_snoc]
  have : 0 + (dn.take t).length = t := by rw [List.length_take]; omega
  rw [this]
theorem TS.setRow {B bb D g : Nat} {w0 w : World} {pv : Value} {st : St} {bl bl' : List (List Int)} {v : Value} {dn : List Wr} (h : TS B bb D g w0 w pv st bl v dn) (hB : B ≤ w0.heap.size) : TS B bb D g w0 (w.setRow bb (flatD bl').toArray) pv st bl' v dn :=
  { h with
    live := ⟨h.live.disk.same (fun k hk => setRow_other _ _ _ _ (fun e => h.n1 (e ▸ hk))), h.live.ge, h.live.below.trans ((Kept.setRow (F := fun k => k = bb) w rfl _).below B (Nat.le_trans hB h.live.below.size) (fun i hi => by rw [hi]; exact h.ge))⟩
    row := setRow_heap _ _ _ _ _ _ h.row
    own := ownsRow_same h.own (fun k hk => setRow_other _ _ _ _ (fun e => h.n2 (by rw [← e]; exact hk))) }
theorem flat_visible {st : St} (hp : st.pend = []) (n : Nat) : st.visible n = st.dur.getD n [] := by
  unfold St.visible
  rw [hp]
  rfl

set_option maxHeartbeats 8000000 in
set_option maxRecDepth 8000 in
theorem torn_walk (w : World) (sectors : Int) (lv : Value) (l : List ActV) (hl : ActsIn w.heap.size w lv l) (hlm : l.length ≤ 9223372036854775807) (wv : Value) (wl : List Wr) (hwl : WritesIn w.heap.size w wv wl) (hwm : wl.length ≤ 9223372036854775807) (svv : Value) (sv : List Int) (hs : IntsIn w.heap.size w svv sv) (hsm : sv.length ≤ 9223372036854775807) :
    Calls Try.prog 4 #[.int .i64 sectors, lv, wv, svv] w fun e w' => e = .returned (.bool true) ∧ Below w.heap.size w w' := by
  obtain ⟨al, lcap, rfl, hat⟩ := hl.at_
  clear hat
  obtain ⟨aw, wcap, rfl, hwat⟩ := hwl.at_
  clear hwat
  obtain ⟨ao, cap, rfl, hs2⟩ := hs
  have hs : IntsIn w.heap.size w (.slice ao sv.length cap) sv := ⟨ao, cap, rfl, hs2⟩
  clear hs2
  go_enter Try.func4, Try.ntmps4
  go_wp2_with fail
  refine (awake_calls w).mono ?_
  rintro e w1 ⟨rfl, B1⟩
  go_wp2_with fail
  refine (few_any w.heap.size _ _ l (hl.below B1) 30 hlm).mono ?_
  rintro e w2 ⟨rfl, rfl⟩
  by_cases hfew : fewB l 30 = true
  · by_cases h12 : wl.length ≤ 12
    · have hd12 : decide ((12 : Int) < (wl.length : Int)) = false := by simp; omega
      by_cases h60 : sv.length ≤ 60
      · have hd60 : decide ((60 : Int) < (sv.length : Int)) = false := by simp; omega
        by_cases h8 : sectors ≤ 8
        · by_cases h1 : sectors < 1
          · go_wp2_with fail
            refine (begin_no sectors (.inl h1) _ _).mono ?_
            rintro e w3 ⟨rfl, rfl⟩
            go_wp2
            go_ret
            exact ⟨rfl, B1⟩
          · obtain ⟨m, rfl⟩ := Int.eq_ofNat_of_zero_le (show 0 ≤ sectors by omega)
            obtain ⟨hf1, hf2⟩ := fewB_true hfew
            obtain ⟨hq1, hq2⟩ := runAll_len l (St.new m)
            have hq3 : (runAll (St.new m) l).pend.length < 1000 := by
              have : (St.new m).pend.length = 0 := rfl
              omega
            have hq4 : (runAll (St.new m) l).dur.length = m := by rw [hq1]; simp [St.new]
            clear hq1 hq2
            go_wp2_with fail
            refine (begin_any w1 m (by omega) (by omega) (B := w.heap.size) B1.size _ l (hl.below B1) (by omega) hf1).mono ?_
            rintro e w3 ⟨D, g, pv, rfl, L3⟩
            generalize runAll (St.new m) l = st3 at *
            clear hl hf1 hfew hlm hf2
            go_wp2_with fail
            refine (crash_any _ L3.disk (.slice none 0 0) [] (nil_ints _ _) (by omega) (by simp)).mono ?_
            rintro e w4 ⟨rfl, hd4⟩
            obtain ⟨pv4, L4⟩ := L3.done (Nat.le_refl _) hd4
            have k4 := crash_works st3 []
            rw [hq4] at k4
            have hp4 : (st3.crash []).pend = [] := rfl
            generalize st3.crash [] = st at *
            clear L3 hd4 hq3 hq4
            go_wp2_with fail
            refine (sectors_any _ L4.disk).mono ?_
            rintro e w5 ⟨rfl, rfl⟩
            rw [k4.len]
            have hmk := make_sec m (by omega)
            go_wp2_with fail
            clear hmk hwm hsm
            have T0 : TS w1.heap.size w4.heap.size D g w1 (w4.alloc (.cells (flatD (List.replicate m zeros)).toArray 23)) pv4 st (readTo st.dur m 0) (.slice none 0 0) [] :=
              { live := L4.quiet (Nat.le_refl _) ((Below.refl _ w4).alloc (Nat.le_refl _) _)
                row := by rw [show readTo st.dur m 0 = List.replicate m zeros by simp [readTo]]; exact heap_alloc_new w4 _
                own := World.ownsRow_nil _ _ _ _
                n1 := fun e => by have := L4.disk.lt _ e; omega
                n2 := by simp [Value.ownBlock]
                n3 := by simp [Value.ownBlock]
                ge := L4.below.size }
            have hdl := L4.disk.len
            clear L4
            generalize w4.alloc (.cells (flatD (List.replicate m zeros)).toArray 23) = w6 at *
            generalize w4.heap.size = bb at *
            have hdm := k4.len
            generalize hdd : st.dur = d at *
            have hdm' := Lib.hid hdm
            clear hdm
            go_loopw [60] (fun i wr => ∃ k : Nat, k ≤ m ∧ i = .int .i64 k ∧ ∃ pv' st', TS w1.heap.size bb D g w1 wr pv' st' (readTo d m k) (.slice none 0 0) [] ∧ Works m (-1) st' ∧ st'.pend = [] ∧ st'.dur = d)
              (fun i _ => m - (intOf i).toNat)
            case atStart => exact ⟨0, Nat.zero_le _, rfl, pv4, st, T0, k4, hp4, hdd⟩
            case round =>
              obtain ⟨k, hk, rfl, pv', st', T, kw, hpe, hde⟩ := hrel
              clear T0 k4 hp4 hdd
              by_cases hlt : k < m
              · obtain ⟨rd1, kw2, hp2⟩ := works_read kw k hlt
                have rdd := (read_pend st' k).1
                have hvis := flat_visible hpe k
                rw [hvis, hde] at rd1
                have rd2 : (st'.read k).2.1 = d.getD k [] := by rw [rd1]
                have rd3 : (st'.read k).2.2 = 0 := by rw [rd1]
                have hx64 : (d.getD k []).length = 64 := by
                  rw [List.getD_eq_getElem?_getD, List.getElem?_eq_getElem (by rw [hdm'.out]; exact hlt)]; exact hdl _ (List.getElem_mem _)
                have hfs := flat_store (readTo d m k) (readTo_lens hdl) k (by rw [readTo_len hdm'.out hk]; exact hlt) (d.getD k []) hx64
                rw [readTo_set hdm'.out hlt] at hfs
                have hsz : k * 64 + 64 ≤ (flatD (readTo d m k)).toArray.size := by
                  rw [List.size_toArray, size_flatD _ (readTo_lens hdl), readTo_len hdm'.out hk]; omega
                generalize d.getD k [] = xs at *
                clear rd1 hvis
                go_wp2_with fail
                refine (read_any _ T.live.disk k (by rw [hpe]; simp)).mono ?_
                rintro e w7 ⟨rfl, hd7⟩
                obtain ⟨pvx, T7⟩ := T.done (Nat.le_refl _) ⟨pv', hd7.1, hd7.2, fresh_same _ _⟩
                rw [rd2, rd3]
                have r7 := rowOf_of T7.row
                generalize hrow : (flatD (readTo d m k)).toArray = row at *
                clear hrow
                have hdr : (st'.read k).1.dur = d := by rw [rdd]; exact hde
                have hpr : (st'.read k).1.pend = [] := by rw [hp2]; exact hpe
                generalize (st'.read k).1 = st7 at *
                clear T hd7 rd2 rd3 rdd hp2
                go_wp2_with fail
                go_roundw
                case rel => exact ⟨k + 1, by omega, by go_num, pvx, st7, T7.setRow (Nat.le_refl _), kw2, hpr, hdr⟩
                case measure => simp [intOf]; omega
              · obtain rfl : k = m := by omega
                have hbl : readTo d k k = d := by unfold readTo; rw [Nat.sub_self, List.replicate_zero, List.append_nil, List.take_of_length_le (Nat.le_of_eq hdm'.out)]
                rw [hbl] at T
                clear hbl hlt hk h8
                go_wp2_with fail
                go_loopw [12, 75] (fun v i wr => ∃ j : Nat, j ≤ wl.length ∧ i = .int .i64 j ∧ ∃ pv' st' ao' n' c', v = .slice ao' n' c' ∧ TS w1.heap.size bb D g w1 wr pv' st' d v st'.pend ∧ Works k (-1) st' ∧ st'.pend.length ≤ j ∧ st'.dur = d)
                  (fun _ i _ => wl.length - (intOf i).toNat)
                case atStart => exact ⟨0, Nat.zero_le _, rfl, pv', st', none, 0, 0, rfl, by rw [hpe]; exact T, kw, by rw [hpe]; simp, hde⟩
                case round =>
                  obtain ⟨j, hj, rfl, pv2, st2, ao2, n2, c2, rfl, T2, kw2, hpl2, hde2⟩ := hrel
                  clear T kw hpe hde
                  have hBr : Below w.heap.size w wr := B1.trans (T2.live.below.mono B1.size)
                  by_cases hlt : j < wl.length
                  · obtain ⟨b, o, rfl, hck, hxd⟩ := hwl.get hBr j hlt
                    generalize wl[j] = x at *
                    obtain ⟨xn, xs⟩ := x
                    simp only at hck hxd
                    have hTq := T2.quiet (Nat.le_refl _) ((Below.refl wr.heap.size wr).alloc (Nat.le_refl _) (.cells (wrow xn xs) 46))
                    have hz : zeros.length = 64 := length_zeros
                    have hone : oneCells (wrow xn xs) = true := one_wrow xn xs
                    have w0 := (Array.getElem?_eq_some_iff.1 (wrow_zero xn xs)).2
                    have c0 := heap_alloc_new wr (.cells (wrow xn xs) 46)
                    go_wp2_with (with_reducible refine wpList_load_cells ag_w47 rfl (.tmp 77) rfl b (o + j * 65) rfl (wrow xn xs) (by rw [size_wrow, hxd]) hck ?_)
                    by_cases hin : 0 ≤ xn ∧ xn < k
                    · have fw := free_write kw2 hin xs
                      have fw2 : (st2.write xn xs).2 = 0 := by rw [fw]
                      have fw1 : (st2.write xn xs).1 = { st2 with pend := st2.pend ++ [(xn, xs)], wr := wrap64 (st2.wr + 1) } := by rw [fw]
                      clear fw
                      refine (write_any _ hTq.live.disk xn xs hxd (by omega)).mono ?_
                      rintro e w8 ⟨rfl, hd8⟩
                      rw [fw1] at hd8
                      rw [fw2]
                      have c8 : w8.heap[wr.heap.size]? = some (.cells (wrow xn xs) 46 (0, 0)) := by
                        obtain ⟨pvx, _, hkx, _⟩ := hd8
                        exact (hkx.block _ (lt_of_block c0) (fun h => by have := T2.live.disk.lt _ h; omega)).trans c0
                      obtain ⟨pv3, T8⟩ := hTq.done (Nat.le_refl _) hd8
                      have r8 := rowOf_of c8
                      have l8 := lt_of_block c8
                      have hsize : (wrow xn xs).size = 65 := by rw [size_wrow, hxd]
                      clear hd8 fw1 fw2 T2 hTq c8 c0
                      have T9 := T8.quiet (Nat.le_refl _) ((Below.refl w8.heap.size w8).alloc (Nat.le_refl _) (.cells (wrow xn xs) 46))
                      obtain ⟨i0, hi, hz0, hz1, hz2⟩ := info_parts info_w47
                      have hpl3 : st2.pend.length < 1000000 := by omega
                      clear T8
                      go_wp2_with (at_builtin; refine wpList_append_mine rfl (.tmp 86) (.tmp 88) 41 rfl w1.heap.size 46 i0 _ 65 72 Try.underlying41 hi hz0 hz1 hz2 (by decide) _ _ _ rfl T9.own ⟨w8.heap.size, 0, none⟩ 1 1 (wrow xn xs).toList rfl (by rw [Array.length_toList, size_wrow, hxd]) (by omega) (cells_new w8 (wrow xn xs) _) (by have := one_wrow xn xs; simpa only [oneCells, List.all_eq_true] using this) (by unfold maxLen; omega) (by omega) (by have := T9.live.below.size; omega) ?_; intro g' cap' w' hown' hgrow hnew)
                      have T10 := T9.append (x := (xn, xs)) rfl hown' hgrow hnew
                      go_roundw
                      case rel => exact ⟨j + 1, by omega, by go_num, pv3, _, _, _, _, rfl, T10, ⟨kw2.ok, kw2.left, kw2.len⟩, by simp; omega, hde2⟩
                      case measure => simp [intOf]; omega
                    · have fw : st2.write xn xs = (st2, 2) := by
                        unfold St.write
                        rw [if_pos (by rw [kw2.len]; omega)]
                      have fw2 : (st2.write xn xs).2 = 2 := by rw [fw]
                      have fw1 : (st2.write xn xs).1 = st2 := by rw [fw]
                      clear fw
                      refine (write_any _ hTq.live.disk xn xs hxd (by omega)).mono ?_
                      rintro e w8 ⟨rfl, hd8⟩
                      rw [fw1] at hd8
                      rw [fw2]
                      obtain ⟨pv3, T8⟩ := hTq.done (Nat.le_refl _) hd8
                      clear hd8 fw1 fw2 T2 hTq c0
                      go_wp2_with fail
                      go_roundw
                      case rel => exact ⟨j + 1, by omega, by go_num, pv3, st2, ao2, n2, c2, rfl, T8, kw2, by omega, hde2⟩
                      case measure => simp [intOf]; omega
                  · obtain rfl : j = wl.length := by omega
                    have hn2 := own_len T2.own
                    have hne : decide ((st2.pend.length : Int) ≠ (st2.pend.length : Int)) = false := by simp
                    subst hn2
                    clear hne
                    go_wp2_with fail
                    refine (pending_any _ T2.live.disk).mono ?_
                    rintro e w8 ⟨rfl, rfl⟩
                    have hsr := (hs.below hBr).at (F := foot D g pv2) (fun q hq => Nat.le_trans B1.size (T2.live.ge q hq))
                    have hdn0 := fun x hx => (T2.live.disk.pin x hx).1
                    have hdn64 := T2.live.disk.plen
                    have hdpl : st2.pend.length < 1000000 := by omega
                    go_wp2_with fail
                    refine (crash_any _ T2.live.disk _ sv hsr hdpl (by omega)).mono ?_
                    rintro e w9 ⟨rfl, hd9⟩
                    obtain ⟨pv3, T9⟩ := T2.done (Nat.le_refl _) hd9
                    have k9 := crash_works st2 sv
                    rw [kw2.len] at k9
                    have hp9 : (st2.crash sv).pend = [] := rfl
                    have hd9' : (st2.crash sv).dur = layCrash sv d 0 st2.pend := by rw [← hde2]; rfl
                    have hl9 := T9.live.disk.len
                    rw [hd9'] at hl9
                    generalize st2.crash sv = st9 at *
                    generalize st2.pend = dn at *
                    clear T2 hd9 hsr kw2 hde2 hlt hj
                    go_wp2_with fail
                    have hd2m : (layCrash sv d 0 dn).length = k := by rw [length_layCrash]; exact hdm'.out
                    have law1 := Lib.hid (fun (n j : Nat) (hn : n < k) (ho : ownFrom n 0 dn = [j]) => crash_one sv n dn d 0 j (by rw [hdm'.out]; exact hn) hdn0 ho)
                    have law2 := Lib.hid (fun (n b : Nat) (hn : n < k) (hb : b < 64) => crash_some sv n b hb dn d 0 (by rw [hdm'.out]; exact hn) hdn0 hdn64 (by
                      rw [List.getD_eq_getElem?_getD, List.getElem?_eq_getElem (by rw [hdm'.out]; exact hn)]; exact hdl _ (List.getElem_mem _)))
                    generalize layCrash sv d 0 dn = d2 at *
                    go_loopw [101] (fun i wr => ∃ n : Nat, n ≤ k ∧ i = .int .i64 n ∧ ∃ pv' st', TS w1.heap.size bb D g w1 wr pv' st' d (.slice ao2 dn.length c2) dn ∧ Works k (-1) st' ∧ st'.pend = [] ∧ st'.dur = d2)
                      (fun i _ => k - (intOf i).toNat)
                    case atStart => exact ⟨0, Nat.zero_le _, rfl, pv3, st9, T9, k9, hp9, hd9'⟩
                    case round =>
                      obtain ⟨n, hn, rfl, pv', st', T, kw, hpe, hde⟩ := hrel
                      clear T9 k9 hp9 hd9' hBr
                      by_cases hlt : n < k
                      · obtain ⟨rd1, kw2, hp2⟩ := works_read kw n hlt
                        have rdd := (read_pend st' n).1
                        have hvis := flat_visible hpe n
                        rw [hvis, hde] at rd1
                        have rd2 : (st'.read n).2.1 = d2.getD n [] := by rw [rd1]
                        have rd3 : (st'.read n).2.2 = 0 := by rw [rd1]
                        have hx64 : (d2.getD n []).length = 64 := by
                          rw [List.getD_eq_getElem?_getD, List.getElem?_eq_getElem (by rw [hd2m]; exact hlt)]; exact hl9 _ (List.getElem_mem _)
                        have l1 := Lib.hid (fun j ho => law1.out n j hlt ho)
                        have l2 := Lib.hid (fun b hb => law2.out n b hlt hb)
                        clear rd1 hvis
                        go_wp2_with fail
                        refine (read_any _ T.live.disk n (by rw [hpe]; simp)).mono ?_
                        rintro e w10 ⟨rfl, hd10⟩
                        obtain ⟨pvx, T10⟩ := T.done (Nat.le_refl _) ⟨pv', hd10.1, hd10.2, fresh_same _ _⟩
                        rw [rd2, rd3]
                        have hdr : (st'.read n).1.dur = d2 := by rw [rdd]; exact hde
                        have hpr : (st'.read n).1.pend = [] := by rw [hp2]; exact hpe
                        generalize (st'.read n).1 = st10 at *
                        clear T hd10 rd2 rd3 rdd hp2 kw hpe hde
                        generalize hxx : d2.getD n [] = x at *
                        have hxx' := Lib.hid hxx
                        clear hxx
                        have T11 := T10.quiet (Nat.le_refl _) ((Below.refl w10.heap.size w10).alloc (Nat.le_refl _) (.cells (sec x) 23))
                        have c11 := heap_alloc_new w10 (.cells (sec x) 23)
                        clear T10
                        go_wp2_with fail
                        generalize w10.alloc (.cells (sec x) 23) = W at *
                        generalize w10.heap.size = xb at *
                        have hz : zeros.length = 64 := length_zeros
                        obtain ⟨i0, hi, hz0, hz1, hz2⟩ := info_parts info_int
                        go_loopw [18, 114] (fun v i wr' => ∃ t : Nat, t ≤ dn.length ∧ i = .int .i64 t ∧ ∃ ao' n' c', v = .slice ao' n' c' ∧ wr'.ownsRow W.heap.size 3 1 v (ownFrom n 0 (dn.take t)).length (natInts (ownFrom n 0 (dn.take t))) ∧ Below W.heap.size W wr')
                          (fun _ i _ => dn.length - (intOf i).toNat)
                        case atStart => exact ⟨0, Nat.zero_le _, rfl, none, 0, 0, rfl, World.ownsRow_nil _ _ _ _, Below.refl _ _⟩
                        case round =>
                          obtain ⟨t, ht, rfl, ao4, n4, c4, rfl, hown, hbw⟩ := hrel
                          by_cases hltt : t < dn.length
                          · obtain ⟨q, rfl, _, hql, hck⟩ := writes_cells T11.own hdn64 t hltt
                            have hck2 : ∀ j u, (wrow dn[t].1 dn[t].2).toList[j]? = some u → wr.cell? ⟨q, t * 65 + j, none⟩ = some u := fun j u hu => (hbw.cell (p := ⟨q, t * 65 + j, none⟩) hql).trans (hck j u hu)
                            have hxd := hdn64 _ (List.getElem_mem hltt)
                            have hot := Lib.hid (own_take n dn t hltt)
                            have hol : (ownFrom n 0 (dn.take t)).length ≤ 1000000 := by
                              have h1 := ownFrom_len n (dn.take t) 0
                              have h2 : (dn.take t).length ≤ dn.length := by rw [List.length_take]; omega
                              omega
                            generalize dn[t] = y at *
                            obtain ⟨yn, ys⟩ := y
                            simp only at hck2 hxd
                            have hone : oneCells (wrow yn ys) = true := one_wrow yn ys
                            have w0 := (Array.getElem?_eq_some_iff.1 (wrow_zero yn ys)).2
                            by_cases hyn : yn = n
                            · subst hyn
                              have hot := Lib.hid (hot.out.trans (by rw [if_pos rfl]))
                              generalize ownFrom n 0 (dn.take t) = ol at *
                              go_wp2_with (first | (with_reducible refine wpList_load_cells ag_w47 rfl (.tmp 117) rfl q (t * 65) rfl (wrow (n : Int) ys) (by rw [size_wrow, hxd]) hck2 ?_) | (at_builtin; (refine wpList_append_mine rfl (.tmp 123) (.tmp 125) 25 rfl W.heap.size 3 i0 _ 1 8 Try.underlying25 hi hz0 hz1 hz2 (by decide) _ _ _ rfl ((hown.alloc _).alloc _) ⟨wr.heap.size + 1, 0, none⟩ 1 1 [.int .i64 t] rfl rfl (by omega) (cells_new2 wr _ #[.int .i64 t] _) (by simp [Value.oneCell']) (by unfold maxLen; omega) (by omega) (by have := hbw.size; simp; omega) ?_); intro g' cap' w' hown' hgrow hnew))
                              go_roundw
                              case rel =>
                                refine ⟨t + 1, by omega, by go_num, some ⟨g', 0, none⟩, ol.length + 1, cap', rfl, ?_, ?_⟩
                                · rw [hot.out]
                                  simp only [List.length_append, List.length_cons, List.length_nil, natInts, List.map_append, List.map_cons, List.map_nil, Nat.zero_add]
                                  exact hown'
                                · have hkp := ((Kept.alloc (F := fun b => Value.ownBlock _ = some b) wr (.cells (wrow (n : Int) ys) 46)).trans (Kept.alloc _ _)).trans' (Kept.grown hgrow (fun b hb => hb)) (fun _ _ e => e)
                                  exact hbw.trans (hkp.below _ hbw.size (fun b hb => (hown.lt b hb).1))
                              case measure => simp [intOf]; omega
                            · have hot := Lib.hid (hot.out.trans (by rw [if_neg hyn, List.append_nil]))
                              generalize ownFrom n 0 (dn.take t) = ol at *
                              have hynb : (yn == (n : Int)) = false := by simpa using hyn
                              clear hyn
                              go_wp2_with (with_reducible refine wpList_load_cells ag_w47 rfl (.tmp 117) rfl q (t * 65) rfl (wrow yn ys) (by rw [size_wrow, hxd]) hck2 ?_)
                              go_roundw
                              case rel => exact ⟨t + 1, by omega, by go_num, ao4, n4, c4, rfl, by rw [hot.out]; exact hown.alloc _, hbw.alloc hbw.size _⟩
                              case measure => simp [intOf]; omega
                          · obtain rfl : t = dn.length := by omega
                            rw [List.take_length] at hown
                            have olt := fun j hj => (ownFrom_lt n dn 0 j hj).2
                            simp only [Nat.zero_add] at olt
                            have TV := T11.quiet (Nat.le_refl _) hbw
                            have xc := fun b hb => sec_cell ((hbw.block _ (lt_of_block c11)).trans c11) hx64 b hb
                            have bc := fun b hb => row_cell TV.row hdl n (by rw [hdm'.out]; exact hlt) b hb
                            have hn4 := own_len hown
                            subst hn4
                            have hBv : Below w.heap.size w wr := B1.trans (TV.live.below.mono B1.size)
                            clear hltt ht T11 c11 hbw
                            have hol' := ownFrom_len (n : Int) dn 0
                            generalize ownFrom n 0 dn = ol at *
                            have hbbl := lt_of_block TV.row
                            have hsm8 := hs.below hBv
                            have dc : ∃ q, (0 < dn.length → ao2 = some ⟨q, 0, none⟩) ∧ ∀ j, j < dn.length → ∀ b, b < 64 → wr.cell? ⟨q, j * 65 + 1 + b, none⟩ = some (.int .u8 ((wAt dn j).2.getD b 0)) := by
                              by_cases hd0 : 0 < dn.length
                              · obtain ⟨q, e, _, _, hqc⟩ := own_cells TV.own hd0
                                refine ⟨q, fun _ => e, fun j hj b hb => hqc _ _ ?_⟩
                                rw [Nat.add_assoc, flatP_get dn j hj hdn64 (1 + b) (by omega), show wAt dn j = dn[j] by unfold wAt; rw [List.getD_eq_getElem?_getD, List.getElem?_eq_getElem hj]; rfl]
                                exact wrow_byte _ _ (hdn64 _ (List.getElem_mem hj)) b hb
                              · exact ⟨0, fun h => absurd h hd0, fun j hj => by omega⟩
                            obtain ⟨q, hqa, dc⟩ := dc
                            have rc : ∃ r, (0 < ol.length → ao4 = some ⟨r, 0, none⟩) ∧ ∀ t, t < ol.length → wr.cell? ⟨r, t, none⟩ = some (.int .i64 (ol.getD t 0 : Nat)) := by
                              by_cases hd0 : 0 < ol.length
                              · obtain ⟨r, e, _, _, hrc⟩ := own_cells hown hd0
                                refine ⟨r, fun _ => e, fun t ht => hrc _ _ ?_⟩
                                simp [natInts, List.getD, ht]
                              · exact ⟨0, fun h => absurd h hd0, fun t ht => by omega⟩
                            obtain ⟨r, hra, rc⟩ := rc
                            have olt' : ∀ t, t < ol.length → ol.getD t 0 < dn.length := fun t ht => by
                              rw [List.getD_eq_getElem?_getD, List.getElem?_eq_getElem ht]; exact olt _ (List.getElem_mem ht)
                            have hBy : Bytes wr xb bb q r k n x (d.getD n []) dn ol ao2 ao4 := ⟨hqa, hra, xc, bc, dc, rc, olt', hlt⟩
                            have hlaw6 : Hid (∀ b, b < 64 → knownTo x (d.getD n []) dn ol b ol.length = true) := Lib.hid (fun b hb => by
                              unfold knownTo
                              rw [List.take_length]
                              rcases l2.out b hb with h | ⟨j, hj, h⟩
                              · rw [h]; simp
                              · rw [Nat.sub_zero] at h
                                rw [Bool.or_eq_true, List.any_eq_true]
                                exact .inr ⟨j, hj, by rw [h]; simp⟩)
                            have holl : ol.length ≤ dn.length := hol'
                            clear hqa hra dc rc olt olt' xc bc
                            by_cases ho1 : ol.length = 1
                            case' pos =>
                              obtain ⟨j, rfl⟩ := List.length_eq_one_iff.1 ho1
                              have hj := hBy.olt 0 (by simp)
                              obtain rfl := hBy.ra (by simp)
                              obtain rfl := hBy.qa (by omega)
                              have rc0 := hBy.oc 0 (by simp)
                              simp only [List.getD_eq_getElem?_getD, List.getElem?_cons_zero, Option.getD_some] at hj rc0
                              have law := l1.out j rfl
                              rw [Nat.sub_zero] at law
                              generalize hkk : surv sv j = kk at *
                              have hk64 : kk ≤ 64 := by rw [← hkk]; exact surv_le sv j
                              have hj64 : (wAt dn j).2.length = 64 := by unfold wAt; rw [List.getD_eq_getElem?_getD, List.getElem?_eq_getElem hj]; exact hdn64 _ (List.getElem_mem hj)
                              have lawb : Hid (∀ b, b < 64 → x.getD b 0 = if b < kk then (wAt dn j).2.getD b 0 else (d.getD n []).getD b 0) := Lib.hid (fun b (hb : b < 64) => by
                                rw [law]; exact overlay_get (d.getD n []) (wAt dn j).2 kk b hj64 hk64)
                              have hBy' := Lib.hid hBy
                              clear hBy law
                              by_cases hjs : j < sv.length
                              case' neg => obtain rfl : kk = 0 := by unfold surv at hkk; rw [if_neg hjs] at hkk; omega
                              case' pos =>
                                have hsv : few64 (sv.getD j 0) = kk := by rw [← hkk]; unfold surv; rw [if_pos hjs]
                                obtain ⟨ao', cap', e, hsat⟩ := hsm8
                                injection e with e1 e2 e3
                                subst e1 e3
                                obtain ⟨b0, o, rfl, hbB, hsc⟩ := hsat (by omega)
                                have hsc1 := hsc j hjs
                                generalize sv.getD j 0 = y at *
                                clear hsc hsat
                                by_cases hy0 : y < 0
                                case' pos => obtain rfl : kk = 0 := by unfold few64 at hsv; omega
                                case' neg =>
                                  by_cases hy1 : 64 < y
                                  case' neg => obtain rfl : y = (kk : Nat) := by unfold few64 at hsv; omega
                                  case' pos => obtain rfl : kk = 64 := by unfold few64 at hsv; omega
                              all_goals
                                go_wp2_with fail
                                refine torn_loop5 _ xb bb q r k n _ _ _ _ j x (d.getD n []) dn _ _ _ rfl rfl hBy'.out lawb.out _ ?_
                                intros
                                rename_i w11 hb11
                                have hBz := hBy'.out.below hb11
                                go_wp2_with fail
                                refine torn_loop6 _ xb bb q r k n _ _ _ x (d.getD n []) dn [j] _ _ rfl hBz (by simp) hlaw6.out _ ?_
                                intros
                                rename_i w12 hb12
                                have hb13 := hb11.trans (hb12.mono hb11.size)
                                go_wp2_with fail
                                refine ⟨?rel, ?measure⟩
                                case rel => exact ⟨n + 1, by omega, by go_num, pvx, st10, TV.quiet (Nat.le_refl _) hb13, kw2, hpr, hdr⟩
                                case measure => simp [intOf]; omega
                            case' neg =>
                              go_wp2_with fail
                              refine torn_loop6 _ xb bb q r k n _ _ _ x (d.getD n []) dn ol _ _ rfl hBy (by omega) hlaw6.out _ ?_
                              intros
                              rename_i w12 hb12
                              go_wp2_with fail
                              refine ⟨?rel, ?measure⟩
                              case rel => exact ⟨n + 1, by omega, by go_num, pvx, st10, TV.quiet (Nat.le_refl _) hb12, kw2, hpr, hdr⟩
                              case measure => simp [intOf]; omega
                      · obtain rfl : n = k := by omega
                        go_wp2
                        go_ret
                        exact ⟨rfl, B1.trans (T.live.below.mono B1.size)⟩
        · go_wp2
          go_ret
          exact ⟨rfl, B1⟩
      · have hd60 : decide ((60 : Int) < (sv.length : Int)) = true := by simp; omega
        go_wp2
        go_ret
        exact ⟨rfl, B1⟩
    · have hd12 : decide ((12 : Int) < (wl.length : Int)) = true := by simp; omega
      go_wp2
      go_ret
      exact ⟨rfl, B1⟩
  · have hfew' : fewB l 30 = false := by simpa using hfew
    clear hfew
    go_wp2
    go_ret
    exact ⟨rfl, B1⟩
end Go.Proofs.Ytakehkoicinlbaa.dk
