/- What Open finds on the disk of WalTorn. No program is walked here. -/
import Derived.Test.YtlhnhhjpjkgogaaWTornPlain
import Derived.Test.YtlhnhhjpjkgogaaWFilled
import Derived.Test.YtlhnhhjpjkgogaaWAwake
namespace Go.Proofs.Ytlhnhhjpjkgogaa.wl
open Go.RowKit Go.Proofs.Ytlhnhhjpjkgogaa.agg Go.Proofs.Ytlhnhhjpjkgogaa.dk

theorem write_fine (st : St) (n : Nat) (d : List Int) (hf : st.failed = false) (hl : st.left = -1) (hn : n < st.dur.length) :
    (st.write n d).1 = { st with pend := st.pend ++ [((n : Int), d)], wr := wrap64 (st.wr + 1) } := by
  have hc : st.call = st := by
    unfold St.call
    rw [if_neg (by simp [hf]), if_neg (by omega), if_neg (by omega)]
  unfold St.write
  rw [if_neg (by omega), hc, if_neg (by simp [hf])]
theorem fillK_shape (secs : List (List Int)) : ∀ k, k ≤ secs.length → (fillK secs k).failed = false ∧ (fillK secs k).left = -1 ∧ (fillK secs k).dur = List.replicate secs.length zeros ∧ (fillK secs k).pend = (List.range k).map (fun i : Nat => ((i : Int), secs.getD i []))
  | 0, _ => ⟨rfl, rfl, rfl, rfl⟩
  | k + 1, hk => by
    obtain ⟨h1, h2, h3, h4⟩ := fillK_shape secs k (by omega)
    have hw := write_fine (fillK secs k) k (secs.getD k []) h1 h2 (by rw [h3]; simp; omega)
    simp only [fillK, hw]
    refine ⟨h1, h2, h3, ?_⟩
    rw [h4, List.range_succ, List.map_append]
    rfl
theorem layAll_fill (secs : List (List Int)) (hs : ∀ s ∈ secs, s.length = 64) : ∀ k, k ≤ secs.length → layAll (List.replicate secs.length zeros) ((List.range k).map (fun i : Nat => ((i : Int), secs.getD i []))) = secs.take k ++ List.replicate (secs.length - k) zeros
  | 0, _ => by simp [layAll]
  | k + 1, hk => by
    have ih := layAll_fill secs hs k (by omega)
    have hkl : k < secs.length := by omega
    have hsk : (secs.getD k []).length = 64 := hs _ (by rw [List.getD_eq_getElem?_getD, List.getElem?_eq_getElem hkl]; exact List.getElem_mem _)
    rw [List.range_succ, List.map_append, List.map_singleton, layAll_snoc, ih]
    unfold lay
    simp only [Int.toNat_natCast]
    have htl : (secs.take k).length = k := by simp; omega
    have hov : ∀ o : List Int, overlay o (secs.getD k []) (few64 64) = secs.getD k [] ++ o.drop 64 := by
      intro o
      unfold overlay
      rw [show few64 64 = 64 from rfl, List.take_of_length_le (by omega)]
    rw [show secs.length - k = (secs.length - (k + 1)) + 1 by omega, List.replicate_succ, List.set_append_right _ _ (by omega), htl, Nat.sub_self, List.set_cons_zero]
    have hg : (secs.take k ++ zeros :: List.replicate (secs.length - (k + 1)) zeros).getD k [] = zeros := by
      rw [List.getD_eq_getElem?_getD, List.getElem?_append_right (by omega), htl, Nat.sub_self]
      rfl
    rw [hg, hov, List.drop_of_length_le (by rw [length_zeros]; omega), List.append_nil, List.take_succ_eq_append_getElem hkl, List.append_assoc]
    congr 1
    rw [List.singleton_append]
    congr 1
    rw [List.getD_eq_getElem?_getD, List.getElem?_eq_getElem hkl]
    rfl
theorem fill_shape (secs : List (List Int)) (hs : ∀ s ∈ secs, s.length = 64) : (fillSt secs).failed = false ∧ (fillSt secs).left = -1 ∧ (fillSt secs).dur = secs ∧ (fillSt secs).pend = [] := by
  obtain ⟨h1, h2, h3, h4⟩ := fillK_shape secs secs.length (Nat.le_refl _)
  have hc : (fillK secs secs.length).call = fillK secs secs.length := by
    unfold St.call
    rw [if_neg (by simp [h1]), if_neg (by omega), if_neg (by omega)]
  unfold fillSt St.flush
  rw [hc, if_neg (by simp [h1])]
  refine ⟨h1, h2, ?_, rfl⟩
  show layAll _ _ = _
  rw [h3, h4, layAll_fill secs hs _ (Nat.le_refl _)]
  simp
theorem fill_visible (secs : List (List Int)) (hs : ∀ s ∈ secs, s.length = 64) (i : Nat) : (fillSt secs).visible i = secs.getD i [] := by
  obtain ⟨_, _, h3, h4⟩ := fill_shape secs hs
  unfold St.visible lastTo
  rw [h4, h3]
  rfl
/-- The contents in WalTorn. -/
def tornSecs (s : List Int) : List (List Int) := [(⟨1, 0, 3, ⟨#[0]⟩⟩ : Fr).sec, zeros, s, zeros, zeros, zeros, zeros, zeros]
def f0 : Fr := ⟨1, 0, 3, ⟨#[0]⟩⟩
theorem good0 : f0.Good := ⟨by decide, by decide, by decide, by decide⟩
theorem zeros_no : (parseFr zeros).2 = false := by decide +kernel
theorem zeros_sec : IsSec zeros := isSec_ok (by decide +kernel)
theorem torn_lens {s : List Int} (h : IsSec s) : ∀ x ∈ tornSecs s, x.length = 64 := by
  intro x hx
  simp only [tornSecs, List.mem_cons, List.not_mem_nil, or_false] at hx
  rcases hx with rfl | rfl | rfl | rfl | rfl | rfl | rfl | rfl
  · exact Fr.length_sec _ (by decide)
  all_goals first | exact length_zeros | exact h.len
theorem torn_secs {s : List Int} (h : IsSec s) (i : Nat) (hi : i < 8) : IsSec ((fillSt (tornSecs s)).visible i) := by
  rw [fill_visible _ (torn_lens h)]
  have : i = 0 ∨ i = 1 ∨ i = 2 ∨ i = 3 ∨ i = 4 ∨ i = 5 ∨ i = 6 ∨ i = 7 := by omega
  rcases this with rfl | rfl | rfl | rfl | rfl | rfl | rfl | rfl
  · exact good0.isSec
  · exact zeros_sec
  · exact h
  all_goals exact zeros_sec
theorem torn_scan {s : List Int} (h : IsSec s) : scan (fillSt (tornSecs s)).visible 8 = if (parseFr s).2 = true then ⟨[(0, f0), (2, (parseFr s).1)], max 1 (parseFr s).1.epoch, 0, 0⟩ else ⟨[(0, f0)], 1, 0, 0⟩ := by
  have hv := fill_visible (tornSecs s) (torn_lens h)
  have v0 : (fillSt (tornSecs s)).visible ((0 : Nat) : Int) = f0.sec := hv 0
  have v1 : (fillSt (tornSecs s)).visible ((1 : Nat) : Int) = zeros := hv 1
  have v2 : (fillSt (tornSecs s)).visible ((2 : Nat) : Int) = s := hv 2
  have v3 : (fillSt (tornSecs s)).visible ((3 : Nat) : Int) = zeros := hv 3
  have v4 : (fillSt (tornSecs s)).visible ((4 : Nat) : Int) = zeros := hv 4
  have v5 : (fillSt (tornSecs s)).visible ((5 : Nat) : Int) = zeros := hv 5
  have v6 : (fillSt (tornSecs s)).visible ((6 : Nat) : Int) = zeros := hv 6
  have v7 : (fillSt (tornSecs s)).visible ((7 : Nat) : Int) = zeros := hv 7
  have hz : ∀ (x : Sc) (i : Nat), x.step i zeros = x := by
    intro x i
    unfold Sc.step
    rw [if_neg (by simp [zeros_no])]
  have h0 : Sc.zero.step 0 f0.sec = ⟨[(0, f0)], 1, 0, 0⟩ := by
    have ht : Sc.zero.takes 0 f0 = true := by decide +kernel
    unfold Sc.step
    rw [parse_sec good0, if_pos rfl, if_pos ht]
    rfl
  simp only [scan]
  rw [v0, v1, v2, v3, v4, v5, v6, v7, h0]
  simp only [hz]
  unfold Sc.step
  by_cases hp : (parseFr s).2 = true
  · rw [if_pos hp, if_pos hp, if_neg (by simp [Sc.takes])]
    rfl
  · rw [if_neg hp, if_neg hp]
def o0 : Op' := ⟨[], 1, ⟨#[]⟩, false, 0⟩
/-- What Open finds in WalTorn. -/
def tornRecs (s : List Int) : List ByteArray := if (parseFr s).2 = true ∧ (parseFr s).1.pos = 0 ∧ (parseFr s).1.kind = 3 then [(parseFr s).1.data] else []
theorem parse_epoch {s : List Int} (h : (parseFr s).2 = true) : 1 ≤ (parseFr s).1.epoch := by
  unfold parseFr at h ⊢
  split
  · rename_i hq; rw [if_pos hq] at h; simp at h
  · rename_i hq
    simp only
    omega
theorem empty_append (d : ByteArray) : (⟨#[]⟩ : ByteArray) ++ d = d := by
  apply ByteArray.ext
  rw [ByteArray.data_append]
  simp
theorem run_break_none {m : List (Nat × Fr)} {pl : Nat → Int} {t i : Nat} {o : Op'} (h : getFr m (pl i) = none) : openRun m pl t i o = o := by
  cases t with
  | zero => rfl
  | succ t => exact openRun_break (by rw [h]; rfl)
theorem next_end {o : Op'} {f : Fr} {i : Nat} (h : ends f.kind = true) : o.next f i = ⟨o.recs ++ [o.part ++ f.data], f.epoch, ⟨#[]⟩, false, i + 1⟩ := by unfold Op'.next; rw [if_pos h]
theorem next_mid {o : Op'} {f : Fr} {i : Nat} (h : ends f.kind = false) : o.next f i = ⟨o.recs, f.epoch, o.part ++ f.data, true, o.fin⟩ := by unfold Op'.next; rw [if_neg (by simp [h])]
theorem torn_run {s : List Int} {m : List (Nat × Fr)} {pl : Nat → Int} (h2 : getFr m (pl 0) = if (parseFr s).2 = true then some (parseFr s).1 else none) (h3 : getFr m (pl 1) = none) : (openRun m pl 3 0 o0).recs = tornRecs s := by
  unfold tornRecs
  by_cases hp : (parseFr s).2 = true
  · rw [if_pos hp] at h2
    have he := parse_epoch hp
    generalize (parseFr s).1 = f at *
    cases hb : breaks (some f) 0 o0
    · rw [openRun_next (by rw [h2]; exact hb), run_break_none h3, h2]
      unfold breaks at hb
      simp only [Bool.or_eq_false_iff, decide_eq_false_iff_not, o0] at hb
      obtain ⟨⟨⟨hb1, hb2⟩, hb3⟩, hb4⟩ := hb
      have hpos : f.pos = 0 := by simpa using hb1
      have hbeg : begins f.kind = true := by
        cases hq : begins f.kind
        · rw [hq] at hb3; simp at hb3
        · rfl
      unfold begins at hbeg
      simp only [Bool.or_eq_true, decide_eq_true_eq] at hbeg
      rw [Option.getD_some]
      by_cases hk : f.kind = 3
      · rw [next_end (by simp [ends, hk]), if_pos ⟨hp, hpos, hk⟩]
        show [] ++ [(⟨#[]⟩ : ByteArray) ++ f.data] = _
        rw [empty_append]
        rfl
      · have hk1 : f.kind = 1 := by omega
        rw [next_mid (by simp [ends, hk1]), if_neg (fun h => hk h.2.2)]
        rfl
    · rw [openRun_break (by rw [h2]; exact hb), if_neg]
      · rfl
      · rintro ⟨_, hpos, hk⟩
        have hno : breaks (some f) 0 o0 = false := by
          unfold breaks begins o0
          have h1 : ¬ f.epoch < 1 := by omega
          simp [hpos, hk, h1]
        rw [hno] at hb
        simp at hb
  · rw [if_neg hp] at h2
    rw [run_break_none h2, if_neg (fun h => hp h.1)]
    rfl
theorem torn_open {w : World} {D g : Nat} {pv : Value} {s : List Int} (hs : IsSec s) (hgr : (parseFr s).2 = true → (parseFr s).1.epoch < 4294967295) (h : DiskIn w D g pv (fillSt (tornSecs s))) :
    Calls Try.prog 12 #[.pointer (some ⟨D, 0, none⟩)] w fun e w' => ∃ L rv cap, e = .returned (.tuple #[.pointer (some ⟨L, 0, none⟩), .slice rv (tornRecs s).length cap, .int .i64 0]) ∧ StrsIn w' (.slice rv (tornRecs s).length cap) (tornRecs s) ∧ Kept (foot D g pv) w w' := by
  obtain ⟨k1, k2, k3, k4⟩ := fill_shape (tornSecs s) (torn_lens hs)
  have hn : (fillSt (tornSecs s)).dur.length = 8 := by rw [k3]; rfl
  have hsz : sizeOf' (fillSt (tornSecs s)) = 3 := by unfold sizeOf'; rw [hn]; rfl
  have hsc := torn_scan hs
  have hblk : (scan (fillSt (tornSecs s)).visible 8).block = 0 ∧ (scan (fillSt (tornSecs s)).visible 8).area = 0 ∧ 0 ≤ (scan (fillSt (tornSecs s)).visible 8).greatest ∧ (scan (fillSt (tornSecs s)).visible 8).greatest < 4294967295 ∧ ((getFr (scan (fillSt (tornSecs s)).visible 8).m 0).getD Fr.none).epoch = 1 ∧ getFr (scan (fillSt (tornSecs s)).visible 8).m 2 = (if (parseFr s).2 = true then some (parseFr s).1 else none) ∧ getFr (scan (fillSt (tornSecs s)).visible 8).m 3 = none := by
    rw [hsc]
    by_cases hp : (parseFr s).2 = true
    · have h1 := hgr hp
      have h2 := parse_epoch hp
      rw [if_pos hp, if_pos hp]
      refine ⟨rfl, rfl, ?_, ?_, rfl, rfl, rfl⟩ <;> simp only <;> omega
    · rw [if_neg hp, if_neg hp]
      exact ⟨rfl, rfl, by simp, by simp, rfl, rfl, rfl⟩
  obtain ⟨b1, b2, b3, b4, b5, b6, b7⟩ := hblk
  have hpl : ∀ i : Nat, placeOf (fillSt (tornSecs s)) 0 i = 2 + (i : Int) := by
    intro i
    unfold placeOf
    rw [hsz]
    omega
  have hrun : (openRun (scan (fillSt (tornSecs s)).visible 8).m (fun i : Nat => placeOf (fillSt (tornSecs s)) 0 i) 3 0 o0).recs = tornRecs s := torn_run (by show getFr _ (placeOf _ 0 ((0 : Nat) : Int)) = _; rw [hpl]; exact b6) (by show getFr _ (placeOf _ 0 ((1 : Nat) : Int)) = _; rw [hpl]; exact b7)
  have := open_walk h (by rw [hn]; omega) k1 (by rw [hn]; exact torn_secs hs) (by rw [k4]; simp) (by rw [hn, b1]; omega) (by rw [hn]; exact ⟨b3, b4⟩) (by rw [hn, b2]; exact .inl rfl) _ rfl
  refine this.mono ?_
  rintro e w' ⟨L, rv, rfl, hl, hown, hk, hL, hne⟩
  rw [hn, b1, b2, b5, hsz] at hown
  change w'.ownsRow w.heap.size 9 1 rv (openRun (scan (fillSt (tornSecs s)).visible 8).m (fun i : Nat => placeOf (fillSt (tornSecs s)) 0 i) 3 0 o0).recs.length ((openRun (scan (fillSt (tornSecs s)).visible 8).m (fun i : Nat => placeOf (fillSt (tornSecs s)) 0 i) 3 0 o0).recs.map Value.string) at hown
  rw [hrun] at hown
  obtain ⟨ao, cap, rfl⟩ := own_form hown
  exact ⟨L, ao, cap, rfl, strs_own hown, hk⟩
end Go.Proofs.Ytlhnhhjpjkgogaa.wl
