/- The walk of the examples of the chapter (awake). -/
import Derived.Test.YtlhnhhjpjkgogaaWEx
import Derived.Test.YtlhnhhjpjkgogaaWRead
import Derived.Test.YtlhnhhjpjkgogaaWSame
import Derived.Test.YtlhnhhjpjkgogaaWRep
import Derived.Test.YtlhnhhjpjkgogaaDNew
import Derived.Test.YtlhnhhjpjkgogaaDRead
namespace Go.Proofs.Ytlhnhhjpjkgogaa.wl
open Go.RowKit Go.Proofs.Ytlhnhhjpjkgogaa.agg Go.Proofs.Ytlhnhhjpjkgogaa.dk
set_option linter.unusedSimpArgs false
set_option linter.unusedVariables false

set_option maxHeartbeats 400000 in
theorem epoch_any {w : World} {L D g : Nat} {pv : Value} {st : St} {l : Lg} (h : LogIn w L D g pv st l) :
    Calls Try.prog 27 #[.pointer (some ⟨L, 0, none⟩)] w fun e w' => e = .returned (.int .i64 l.epoch) ∧ w = w' := by
  have c1 := h.cell.2.1
  go_enter Try.func27, Try.ntmps27
  go_wp2
  go_ret
  exact ⟨rfl, rfl⟩
/-- Strings that a slice of one's own holds are read. -/
theorem strs_own {w : World} {base : Nat} {v : Value} {l : List ByteArray} (h : w.ownsRow base 9 1 v l.length (l.map Value.string)) : StrsIn w v l := by
  obtain ⟨ao, cap, rfl⟩ := own_form h
  refine ⟨ao, cap, rfl, fun j hj => ?_⟩
  rcases h.2 with ⟨e, h0⟩ | ⟨g, cap', cur, e, hg, hh, _, _, _, ht⟩
  · omega
  · cases e
    refine ⟨g, 0, rfl, ?_⟩
    rw [Nat.zero_add, cell_of_row _ _ _ _ _ _ hh]
    have h1 : (l.map Value.string)[j]? = some (.string l[j]) := by simp [hj]
    rw [← ht, List.getElem?_take_of_lt (by omega)] at h1
    simpa using h1
theorem lstep {B L D g : Nat} {pv pv' : Value} {w w' : World} (hl : ∀ k, lfoot L D g pv k → B ≤ k) (hB : B ≤ w.heap.size) (hk : Kept (lfoot L D g pv) w w') (hf : Fresh w pv pv') : (∀ k, lfoot L D g pv' k → B ≤ k) ∧ Below B w w' := by
  refine ⟨?_, hk.below B hB hl⟩
  rintro k (h | h | h | h)
  · exact hl k (.inl h)
  · exact hl k (.inr (.inl h))
  · exact hl k (.inr (.inr (.inl h)))
  · rcases hf k h with h' | h'
    · exact hl k (.inr (.inr (.inr h')))
    · omega
theorem ex_sec0 : ∀ i : Nat, i < 10 → IsSec ((St.new 10).visible i) := fun i hi => isSec_ok (List.all_eq_true.1 ex_secs.1 i (List.mem_range.2 hi))
theorem ex_sec1 : ∀ i : Nat, i < 10 → IsSec (ex1.visible i) := fun i hi => isSec_ok (List.all_eq_true.1 ex_secs.2.1 i (List.mem_range.2 hi))
theorem ex_sec5 : ∀ i : Nat, i < 10 → IsSec (ex5.visible i) := fun i hi => isSec_ok (List.all_eq_true.1 ex_secs.2.2 i (List.mem_range.2 hi))
/-- Create, of the examples' disk. -/
theorem ex_create {w : World} {D g : Nat} {pv : Value} (h : DiskIn w D g pv (St.new 10)) : Calls Try.prog 15 #[.pointer (some ⟨D, 0, none⟩)] w (CreateEnd w D g pv ex1 ⟨1, 0, 0, 0, 0⟩) := by
  have hn : (St.new 10).dur.length = 10 := rfl
  have := create_walk h (by rw [hn]; omega) rfl (by rw [hn]; exact ex_sec0) (by decide) (by rw [hn, ex_scan0.1]; omega) (by rw [hn, ex_scan0.2]; omega) (by rw [hn, ex_scan0.2]; exact ex_root)
  rw [hn, ex_scan0.2] at this
  exact this
theorem ex_openA {w : World} {D g : Nat} {pv : Value} (h : DiskIn w D g pv ex1) : Calls Try.prog 12 #[.pointer (some ⟨D, 0, none⟩)] w (OpenEnd w D g pv ex2 exA (exR ex1).recs) := by
  obtain ⟨hn, _, hp, _, _, _, _, _, hf, _⟩ := ex_len
  obtain ⟨s1, s2, s3⟩ := ex_scan1
  have := open_walk h (by rw [hn]; omega) hf (by rw [hn]; exact ex_sec1) (by rw [hp]; omega) (by rw [hn, s1]; omega) (by rw [hn, s2]; omega) (by rw [hn, s3]; exact .inl rfl) (exR ex1) (by rw [hn]; rfl)
  rw [hn, s1, s2, s3, ex_open1.2] at this
  exact this
theorem ex_openB {w : World} {D g : Nat} {pv : Value} (h : DiskIn w D g pv ex5) : Calls Try.prog 12 #[.pointer (some ⟨D, 0, none⟩)] w (OpenEnd w D g pv (reads ex5 10) ⟨3, 0, 0, 1, 0⟩ (exR ex5).recs) := by
  obtain ⟨_, hn, _, hp, _, _, _, _, _, hf, _⟩ := ex_len
  obtain ⟨s1, s2, s3⟩ := ex_scan5
  have := open_walk h (by rw [hn]; omega) hf (by rw [hn]; exact ex_sec5) (by rw [hp]; omega) (by rw [hn, s1]; omega) (by rw [hn, s2]; omega) (by rw [hn, s3]; exact .inl rfl) (exR ex5) (by rw [hn]; rfl)
  rw [hn, s1, s2, s3, ex_open5.2] at this
  exact this
theorem ex_recs : (exR ex5).recs = [⟨#[97]⟩] := by
  have h := ex_open5.1
  generalize (exR ex5).recs = l at h
  cases l with
  | nil => simp at h
  | cons a l =>
    simp at h
    obtain ⟨h1, rfl⟩ := h
    obtain ⟨⟨x⟩⟩ := a
    simp at h1
    subst h1
    rfl
theorem ex_recsA : (exR ex1).recs = [] := List.eq_nil_of_length_eq_zero ex_open1.1

set_option maxRecDepth 100000 in
set_option maxHeartbeats 4000000 in
theorem awake_walk (w : World) : Calls Try.prog 8 #[] w fun e w' => e = .returned (.bool true) ∧ Below w.heap.size w w' := by
  go_enter Try.func8, Try.ntmps8
  go_wp2_with fail
  refine (new_any 10 (by omega) (by omega) w).mono ?_
  rintro e w1 ⟨D, g, rfl, hd1, hb1, hD, hg⟩
  have hl1 : ∀ k, foot D g (.slice none 0 0) k → w.heap.size ≤ k := by
    rintro k (rfl | rfl | hk)
    · exact hD
    · exact hg
    · simp [Value.ownBlock] at hk
  go_wp2_with fail
  refine (ex_create hd1).mono ?_
  rintro e w2 ⟨L1, pv2, rfl, hg2, hk2, hf2, hL1⟩
  obtain ⟨hl2, hbb2⟩ := live_step hl1 hb1.size hk2 hf2
  have hb2 := hb1.trans hbb2
  have hsz : sizeOf' ex1 = 4 := ex_len.2.2.2.2.2.2.2.2.2.2
  have hfree : ∀ W, LogIn W L1 D g pv2 ex1 ⟨1, 0, 0, 0, 0⟩ → Calls Try.prog 28 #[.pointer (some ⟨L1, 0, none⟩)] W fun e w' => e = .returned (.int .i64 4) ∧ Below W.heap.size W w' := by
    intro W h
    have := free_any h (by simp)
    rw [hsz] at this
    exact this
  have hfree' := Lib.hid hfree
  clear hsz hfree hl1 hd1 hk2 hf2 hbb2
  go_wp2_with (first
    | (go_at_call 28; refine (hfree'.out _ hg2).mono ?_; rintro e w3 ⟨rfl, hb3⟩; have hg3 := hg2.below hb3)
    | (go_at_call 27; refine (epoch_any hg3).mono ?_; rintro e w4 ⟨rfl, rfl⟩)
    | (go_at_call 12; refine (ex_openA hg3.disk).mono ?_; rintro e w5 ⟨L2, rv, rfl, hg5, hown5, hk5, hL2, hne5⟩; rw [ex_recsA] at hown5; obtain ⟨ao5, cap5, rfl⟩ := own_form hown5))
  obtain ⟨hl5, hbb5⟩ := live_step hl2 (by have := hb2.size; have := hb3.size; omega) hk5 (fresh_same _ _)
  have hb5 : Below w.heap.size w w5 := (hb2.trans (hb3.mono hb2.size)).trans hbb5
  have hlL : ∀ k, lfoot L2 D g pv2 k → w.heap.size ≤ k := by
    rintro k (rfl | hk)
    · have := hb2.size; have := hb3.size; omega
    · exact hl5 k hk
  have happ : Calls Try.prog 17 #[.pointer (some ⟨L2, 0, none⟩), .string ⟨#[97]⟩] w5 (LogEnd w5 L2 D g pv2 ex3) := append_walk hg5 ⟨#[97]⟩ (by decide) (.inl rfl) (by decide) (by rw [ex_len.2.2.2.2.2.1]; omega)
  have happ' := Lib.hid happ
  have hep : exA.epoch = 2 := rfl
  have hg5' := Lib.hid hg5
  have hb5' := Lib.hid hb5
  have hlL' := Lib.hid hlL
  clear happ hl2 hg2 hb2 hb3 hg3 hk5 hl5 hbb5 hb5 hlL hown5 hg5 hfree' hb1
  go_wp2_with (first
    | (go_at_call 27; refine (epoch_any hg5'.out).mono ?_; rintro e w6 ⟨rfl, rfl⟩; rw [hep])
    | (go_at_call 17; refine (happ'.out).mono ?_; rintro e w7 ⟨pv7, rfl, hg7, hk7, hf7⟩; obtain ⟨hl7, hb7⟩ := lstep hlL'.out hb5'.out.size hk7 hf7; rw [ex_app.1])
    | (go_at_call 21; refine (sync_walk hg7 (by have := ex_len.2.2.2.2.2.2.1; omega)).mono ?_; rintro e w8 ⟨pv8, rfl, hg8, hk8, hf8⟩; obtain ⟨hl8, hb8⟩ := lstep hl7 (by have := hb5'.out.size; have := hb7.size; omega) hk8 hf8; change LogIn w8 L2 D g pv8 ex4.1 ex4.2.1 at hg8; rw [show (syncLg ex3.1 ex3.2.1).2.2 = 0 from ex_syn]))
  have hb8' : Below w.heap.size w w8 := (hb5'.out.trans (hb7.mono (by exact Nat.le_refl _))).trans hb8
  have hl8d : ∀ k, foot D g pv8 k → w.heap.size ≤ k := fun k hk => hl8 k (.inr hk)
  obtain ⟨X, hX⟩ : ∃ X, X = (⟨2, 0, 3, ⟨#[97]⟩⟩ : Fr).sec := ⟨_, rfl⟩
  have hXl : X.length = 64 := by rw [hX]; exact Fr.length_sec _ (by decide)
  have hrd : Calls Try.prog 37 #[.pointer (some ⟨D, 0, none⟩), .int .i64 2] w8 fun e w' => e = .returned (.tuple #[.agg (sec X), .int .i64 0]) ∧ DiskIn w' D g pv8 ex5 ∧ Kept (foot D g pv8) w8 w' := by
    have := read_any w8 hg8.disk 2 (by rw [ex_len.2.2.2.2.2.2.2.1]; omega)
    rw [ex_read.1, ex_read.2, ← hX] at this
    exact this
  have hrd' := Lib.hid hrd
  have hX' := Lib.hid hX
  clear hrd hX hg7 hk7 hf7 hl7 hb7 hg8 hk8 hf8 hl8 hb8 hg5' hlL' hb5' happ'
  go_wp2_with (first
    | (go_at_call 37; refine (hrd'.out).mono ?_; rintro e w9 ⟨rfl, hd9, hk9⟩)
    | (go_at_call 12; have hd10 : DiskIn (w9.alloc (.cells (sec X) 26)) D g pv8 ex5 := hd9.kept (Kept.of_below (F := fun _ => False) ((Below.refl _ _).alloc (Nat.le_refl _) _)) (fun _ _ => id); refine (ex_openB hd10).mono ?_; rintro e w11 ⟨L3, rv, rfl, hg11, hown11, hk11, hL3, hne11⟩; rw [ex_recs] at hown11; obtain ⟨ao, cap, rfl⟩ := own_form hown11))
  have hs11 := strs_own hown11
  have hB11 : w11.heap[w9.heap.size]? = some (.cells (sec X) 26 (0, 0)) := (hk11.block _ (by simp) (fun e => by have := hd9.lt _ e; omega)).trans (heap_alloc_new w9 _)
  have hb11 : Below w.heap.size w w11 := by
    have e1 := hk9.below w.heap.size hb8'.size hl8d
    have e2 := hk11.below w.heap.size (by have := hb8'.size; have := e1.size; simp; omega) hl8d
    exact ((hb8'.trans e1).alloc (by have := hb8'.size; have := e1.size; omega) _).trans e2
  have hmore : ∀ u u', (StrsIn u (.slice ao 1 cap) [⟨#[97]⟩] ∧ u.heap[w9.heap.size]? = some (.cells (sec X) 26 (0, 0))) → Below u.heap.size u u' → (StrsIn u' (.slice ao 1 cap) [⟨#[97]⟩] ∧ u'.heap[w9.heap.size]? = some (.cells (sec X) 26 (0, 0))) := by
    rintro u u' ⟨⟨ao1, cap1, e, hc⟩, h2⟩ hb
    refine ⟨⟨ao1, cap1, e, fun q hq => ?_⟩, (hb.block _ (lt_of_block h2)).trans h2⟩
    obtain ⟨b1, o1, e1, c1⟩ := hc q hq
    exact ⟨b1, o1, e1, (hb.cell (World.block_lt_of_cell? _ _ c1)).trans c1⟩
  have hmore' := Lib.hid hmore
  have hb11' := Lib.hid hb11
  have hun := Try.underlying26
  have hiX := info_sec X hXl
  have hXw : (⟨2, 0, 3, ⟨#[97]⟩⟩ : Fr).sec = X := hX'.out.symm
  have hXw' := Lib.hid hXw
  obtain ⟨rs, hrs⟩ : ∃ rs : ByteArray, rs = ⟨(Lib.repeatL [120] 101).toArray⟩ := ⟨_, rfl⟩
  have hrn : nfr rs = 3 := by rw [hrs]; decide +kernel
  have hrz : rs.size ≤ 65536 := by rw [hrs]; decide +kernel
  have hrep : ∀ W, Calls Try.prog 38 #[.string ⟨#[120]⟩, .int .i64 101] W fun e w' => e = .returned (.string rs) ∧ Below W.heap.size W w' := by
    intro W
    have := repeat_any ⟨#[120]⟩ 101 W (by decide) (by decide)
    rw [hrs]
    exact this
  have hrep' := Lib.hid hrep
  have hrn' := Lib.hid hrn
  clear hmore hb11 hXw hrs hrn hrep hd9 hk9 hd10 hg11 hk11 hown11 hb8' hl8d hrd'
  generalize w9.heap.size = B at *
  refine wp_region_held_drew (S := fun u => StrsIn u (.slice ao 1 cap) [⟨#[97]⟩] ∧ u.heap[B]? = some (.cells (sec X) 26 (0, 0))) (by kernel_rfl) (hmore'.out _ _ ⟨hs11, hB11⟩ (Below.refl _ _).drew) (fun hHeld => ?_)
  refine wpAnyH_take (i := 0) (v := .int .i64 0) rfl (by kernel_rfl) (by kernel_rfl) (by kernel_rfl) (fun _ _ _ h => h) (Or.inl ⟨by rfl, by intro u hu; (try dsimp only at hu); go_simp⟩) hHeld ?_
  try simp only [Act.put, List.getElem_toArray, List.getElem_cons_zero, List.getElem_cons_succ, List.setIfInBounds_toArray, List.set_cons_zero, List.set_cons_succ]
  refine wpAnyH_take (i := 1) (v := .bool true) rfl (by kernel_rfl) (by kernel_rfl) (by kernel_rfl) (fun _ _ _ h => h) (Or.inl ⟨by rfl, by intro u hu; (try dsimp only at hu); go_simp⟩) hHeld ?_
  try simp only [Act.put, List.getElem_toArray, List.getElem_cons_zero, List.getElem_cons_succ, List.setIfInBounds_toArray, List.set_cons_zero, List.set_cons_succ]
  refine wpAnyH_take (i := 2) (v := .bool true) rfl (by kernel_rfl) (by kernel_rfl) (by kernel_rfl) (fun _ _ _ h => h) (Or.inl ⟨by rfl, by intro u hu; (try dsimp only at hu); go_simp⟩) hHeld ?_
  try simp only [Act.put, List.getElem_toArray, List.getElem_cons_zero, List.getElem_cons_succ, List.setIfInBounds_toArray, List.set_cons_zero, List.set_cons_succ]
  refine wpAnyH_take (i := 3) (v := .agg (u8s X).toArray) rfl (by kernel_rfl) (by kernel_rfl) (by kernel_rfl) (fun _ _ _ h => h) (yieldsIf_load_mid (by rfl) _ _ rfl _ _ rfl (u8s X) _ (fun _ h => rangeAt_whole h.2) hun rfl hiX) hHeld ?_
  try simp only [Act.put, List.getElem_toArray, List.getElem_cons_zero, List.getElem_cons_succ, List.setIfInBounds_toArray, List.set_cons_zero, List.set_cons_succ]
  refine wpAnyH_take (i := 4) (v := .agg #[.int .i64 2, .int .i64 0, .int .i64 3, .string ⟨#[97]⟩]) rfl (by kernel_rfl) (by kernel_rfl) (by kernel_rfl) (fun _ _ _ h => h) (Or.inl ⟨by rfl, by intro u hu; (try dsimp only at hu); go_simp⟩) hHeld ?_
  try simp only [Act.put, List.getElem_toArray, List.getElem_cons_zero, List.getElem_cons_succ, List.setIfInBounds_toArray, List.set_cons_zero, List.set_cons_succ]
  refine wpAnyH_ready (rs := [5]) (by kernel_rfl) (by simp) ?_
  refine AllReadyH.cons rfl (fun K hK => ?_) AllReadyH.nil
  rw [if_pos (by rfl)]
  go_simp
  go_at_call 9
  refine (rwrite_walk _ ⟨2, 0, 3, ⟨#[97]⟩⟩ (by decide) (by decide) (by decide)).mono ?_
  rintro e u1 ⟨rfl, hc1⟩
  rw [hXw'.out]
  refine hK.out _ _ (hmore'.out _ _ hHeld hc1) (fun hHeld => ?_)
  have hd1 : Below w.heap.size w u1 := (hb11'.out.drew).trans (hc1.mono (by have := hb11'.out.size; simpa using this))
  clear hK K hc1
  try simp only [Act.put, List.getElem_toArray, List.getElem_cons_zero, List.getElem_cons_succ, List.setIfInBounds_toArray, List.set_cons_zero, List.set_cons_succ]
  refine wpAnyH_take (i := 6) (v := .bool (decide (X = X))) rfl (by kernel_rfl) (by kernel_rfl) (by kernel_rfl) (fun _ _ _ h => h) (Or.inl ⟨by rfl, fun u _ => exec_eql (.tmp 86) (.tmp 88) X X (by rfl) (by rfl) hXl hXl⟩) hHeld ?_
  try simp only [Act.put, List.getElem_toArray, List.getElem_cons_zero, List.getElem_cons_succ, List.setIfInBounds_toArray, List.set_cons_zero, List.set_cons_succ]
  refine wpAnyH_take (i := 7) (v := .bool true) rfl (by kernel_rfl) (by kernel_rfl) (by kernel_rfl) (fun _ _ _ h => h) (Or.inl ⟨by rfl, by intro u hu; (try dsimp only at hu); go_simp⟩) hHeld ?_
  try simp only [Act.put, List.getElem_toArray, List.getElem_cons_zero, List.getElem_cons_succ, List.setIfInBounds_toArray, List.set_cons_zero, List.set_cons_succ]
  refine wpAnyH_take (i := 8) (v := .bool true) rfl (by kernel_rfl) (by kernel_rfl) (by kernel_rfl) (fun _ _ _ h => h) (Or.inl ⟨by rfl, by intro u hu; (try dsimp only at hu); go_simp⟩) hHeld ?_
  try simp only [Act.put, List.getElem_toArray, List.getElem_cons_zero, List.getElem_cons_succ, List.setIfInBounds_toArray, List.set_cons_zero, List.set_cons_succ]
  refine wpAnyH_take (i := 9) (v := .int .i64 0) rfl (by kernel_rfl) (by kernel_rfl) (by kernel_rfl) (fun _ _ _ h => h) (Or.inl ⟨by rfl, by intro u hu; (try dsimp only at hu); go_simp⟩) hHeld ?_
  try simp only [Act.put, List.getElem_toArray, List.getElem_cons_zero, List.getElem_cons_succ, List.setIfInBounds_toArray, List.set_cons_zero, List.set_cons_succ]
  refine wpAnyH_take (i := 10) (v := .bool true) rfl (by kernel_rfl) (by kernel_rfl) (by kernel_rfl) (fun _ _ _ h => h) (Or.inl ⟨by rfl, by intro u hu; (try dsimp only at hu); go_simp⟩) hHeld ?_
  try simp only [Act.put, List.getElem_toArray, List.getElem_cons_zero, List.getElem_cons_succ, List.setIfInBounds_toArray, List.set_cons_zero, List.set_cons_succ]
  refine wpAnyH_take (i := 11) (v := .bool true) rfl (by kernel_rfl) (by kernel_rfl) (by kernel_rfl) (fun _ _ _ h => h) (Or.inl ⟨by rfl, by intro u hu; (try dsimp only at hu); go_simp⟩) hHeld ?_
  try simp only [Act.put, List.getElem_toArray, List.getElem_cons_zero, List.getElem_cons_succ, List.setIfInBounds_toArray, List.set_cons_zero, List.set_cons_succ]
  refine wpAnyH_take (i := 12) (v := .bool true) rfl (by kernel_rfl) (by kernel_rfl) (by kernel_rfl) (fun _ _ _ h => h) (Or.inl ⟨by rfl, by intro u hu; (try dsimp only at hu); go_simp⟩) hHeld ?_
  try simp only [Act.put, List.getElem_toArray, List.getElem_cons_zero, List.getElem_cons_succ, List.setIfInBounds_toArray, List.set_cons_zero, List.set_cons_succ]
  refine wpAnyH_take (i := 13) (v := .slice ao 1 cap) rfl (by kernel_rfl) (by kernel_rfl) (by kernel_rfl) (fun _ _ _ h => h) (Or.inl ⟨by rfl, by intro u hu; (try dsimp only at hu); go_simp⟩) hHeld ?_
  try simp only [Act.put, List.getElem_toArray, List.getElem_cons_zero, List.getElem_cons_succ, List.setIfInBounds_toArray, List.set_cons_zero, List.set_cons_succ]
  refine wpAnyH_ready (rs := [14]) (by kernel_rfl) (by simp) ?_
  refine AllReadyH.cons rfl (fun K hK => ?_) AllReadyH.nil
  rw [if_pos (by rfl)]
  go_simp
  have hab : Below u1.heap.size u1 (u1.alloc (.cells #[.string ⟨#[97]⟩] 9)) := (Below.refl _ _).alloc (Nat.le_refl _) _
  have hnew : StrsIn (u1.alloc (.cells #[.string ⟨#[97]⟩] 9)) (.slice (some ⟨u1.heap.size, 0, none⟩) 1 1) [⟨#[97]⟩] :=
    ⟨_, 1, rfl, fun q hq => ⟨u1.heap.size, 0, rfl, by
      obtain rfl : q = 0 := by simp at hq; exact hq
      exact World.cell?_alloc_new u1 _ _ _⟩⟩
  refine hK.out _ _ (hmore'.out _ _ hHeld hab) (fun hHeld => ?_)
  have hd2 := hd1.trans (hab.mono hd1.size)
  clear hK K
  try simp only [Act.put, List.getElem_toArray, List.getElem_cons_zero, List.getElem_cons_succ, List.setIfInBounds_toArray, List.set_cons_zero, List.set_cons_succ]
  refine wpAnyH_ready (rs := [15]) (by kernel_rfl) (by simp) ?_
  refine AllReadyH.cons rfl (fun K hK => ?_) AllReadyH.nil
  rw [if_pos (by rfl)]
  go_simp
  go_at_call 36
  refine (rsame_walk _ _ _ _ _ hHeld.1 hnew (by decide) (by decide)).mono ?_
  rintro e u2 ⟨rfl, nq, rfl⟩
  rw [decide_eq_true (show ([⟨#[97]⟩] : List ByteArray) = [⟨#[97]⟩] from rfl)]
  refine hK.out _ _ (hmore'.out _ _ hHeld (below_drewN (Below.refl _ _) nq)) (fun hHeld => ?_)
  have hd3 := hd2.trans ((below_drewN (Below.refl _ _) nq).mono hd2.size)
  clear hK K hab hnew hd1 hd2
  try simp only [Act.put, List.getElem_toArray, List.getElem_cons_zero, List.getElem_cons_succ, List.setIfInBounds_toArray, List.set_cons_zero, List.set_cons_succ]
  refine wpAnyH_take (i := 16) (v := .bool true) rfl (by kernel_rfl) (by kernel_rfl) (by kernel_rfl) (fun _ _ _ h => h) (Or.inl ⟨by rfl, by intro u hu; (try dsimp only at hu); go_simp⟩) hHeld ?_
  try simp only [Act.put, List.getElem_toArray, List.getElem_cons_zero, List.getElem_cons_succ, List.setIfInBounds_toArray, List.set_cons_zero, List.set_cons_succ]
  refine wpAnyH_take (i := 17) (v := .bool true) rfl (by kernel_rfl) (by kernel_rfl) (by kernel_rfl) (fun _ _ _ h => h) (Or.inl ⟨by rfl, by intro u hu; (try dsimp only at hu); go_simp⟩) hHeld ?_
  try simp only [Act.put, List.getElem_toArray, List.getElem_cons_zero, List.getElem_cons_succ, List.setIfInBounds_toArray, List.set_cons_zero, List.set_cons_succ]
  refine wpAnyH_ready (rs := [18]) (by kernel_rfl) (by simp) ?_
  refine AllReadyH.cons rfl (fun K hK => ?_) AllReadyH.nil
  rw [if_pos (by rfl)]
  go_simp
  go_at_call 38
  refine (hrep'.out _).mono ?_
  rintro e u3 ⟨rfl, hc3⟩
  refine hK.out _ _ (hmore'.out _ _ hHeld hc3) (fun hHeld => ?_)
  have hd4 := hd3.trans (hc3.mono hd3.size)
  clear hK K
  try simp only [Act.put, List.getElem_toArray, List.getElem_cons_zero, List.getElem_cons_succ, List.setIfInBounds_toArray, List.set_cons_zero, List.set_cons_succ]
  refine wpAnyH_ready (rs := [19]) (by kernel_rfl) (by simp) ?_
  refine AllReadyH.cons rfl (fun K hK => ?_) AllReadyH.nil
  rw [if_pos (by rfl)]
  go_simp
  go_at_call 19
  refine (nsec_any _ rs hrz).mono ?_
  rintro e u4 ⟨rfl, hc4⟩
  rw [hrn'.out]
  refine hK.out _ _ (hmore'.out _ _ hHeld hc4) (fun hHeld => ?_)
  have hd5 := hd4.trans (hc4.mono hd4.size)
  clear hK K
  try simp only [Act.put, List.getElem_toArray, List.getElem_cons_zero, List.getElem_cons_succ, List.setIfInBounds_toArray, List.set_cons_zero, List.set_cons_succ]
  refine wpAnyH_take (i := 20) (v := .bool true) rfl (by kernel_rfl) (by kernel_rfl) (by kernel_rfl) (fun _ _ _ h => h) (Or.inl ⟨by rfl, by intro u hu; (try dsimp only at hu); go_simp⟩) hHeld ?_
  try simp only [Act.put, List.getElem_toArray, List.getElem_cons_zero, List.getElem_cons_succ, List.setIfInBounds_toArray, List.set_cons_zero, List.set_cons_succ]
  refine wpAnyH_take (i := 21) (v := .bool true) rfl (by kernel_rfl) (by kernel_rfl) (by kernel_rfl) (fun _ _ _ h => h) (Or.inl ⟨by rfl, by intro u hu; (try dsimp only at hu); go_simp⟩) hHeld ?_
  try simp only [Act.put, List.getElem_toArray, List.getElem_cons_zero, List.getElem_cons_succ, List.setIfInBounds_toArray, List.set_cons_zero, List.set_cons_succ]
  refine wpAnyH_take (i := 22) (v := .bool true) rfl (by kernel_rfl) (by kernel_rfl) (by kernel_rfl) (fun _ _ _ h => h) (Or.inl ⟨by rfl, by intro u hu; (try dsimp only at hu); go_simp⟩) hHeld ?_
  try simp only [Act.put, List.getElem_toArray, List.getElem_cons_zero, List.getElem_cons_succ, List.setIfInBounds_toArray, List.set_cons_zero, List.set_cons_succ]
  refine wpAnyH_done (by kernel_rfl) ?_ _
  have hd5' := Lib.hid hd5
  clear hHeld hd5 hd4 hd3 hc3 hc4
  go_wp2_with fail
  go_ret
  exact ⟨rfl, hd5'.out⟩
end Go.Proofs.Ytlhnhhjpjkgogaa.wl
