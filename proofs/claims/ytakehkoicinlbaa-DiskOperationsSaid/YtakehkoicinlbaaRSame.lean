/- The walk of confluentlaw47.Same. -/
import Derived.Test.YtakehkoicinlbaaRPlain
import Derived.Test.YtakehkoicinlbaaRQuiet
import Derived.Deep.QuietTactic
import Derived.BigQuiet
import Derived.Lib.QuietBelow
namespace Go.Proofs.Ytakehkoicinlbaa.dk
open Go.RowKit Go.Proofs.Ytakehkoicinlbaa.agg

attribute [local go_sem ↓] alloc_state load_state store_state
attribute [local go_sem] cut_row over_row' over_zrow one_row size_row size_zrow row_0 row_1 row_2 row_3 row_4 row_5 row_6 row_0' row_1' row_2' row_3' row_4' row_5' row_6' set_row2 set_row3 set_row4 set_row5 set_row6

theorem read_shape (st : St) (n : Int) (h0 : 0 ≤ n) (h1 : n < st.dur.length) (hf : st.failed = false) : st.read n = (st.withRd (wrap64 (st.rd + 1)), st.visible n, 0) := by
  unfold St.read
  rw [if_neg (by omega), if_neg (by rw [hf]; decide)]
  rfl
theorem read_shut (st : St) (n : Int) (h0 : 0 ≤ n) (h1 : n < st.dur.length) (hf : st.failed = true) : st.read n = (st, zeros, 12) := by
  unfold St.read
  rw [if_neg (by omega), if_pos hf]

set_option maxRecDepth 20000 in
set_option maxHeartbeats 1000000 in
theorem same_any {D g : Nat} {pv : Value} {st : St} (w : World) (h : DiskIn w D g pv st) (r : Ref) (hr : RefIn w r st.ref) (hap : ∀ k, r.own k → ¬ foot D g pv k) (hpl : st.pend.length < 1000000) :
    Calls Try.prog 26 #[.pointer (some ⟨D, 0, none⟩), r.val st.ref] w fun e w' => e = .returned (.int .i64 1) ∧ Kept (foot D g pv) w w' := by
  have hbx := heap_alloc_new w (.cells (r.row st.ref) 55)
  have hd := h.alloc (.cells (r.row st.ref) 55)
  have hlt := h.lt
  have e1 := ref_dur st
  have e2 := ref_pend st
  have e3 := ref_failed st
  have hfew := h.few
  have e1' := Lib.hid e1
  have e2' := Lib.hid e2
  have e3' := Lib.hid e3
  have hr' := Lib.hid hr
  have h' := Lib.hid h
  obtain ⟨c0, c1, c2, c3, c4, c5, c6, cf⟩ := row_cells hbx
  rw [e1] at c0
  rw [e2] at c1
  rw [e3] at c3
  have hK := Kept.alloc (F := foot D g pv) w (.cells (r.row st.ref) 55)
  clear c2 c4 c5 c6 cf e1 e2 e3 hr h
  unfold Ref.val
  go_enter Try.func26, Try.ntmps26
  go_wp2_with fail
  generalize w.alloc (.cells (r.row st.ref) 55) = W at *
  have hdN : ∀ n, DiskIn (W.drewN n) D g pv st := fun n => hd.kept (Kept.of_below (F := fun _ => False) (below_drewN (Below.refl _ W) n)) (fun _ _ => id)
  have hdN' := Lib.hid hdN
  clear hdN
  go_quiet ((first | (go_at_call 18; exact (sectors_any _ (hdN'.out _)).mono (fun _ _ h => ⟨h.1, _, h.2.symm⟩)) | (go_at_call 19; exact (pending_any _ (hdN'.out _)).mono (fun _ _ h => ⟨h.1, _, h.2.symm⟩)) | (go_at_call 21; exact (failed_any _ (hdN'.out _)).mono (fun _ _ h => ⟨h.1, _, h.2.symm⟩))))
  go_wp2_with fail
  have hd0 := hdN'.out nq
  have hK0 : Kept (foot D g pv) w (W.drewN nq) := hK.trans (Kept.of_below (below_drewN (Below.refl _ W) nq))
  have hb0 : (W.drewN nq).heap[w.heap.size]? = some (.cells (r.row st.ref) 55 (0, 0)) := ((below_drewN (Below.refl _ W) nq).block _ (lt_of_block hbx)).trans hbx
  have hfoot : ∀ k, foot D g pv k → k ≠ w.heap.size := fun k hk e => by have := hlt k hk; omega
  clear hd hK hbx hdN' c0 c1 c3
  generalize W.drewN nq = W1 at *
  go_loopw [32] (fun i wr => ∃ k : Nat, k ≤ st.dur.length ∧ i = .int .i64 k ∧ ∃ st', DiskIn wr D g pv st' ∧ st'.dur = st.dur ∧ st'.pend = st.pend ∧ st'.failed = st.failed ∧ Kept (foot D g pv) w wr ∧ wr.heap[w.heap.size]? = some (.cells (r.row st.ref) 55 (0, 0)))
    (fun i _ => st.dur.length - (intOf i).toNat)
  case atStart => exact ⟨0, Nat.zero_le _, rfl, st, hd0, rfl, rfl, rfl, hK0, hb0⟩
  case round =>
    obtain ⟨k, hk, rfl, st', hd, q1, q2, q3, hK, hb⟩ := hrel
    clear hd0 hK0 hb0
    by_cases hltk : k < st.dur.length
    · have hltI : (k : Int) < st.dur.length := by omega
      by_cases hf : st.failed = true
      · have hrd := read_shut st' k (by omega) (by rw [q1]; omega) (by rw [q3]; exact hf)
        have hz := length_zeros
        have hrd' := Lib.hid hrd
        have q1' := Lib.hid q1
        have q2' := Lib.hid q2
        have q3' := Lib.hid q3
        rw [← q2] at hpl
        clear hrd q1 q2 q3
        go_wp2_with fail
        refine (read_any _ hd k hpl).mono ?_
        rintro e w2 ⟨rfl, hd2, hk2⟩
        rw [hrd'.out] at hd2
        rw [hrd'.out]
        have hb2 := (hk2.block _ (lt_of_block hb) (fun f => hfoot _ f rfl)).trans hb
        have hK2 := hK.trans hk2
        have c3 := (row_cells hb2).2.2.2.1
        rw [e3'.out, hf] at c3
        have hcl := lt_of_block hb2
        have hd3 := hd2.alloc (.cells (sec zeros) 23)
        have hK3 := hK2.trans (Kept.alloc w2 (.cells (sec zeros) 23))
        have hb3 := (Below.heap_alloc w2 (.cells (sec zeros) 23) _ hcl).trans hb2
        have hb3' := Lib.hid hb3
        have hfl := Lib.hid hf
        clear hb hb2 hK hK2 hd hd2 hk2 hb3 hf
        go_wp2_with fail
        have hy3 := heap_alloc_new w2 (.cells (sec zeros) 23)
        have r1 := rowOf_of hy3
        have hrow0 := lt_of_block hb3'.out
        have hrow1 := lt_of_block hy3
        have c33 := (row_cells hb3'.out).2.2.2.1
        rw [e3'.out, hfl.out] at c33
        clear hy3 c3
        generalize w2.alloc (.cells (sec zeros) 23) = W3 at *
        have k3 := cell_regrown c33
        have k1 : ∀ d os, rowOf (Sort.grow (redrawn W3 d) os) w2.heap.size = sec zeros := fun d os => (rowOf_block ((below_regrown W3 d os).block _ hrow1)).trans r1
        have hQ1 : ∀ u, (∃ p : Regrown, u = Sort.grow (redrawn W3 p.d) p.os) → 0 + 64 ≤ (rowOf u w2.heap.size).size ∧ 0 < 64 ∧ cut (rowOf u w2.heap.size) 0 64 = .agg (sec zeros) := by
          rintro u ⟨p, rfl⟩
          exact ⟨by rw [k1, size_sec, hz]; omega, by omega, by rw [k1]; exact cut_whole (by rw [size_sec, hz])⟩
        clear r1 c33 k1
        refine wp_region_quiet_below (by kernel_rfl) (by kernel_rfl) ?_
        iterate 6 (go_big_quiet_step (fail))
        refine BigFrame.wpQuiet_want (by rfl) (fun K hK => ?_)
        refine quiet_load ag_sec (.tmp 6) w2.heap.size 0 (sec zeros) rfl hQ1 ?_
        go_simp
        refine hK _ ?_
        clear hK K
        refine BigFrame.wpQuiet_want (by rfl) (fun K hK => ?_)
        refine quiet_build build_zeros ?_
        go_simp
        refine hK _ ?_
        clear hK K
        refine BigFrame.wpQuiet_want (by rfl) (fun K hK => ?_)
        refine quiet_neq (.tmp 47) (.tmp 48) zeros zeros rfl rfl hz hz ?_
        go_simp
        refine hK _ ?_
        clear hK K
        repeat (go_big_quiet_step (fail))
        refine wpQuiet_nil ?_
        intro _ hw'
        obtain ⟨⟨dq, osq⟩, hw''⟩ := hw'
        subst hw''
        have hbq := below_regrown W3 dq osq
        clear k3 hQ1
        go_wp2_with fail
        go_roundw
        case rel => exact ⟨k + 1, by omega, by go_num, st', hd3.kept (Kept.of_below (F := fun _ => False) hbq) (fun _ _ => id), q1'.out, q2'.out, q3'.out, hK3.trans (Kept.of_below hbq), (hbq.block _ (lt_of_block hb3'.out)).trans hb3'.out⟩
        case measure => simp [intOf]; omega
      · have hf' : st.failed = false := by simpa using hf
        clear hf
        have hrd := read_shape st' k (by omega) (by rw [q1]; omega) (by rw [q3]; exact hf')
        have hvv : st'.visible k = st.ref.visible k := by rw [ref_visible]; unfold St.visible; rw [q1, q2]
        rw [hvv] at hrd
        have hrb : RefIn wr r st.ref := hr'.out.same (fun k hk => hK.block k (hr'.out.own_lt k hk) (hap k hk))
        have hyl := (seen_all st.ref k) ▸ seen_len hrb k (by rw [ref_dur]; exact hltk) st.ref.pend.length
        have hn2 : k < st.ref.dur.length := by rw [ref_dur]; exact hltk
        have hp2 : st.ref.pend.length < 1000000 := by rw [ref_pend]; exact hpl
        have hrd' := Lib.hid hrd
        have q1' := Lib.hid q1
        have q2' := Lib.hid q2
        have q3' := Lib.hid q3
        rw [← q2] at hpl
        clear hrd q1 q2 q3 hvv
        go_wp2_with fail
        refine (read_any _ hd k hpl).mono ?_
        rintro e w2 ⟨rfl, hd2, hk2⟩
        rw [hrd'.out] at hd2
        rw [hrd'.out]
        have hb2 := (hk2.block _ (lt_of_block hb) (fun f => hfoot _ f rfl)).trans hb
        have hr2 : RefIn w2 r st.ref := hrb.same (fun k hk => hk2.block k (hrb.own_lt k hk) (hap k hk))
        have hK2 := hK.trans hk2
        have c3 := (row_cells hb2).2.2.2.1
        rw [e3'.out, hf'] at c3
        have hcl := lt_of_block hb2
        generalize hy : st.ref.visible k = y at *
        have hy' := Lib.hid hy
        clear hy
        have hd3 := hd2.alloc (.cells (sec y) 23)
        have hK3 := hK2.trans (Kept.alloc w2 (.cells (sec y) 23))
        have hb3 := (Below.heap_alloc w2 (.cells (sec y) 23) _ hcl).trans hb2
        have hr3 := hr2.below ((Below.refl _ w2).alloc (Nat.le_refl _) (.cells (sec y) 23))
        have c33 := (row_cells hb3).2.2.2.1
        have hy3 := heap_alloc_new w2 (.cells (sec y) 23)
        rw [e3'.out, hf'] at c33
        have hb3' := Lib.hid hb3
        have hfl := Lib.hid hf'
        have hz := length_zeros
        clear hb hb2 hK hK2 hd hd2 hk2 hr2 hrb c3 hf'
        go_wp2_with fail
        have r0 := rowOf_of hb3
        have r1 := rowOf_of hy3
        have hrow0 := lt_of_block hb3
        have hrow1 := lt_of_block hy3
        clear hb3 hy3
        generalize w2.alloc (.cells (sec y) 23) = W3 at *
        have hvc : Hid (∀ u, Below W3.heap.size W3 u → Calls Try.prog 38 #[.agg (r.row st.ref), .int .i64 k] u fun e w' => e = .returned (.agg (sec y)) ∧ Below u.heap.size u w') :=
          Lib.hid (fun u hb => by rw [← hy'.out]; exact rvis_any u r st.ref (hr3.below hb) k hn2 hp2)
        have k3 := cell_regrown c33
        have k0 : ∀ d os, rowOf (Sort.grow (redrawn W3 d) os) w.heap.size = r.row st.ref := fun d os => (rowOf_block ((below_regrown W3 d os).block _ hrow0)).trans r0
        have k1 : ∀ d os, rowOf (Sort.grow (redrawn W3 d) os) w2.heap.size = sec y := fun d os => (rowOf_block ((below_regrown W3 d os).block _ hrow1)).trans r1
        have cV : ∀ d os, Calls Try.prog 38 #[.agg (r.row st.ref), .int .i64 k] (Sort.grow (redrawn W3 d) os) fun e w'' => e = .returned (.agg (sec y)) ∧ ∃ p : Regrown, w'' = Sort.grow (redrawn W3 p.d) p.os := fun d os => Calls.regrown_of (hvc.out _ (below_regrown W3 d os))
        have hQ1 : ∀ u, (∃ p : Regrown, u = Sort.grow (redrawn W3 p.d) p.os) → 0 + 64 ≤ (rowOf u w2.heap.size).size ∧ 0 < 64 ∧ cut (rowOf u w2.heap.size) 0 64 = .agg (sec y) := by
          rintro u ⟨p, rfl⟩
          exact ⟨by rw [k1, size_sec, hyl]; omega, by omega, by rw [k1]; exact cut_whole (by rw [size_sec, hyl])⟩
        have hQ0 : ∀ u, (∃ p : Regrown, u = Sort.grow (redrawn W3 p.d) p.os) → 0 + 7 ≤ (rowOf u w.heap.size).size ∧ 0 < 7 ∧ cut (rowOf u w.heap.size) 0 7 = .agg (r.row st.ref) := by
          rintro u ⟨p, rfl⟩
          exact ⟨by rw [k0, size_row]; omega, by omega, by rw [k0]; exact cut_row _ _⟩
        clear r0 r1 c33 k0 k1
        refine wp_region_quiet_below (by kernel_rfl) (by kernel_rfl) ?_
        iterate 19 (go_big_quiet_step (fail))
        refine BigFrame.wpQuiet_want (by rfl) (fun K hK => ?_)
        refine quiet_load ag_sec (.tmp 6) w2.heap.size 0 (sec y) rfl hQ1 ?_
        go_simp
        refine hK _ ?_
        clear hK K
        refine BigFrame.wpQuiet_want (by rfl) (fun K hK => ?_)
        refine quiet_load ag_state (.tmp 3) w.heap.size 0 (r.row st.ref) rfl hQ0 ?_
        go_simp
        refine hK _ ?_
        clear hK K
        iterate 2 (go_big_quiet_step ((go_at_call 38; exact cV _ _)))
        refine BigFrame.wpQuiet_want (by rfl) (fun K hK => ?_)
        refine quiet_neq (.tmp 60) (.tmp 63) y y rfl rfl hyl hyl ?_
        go_simp
        refine hK _ ?_
        clear hK K
        repeat (go_big_quiet_step (fail))
        refine wpQuiet_nil ?_
        intro _ hw'
        obtain ⟨⟨dq, osq⟩, hw''⟩ := hw'
        subst hw''
        have hbq := below_regrown W3 dq osq
        clear k3 hQ0 hQ1 cV
        go_wp2_with fail
        go_roundw
        case rel => exact ⟨k + 1, by omega, by go_num, st'.withRd (wrap64 (st'.rd + 1)), hd3.kept (Kept.of_below (F := fun _ => False) hbq) (fun _ _ => id), q1'.out, q2'.out, q3'.out, hK3.trans (Kept.of_below hbq), (hbq.block _ (lt_of_block hb3'.out)).trans hb3'.out⟩
        case measure => simp [intOf]; omega
    · obtain rfl : k = st.dur.length := by omega
      go_wp2
      go_ret
      exact ⟨rfl, hK⟩
end Go.Proofs.Ytakehkoicinlbaa.dk
