/- The walk of Create. -/
import Derived.Test.YtlhnhhjpjkgogaaWLook
import Derived.Test.YtlhnhhjpjkgogaaWRoot
namespace Go.Proofs.Ytlhnhhjpjkgogaa.wl
open Go.RowKit Go.Proofs.Ytlhnhhjpjkgogaa.agg Go.Proofs.Ytlhnhhjpjkgogaa.dk

def CreateEnd (w : World) (D g : Nat) (pv : Value) (st' : St) (l : Lg) (e : Ending) (w' : World) : Prop :=
  ∃ L pv', e = .returned (.tuple #[.pointer (some ⟨L, 0, none⟩), .int .i64 0]) ∧ LogIn w' L D g pv' st' l ∧ Kept (foot D g pv) w w' ∧ Fresh w pv pv' ∧ w.heap.size ≤ L
theorem visible_same {st st' : St} (h1 : st'.pend = st.pend) (h2 : st'.dur = st.dur) (n : Int) : st'.visible n = st.visible n := by
  unfold St.visible
  rw [h1, h2]
set_option maxRecDepth 100000 in
set_option maxHeartbeats 2000000 in
theorem create_walk {w : World} {D g : Nat} {pv : Value} {st : St} (h : DiskIn w D g pv st) (h8 : 8 ≤ st.dur.length) (hf : st.failed = false) (hsec : ∀ i : Nat, i < st.dur.length → IsSec (st.visible i)) (hpl : st.pend.length < 900000)
    (hbl : (scan st.visible st.dur.length).block < 0) (hgr : 0 ≤ (scan st.visible st.dur.length).greatest ∧ (scan st.visible st.dur.length).greatest < 4294967295)
    (hok : (rootSt (reads st st.dur.length) 0 ((scan st.visible st.dur.length).greatest + 1) 0).2 = 0) :
    Calls Try.prog 15 #[.pointer (some ⟨D, 0, none⟩)] w (CreateEnd w D g pv (rootSt (reads st st.dur.length) 0 ((scan st.visible st.dur.length).greatest + 1) 0).1 ⟨(scan st.visible st.dur.length).greatest + 1, 0, 0, 0, 0⟩) := by
  have hlook := look_walk h h8 hf hsec (by omega)
  have hlook' := Lib.hid hlook
  have hh := Lib.hid h
  have hplr : (reads st st.dur.length).pend.length < 900000 := hpl
  have hok' := Lib.hid hok
  clear h h8 hf hsec hlook hok hpl
  generalize hst : reads st st.dur.length = s1 at *
  generalize scan st.visible st.dur.length = x at *
  obtain ⟨m, gr, bl, ar⟩ := x
  simp only at hbl hgr
  have hst' := Lib.hid hst
  clear hst
  go_enter Try.func15, Try.ntmps15
  go_wp2_with (first
    | (go_at_call 43; refine (hlook'.out).mono ?_; rintro e w1 ⟨b, rfl, hd1, hm1, hk1, hb1⟩; rw [show Sc.cells b ⟨m, gr, bl, ar⟩ = #[.map (some b), .int .i64 gr, .int .i64 bl, .int .i64 ar] from rfl])
    | (go_at_call 46; have hbb : Below w1.heap.size w1 ((w1.alloc (.cells #[.map (some b), .int .i64 gr, .int .i64 bl, .int .i64 ar] 81)).alloc (.cells (Lg.cells D ⟨gr + 1, 0, 0, 0, 0⟩) 85)) := (((Below.refl _ _).alloc (Nat.le_refl _) _).alloc (by simp) _); have hlg : LogIn ((w1.alloc (.cells #[.map (some b), .int .i64 gr, .int .i64 bl, .int .i64 ar] 81)).alloc (.cells (Lg.cells D ⟨gr + 1, 0, 0, 0, 0⟩) 85)) (w1.heap.size + 1) D g pv s1 ⟨gr + 1, 0, 0, 0, 0⟩ := ⟨hd1.kept (Kept.of_below (F := fun _ => False) hbb) (fun _ _ => id), heap_alloc2_new w1 _ _, foot_lt hd1 (by omega)⟩; refine (root_walk hlg 0 (.inl rfl) hplr).mono ?_; rintro e w2 ⟨pv2, rfl, hl2, hk2, hf2⟩; rw [hok'.out]))
  go_ret2
  have hkk : Kept (lfoot (w1.heap.size + 1) D g pv) w1 w2 := (Kept.of_below hbb).trans hk2
  refine ⟨w1.heap.size + 1, pv2, rfl, hl2, ?_, ?_, by have := hk1.size; omega⟩
  · exact hk1.trans' hkk (fun i hi e => by
      rcases e with e | e
      · have := hk1.size; omega
      · exact e)
  · intro i hi
    rcases hf2 i hi with e | e
    · exact .inl e
    · refine .inr ?_
      have h1 := hk1.size
      have h2 := hbb.size
      omega
theorem create_few {w : World} {D g : Nat} {pv : Value} {st : St} (h : DiskIn w D g pv st) (h8 : st.dur.length < 8) :
    Calls Try.prog 15 #[.pointer (some ⟨D, 0, none⟩)] w fun e w' => e = .returned (.tuple #[.pointer none, .int .i64 1]) ∧ Below w.heap.size w w' := by
  have hl := look_few h h8
  have hl' := Lib.hid hl
  clear h h8 hl
  go_enter Try.func15, Try.ntmps15
  go_wp2_with (go_at_call 43; refine (hl'.out).mono ?_; rintro e w1 ⟨rfl, hb1⟩)
  go_ret2
  exact ⟨rfl, hb1.alloc (by have := hb1.size; omega) _⟩
end Go.Proofs.Ytlhnhhjpjkgogaa.wl
