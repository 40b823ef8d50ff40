/- The walks of confluentlaw48.Content and of slices.Equal over sectors. -/
import Derived.Test.YtlhnhhjpjkgogaaWLook
import Derived.Test.YtlhnhhjpjkgogaaDRead
import Derived.Test.YtlhnhhjpjkgogaaWRFrames
import Derived.Test.YtlhnhhjpjkgogaaWQuiet
namespace Go.Proofs.Ytlhnhhjpjkgogaa.wl
open Go.RowKit Go.Proofs.Ytlhnhhjpjkgogaa.agg Go.Proofs.Ytlhnhhjpjkgogaa.dk
set_option linter.unusedSimpArgs false
set_option linter.unusedVariables false

/-- The contents that a disk shows. -/
def visL (st : St) : List (List Int) := (List.range st.dur.length).map (fun i : Nat => st.visible i)
theorem visL_len (st : St) : (visL st).length = st.dur.length := by simp [visL]
theorem visL_get (st : St) (k : Nat) (hk : k < (visL st).length) : (visL st)[k] = st.visible k := by simp [visL]
theorem flatD_snoc (l : List (List Int)) (x : List Int) : flatD (l ++ [x]) = flatD l ++ u8s x := by simp [flatD]
section
variable {a : Act} {w : World} {K : Act → World → Prop} {Q : Exit → Act → World → Prop} {dst : Option Tmp} {ty : TypeId} {pos : String} {aft : Array Edge} {gd : Option (Nat × Bool)}
theorem slice1_sec (x : Operand) (hx : sized (a.eval x) 64) : Oper.wp Try.prog ⟨dst, .buildSlice 31 1 #[(0, x)], ty, pos, aft, gd⟩ a w K Q = K (a.put dst (.slice (some ⟨w.heap.size, 0, none⟩) 1 1)) (w.alloc (.cells (cellsOf (a.eval x)) 26)) :=
  wp_buildSlice1 (S := 31) (E := 26) (by kernel_rfl) (fun _ => by kernel_rfl) zero_sec (by omega) (by omega) x hx
end
theorem own_some {w : World} {base : Nat} {e : TypeId} {size : Nat} {v : Value} {n : Nat} {xs : List Value} (h : w.ownsRow base e size v n xs) (hn : 0 < n) : ∃ b cap, v = .slice (some ⟨b, 0, none⟩) n cap := by
  rcases h.2 with ⟨_, h0⟩ | ⟨g, cap, cur, rfl, _⟩
  · omega
  · exact ⟨_, _, rfl⟩
attribute [local go_sem ↓] slice1_sec
set_option maxRecDepth 100000 in
set_option maxHeartbeats 2000000 in
theorem content_walk {w : World} {D g : Nat} {pv : Value} {st : St} (h : DiskIn w D g pv st) (hf : st.failed = false) (hpl : st.pend.length < 1000000) (h1 : 1 ≤ st.dur.length) (h64 : ∀ i, i < st.dur.length → (st.visible (i : Nat)).length = 64) :
    Calls Try.prog 25 #[.pointer (some ⟨D, 0, none⟩)] w fun e w' => ∃ b cap, e = .returned (.slice (some ⟨b, 0, none⟩) st.dur.length cap) ∧ w'.ownsRow w.heap.size 26 64 (.slice (some ⟨b, 0, none⟩) st.dur.length cap) st.dur.length (flatD (visL st)) ∧ DiskIn w' D g pv (reads st st.dur.length) ∧ Kept (foot D g pv) w w' := by
  have hlt0 := h.lt
  have hlt0' := Lib.hid hlt0
  have hn := h.few
  have hh := Lib.hid h
  have hread : ∀ (W : World) (k : Nat), k < st.dur.length → DiskIn W D g pv (reads st k) → Calls Try.prog 37 #[.pointer (some ⟨D, 0, none⟩), .int .i64 (k : Nat)] W fun e w' => e = .returned (.tuple #[.agg (sec (st.visible k)), .int .i64 0]) ∧ DiskIn w' D g pv (reads st (k + 1)) ∧ Kept (foot D g pv) W w' := by
    intro W k hk hd
    have := read_any W hd (k : Int) (by exact hpl)
    rw [reads_read st k k hf (by omega) (by omega)] at this
    exact this.mono (fun e w' hx => ⟨hx.1, hx.2.1, hx.2.2⟩)
  have hread' := Lib.hid hread
  have hvl := Lib.hid (visL_len st)
  have h64' := Lib.hid h64
  have hvg : Hid (∀ k, k < st.dur.length → (visL st).take (k + 1) = (visL st).take k ++ [st.visible (k : Nat)]) := by
    intro k hk
    rw [List.take_succ_eq_append_getElem (by rw [visL_len]; exact hk), visL_get]
  generalize hm : st.dur.length = n at *
  have hm' := Lib.hid hm
  clear hlt0 h hread hm h64
  go_enter Try.func25, Try.ntmps25
  go_wp2_with (go_at_call 52; refine (sectors_any _ hh.out).mono ?_; rintro e w1 ⟨rfl, rfl⟩; rw [hm'.out])
  go_loopw [3, 9] (fun v i wr => ∃ k : Nat, k ≤ n ∧ i = .int .i64 k ∧ wr.ownsRow w.heap.size 26 64 v k (flatD ((visL st).take k)) ∧ DiskIn wr D g pv (reads st k) ∧ Kept (foot D g pv) w wr) (fun _ i _ => n - (intOf i).toNat)
  case atStart => exact ⟨0, Nat.zero_le _, rfl, World.ownsRow_nil _ _ _ _, hh.out, Kept.refl _ _⟩
  case round =>
    obtain ⟨k, hk, rfl, hown, hd, hkp⟩ := hrel
    obtain ⟨ao, cap, rfl⟩ := own_form hown
    by_cases hlt : k < n
    · have hcall := Lib.hid (hread'.out wr k hlt hd)
      have hown' := Lib.hid hown
      have hkp' := Lib.hid hkp
      have hx64 := h64'.out k hlt
      have hnx := Lib.hid (hvg.out k hlt)
      clear hown hd hkp
      generalize st.visible (k : Nat) = x at *
      go_wp2_with fail
      go_at_call 37
      refine hcall.out.mono ?_
      rintro e u1 ⟨rfl, hd1, hk1⟩
      have hown1 := ownsRow_same (w' := u1) hown'.out (fun b hb => hk1.block b (hown'.out.lt b hb).2 (fun hf => by have := (hown'.out.lt b hb).1; have := hlt0'.out b hf; omega))
      have hkp1 := Lib.hid (hkp'.out.trans hk1)
      have hd1' := Lib.hid hd1
      clear hd1 hk1 hcall hkp' hown'
      obtain ⟨i0, hi, hz0, hz1, hz2⟩ := info_parts Go.Proofs.Ytlhnhhjpjkgogaa.dk.info_sec
      have hsz0 : (sec x).toList.length = 1 * 64 := by rw [Array.length_toList, size_sec, hx64]
      have hone : ∀ u ∈ (sec x).toList, u.oneCell' = true := sec_oneCell _
      go_wp2_with (at_builtin; refine wpList_append_mine rfl (.tmp 18) (.tmp 20) 31 rfl w.heap.size 26 i0 _ 64 64 Try.underlying31 hi hz0 hz1 hz2 (by decide) _ k _ rfl ((hown1.alloc _).alloc _) ⟨u1.heap.size + 1, 0, none⟩ 1 1 (sec x).toList (by rfl) hsz0 (by omega) (cells_new2 u1 _ _ _) hone (by unfold maxLen; omega) (by omega) (by have := hkp1.out.size; simp; omega) ?_; intro g' cap' w' hown' hgrow hnew)
      have hb3 : Below u1.heap.size u1 ((u1.alloc (.cells (sec x) 26)).alloc (.cells (sec x) 26)) := ((Below.refl _ _).alloc (Nat.le_refl _) _).alloc (by simp) _
      have hkp3 : Kept (foot D g pv) w w' := by
        have h1 := (Kept.alloc (F := fun b => (Value.slice ao k cap).ownBlock = some b) u1 (.cells (sec x) 26)).trans' (Kept.alloc (F := fun b => (Value.slice ao k cap).ownBlock = some b) _ (.cells (sec x) 26)) (fun _ _ e => e)
        have h2 := h1.trans' (Kept.grown hgrow (fun b hb => hb)) (fun _ _ e => e)
        exact ⟨h2.os.trans hkp1.out.os, h2.tape.trans hkp1.out.tape, h2.output.trans hkp1.out.output, Nat.le_trans hkp1.out.size h2.size, fun i hi hF => (h2.block i (Nat.lt_of_lt_of_le hi hkp1.out.size) (fun e => by have := (hown1.lt i e).1; omega)).trans (hkp1.out.block i hi hF)⟩
      have hd3 : DiskIn w' D g pv (reads st (k + 1)) := by
        refine hd1'.out.kept (F := fun b => (Value.slice ao k cap).ownBlock = some b) ?_ (fun b hf hb => ?_)
        · exact ((Kept.alloc u1 _).trans' (Kept.alloc _ _) (fun _ _ e => e)).trans' (Kept.grown hgrow (fun b hb => hb)) (fun _ _ e => e)
        · have h1 := (hown1.lt b hb).1
          have h2 := hlt0'.out b hf
          omega
      have hd3' := Lib.hid hd3
      have hkp3' := Lib.hid hkp3
      have hown3 : w'.ownsRow w.heap.size 26 64 (.slice (some ⟨g', 0, none⟩) (k + 1) cap') (k + 1) (flatD ((visL st).take (k + 1))) := by
        rw [hnx.out, flatD_snoc]
        exact hown'
      have hown3' := Lib.hid hown3
      clear hd3 hkp3 hown3 hown' hgrow hnew hb3 hown1
      go_wp2_with fail
      go_roundw
      case rel => exact ⟨k + 1, by omega, by go_num, hown3'.out, hd3'.out, hkp3'.out⟩
      case measure => simp [intOf]; omega
    · obtain rfl : k = n := by omega
      obtain ⟨b, cap2, e2⟩ := own_some hown (by omega)
      have hall : (visL st).take k = visL st := List.take_of_length_le (by rw [hvl.out]; exact Nat.le_refl _)
      rw [hall] at hown
      rw [e2] at hown ⊢
      have hown' := Lib.hid hown
      have hd' := Lib.hid hd
      have hk' := Lib.hid hkp
      clear hown hd hkp e2 hall
      go_wp2_with fail
      go_ret
      exact ⟨b, cap2, rfl, hown'.out, hd'.out, hk'.out⟩
end Go.Proofs.Ytlhnhhjpjkgogaa.wl
