/- The walk of the reference's Allowed. -/
import Derived.Test.YtlhnhhjpjkgogaaM4
import Derived.Test.YtlhnhhjpjkgogaaWSame
import Derived.Test.YtlhnhhjpjkgogaaWAwake
import Derived.Test.YtlhnhhjpjkgogaaWFew
namespace Go.Proofs.Ytlhnhhjpjkgogaa.wl
open Go.RowKit Go.Proofs.Ytlhnhhjpjkgogaa.agg Go.Proofs.Ytlhnhhjpjkgogaa.dk
set_option linter.unusedSimpArgs false
set_option linter.unusedVariables false

def strsV (l : List ByteArray) : List Value := l.map Value.string
theorem strsV_app (a b : List ByteArray) : strsV (a ++ b) = strsV a ++ strsV b := by simp [strsV]
theorem strsV_one (l : List ByteArray) : ∀ u ∈ strsV l, u.oneCell' = true := by
  intro u hu
  obtain ⟨x, _, rfl⟩ := List.mem_map.1 hu
  rfl
theorem strsV_len (l : List ByteArray) : (strsV l).length = l.length := by simp [strsV]
theorem StrsIn.rd {w : World} {v : Value} {l : List ByteArray} (h : StrsIn w v l) : Rd w 1 v l.length (strsV l) := by
  obtain ⟨ao, cap, rfl, hc⟩ := h
  refine ⟨ao, cap, rfl, by simp [strsV], fun h0 => ?_⟩
  obtain ⟨b, o, rfl, _⟩ := hc 0 h0
  refine ⟨⟨b, o, none⟩, rfl, fun j u hu => ?_⟩
  have hj : j < l.length := by
    have := (List.getElem?_eq_some_iff.1 hu).1
    simpa [strsV] using this
  obtain ⟨b', o', e, hcj⟩ := hc j hj
  injection e with e
  injection e with e1 e2
  subst e1 e2
  rw [Go.WideShapes.add_plain, hcj, ← hu]
  simp [strsV, hj]
theorem StrsIn.below {w w' : World} {v : Value} {l : List ByteArray} (h : StrsIn w v l) (hb : Below w.heap.size w w') : StrsIn w' v l := by
  obtain ⟨ao, cap, rfl, hc⟩ := h
  refine ⟨ao, cap, rfl, fun j hj => ?_⟩
  obtain ⟨b, o, e, hcj⟩ := hc j hj
  refine ⟨b, o, e, ?_⟩
  have hlt := World.block_lt_of_cell? w ⟨b, o + j, none⟩ hcj
  rw [hb.cell (p := ⟨b, o + j, none⟩) hlt]
  exact hcj
theorem info_strA : (Try.prog.info? 9).map (fun i => (i.zero, i.size, i.bytes)) = some (some (.string ⟨#[]⟩), 1, 16) := by kernel_rfl
/-- A front of a row is strings. -/
theorem rowB_strs {B : Nat} {w : World} {ao : Option Addr} {n c : Nat} {l : List ByteArray} (h : RowB B w 9 1 (.slice ao n c) n (strsV l)) (hn : n = l.length) (q : Nat) (hq : q ≤ n) (hq0 : 0 < q) : ∃ g, ao = some ⟨g, 0, none⟩ ∧ n ≤ c ∧ StrsIn w (.slice ao q c) (l.take q) := by
  have ho := h.owns (by omega)
  rcases ho.2 with ⟨_, h0⟩ | ⟨g, cap, cur, e, _, hh, hc, _, _, ht⟩
  · omega
  · injection e with e1 e2 e3
    subst e1 e3
    refine ⟨g, rfl, hc, some ⟨g, 0, none⟩, c, by rw [List.length_take, Nat.min_eq_left (by omega)], fun j hj => ⟨g, 0, rfl, ?_⟩⟩
    rw [List.length_take] at hj
    rw [cell_of_row _ _ _ _ _ _ hh, Nat.zero_add]
    have h1 : (strsV l)[j]? = some (.string l[j]) := by simp [strsV, show j < l.length by omega]
    rw [← ht, List.getElem?_take_of_lt (by omega)] at h1
    rw [List.getElem_take]
    simpa using h1
set_option maxRecDepth 100000 in
set_option maxHeartbeats 2000000 in
theorem allowed_walk (w : World) (v1 v2 v3 : Value) (c m : List ByteArray) (q : Nat) (hq : q ≤ m.length) (h1 : StrsIn w v1 (c ++ m.take q)) (h2 : StrsIn w v2 c) (h3 : StrsIn w v3 m) (hl : c.length + m.length < 100000) :
    Calls Try.prog 34 #[v1, v2, v3] w fun e w' => e = .returned (.bool true) ∧ Below w.heap.size w w' := by
  have h1' := Lib.hid h1
  have h2' := Lib.hid h2
  have h3' := Lib.hid h3
  have hgl : (c ++ m.take q).length = c.length + q := by rw [List.length_append, List.length_take, Nat.min_eq_left hq]
  obtain ⟨a1, c1, rfl, -⟩ := h1
  obtain ⟨a2, c2, rfl, -⟩ := h2
  obtain ⟨a3, c3, rfl, -⟩ := h3
  rw [hgl] at h1' ⊢
  have g1 : ¬ ((c.length + q : Nat) : Int) < c.length := by omega
  have g2 : ¬ (c.length : Int) + m.length < ((c.length + q : Nat) : Int) := by omega
  generalize hcn : c.length = cn at *
  generalize hmn : m.length = mn at *
  have hcn' := Lib.hid hcn
  have hmn' := Lib.hid hmn
  have hgl' := Lib.hid hgl
  clear hcn hmn hgl
  obtain ⟨gn, hgn⟩ : ∃ gn, gn = cn + q := ⟨_, rfl⟩
  rw [← hgn] at h1' g1 g2 ⊢
  have hgn' := Lib.hid hgn
  clear hgn
  go_enter Try.func34, Try.ntmps34
  have hb0 : Below w.heap.size w (w.alloc (.cells #[] 9)) := (Below.refl _ _).alloc (Nat.le_refl _) _
  have hrd2 : Rd (w.alloc (.cells #[] 9)) 1 (.slice a2 cn c2) cn (strsV c) := by
    have := (h2'.out.below hb0).rd
    rw [hcn'.out] at this
    exact this
  have hb0' := Lib.hid hb0
  have hrd2' := Lib.hid hrd2
  obtain ⟨i0, hi, hz0, hz1, hz2⟩ := info_parts info_strA
  clear hb0 hrd2
  go_upto_region 4 with (first
    | (at_builtin; refine wpList_append_rd rfl (.tmp 23) (.tmp 24) 35 rfl w.heap.size 9 i0 _ 1 16 Try.underlying35 hi hz0 hz1 hz2 (by decide) _ 0 [] rfl (.inl ⟨rfl, rfl, .inr ⟨_, rfl⟩⟩) _ cn (strsV c) rfl hrd2'.out (strsV_one _) (by unfold maxLen; omega) (by omega) (by simp) ?_; intro ao1 cc1 wa hrow1 hba; (simp only [Nat.zero_add, List.nil_append] at hrow1 ⊢); have hrow1' := Lib.hid hrow1; have hwa := Lib.hid (hb0'.out.trans hba); have hrd3 := Lib.hid (show Rd wa 1 (.slice a3 mn c3) mn (strsV m) by (have := (h3'.out.below hwa.out).rd; rw [hmn'.out] at this; exact this)); clear hrow1 hba)
    | (at_builtin; refine wpList_append_rd rfl (.tmp 25) (.tmp 26) 35 rfl w.heap.size 9 i0 _ 1 16 Try.underlying35 hi hz0 hz1 hz2 (by decide) _ cn (strsV c) rfl hrow1'.out _ mn (strsV m) rfl hrd3.out (strsV_one _) (by unfold maxLen; omega) (by omega) hwa.out.size ?_; intro ao2 cc2 wb hrow2 hbb))
  have hwb := Lib.hid (hwa.out.trans hbb)
  rw [← strsV_app] at hrow2
  have hrow2' := Lib.hid hrow2
  clear hrow2 hbb hwa hrow1' hrd2' hrd3 hi hz0 hz1 hz2
  have hsame : ∀ W, Below w.heap.size w W → ∀ v, StrsIn W v ((c ++ m).take gn) → Calls Try.prog 36 #[.slice a1 gn c1, v] W fun e w' => e = .returned (.bool true) ∧ ∃ n, w' = W.drewN n := by
    intro W hW v hv
    have e : (c ++ m).take gn = c ++ m.take q := by
      rw [hgn'.out, ← hcn'.out, List.take_append, List.take_of_length_le (by omega)]
      congr 2
      omega
    rw [e] at hv
    have := rsame_walk W _ v _ _ (h1'.out.below hW) hv (by rw [hgl'.out]; omega) (by rw [hgl'.out]; omega)
    rw [decide_eq_true rfl] at this
    exact this
  have hsame' := Lib.hid hsame
  clear hsame
  by_cases h0 : cn + mn = 0
  · have hg0 : gn = 0 := by omega
    subst hg0
    rw [h0] at hrow2' ⊢
    have hv : (ao2 = none ∧ cc2 = 0) ∨ ∃ kk, ao2 = some ⟨kk, 0, none⟩ := by
      rcases hrow2'.out with ⟨_, _, h | ⟨kk, h⟩⟩ | h
      · injection h with e1 e2 e3
        exact .inl ⟨e1, e3⟩
      · injection h with e1 e2 e3
        exact .inr ⟨kk, e1⟩
      · rcases h.2 with ⟨h, _⟩ | ⟨g, cap, cur, h, _⟩
        · injection h with e1 e2 e3
          exact .inl ⟨e1, e3⟩
        · injection h with e1 e2 e3
          exact .inr ⟨g, e1⟩
    have hcall := fun v hv => hsame'.out wb hwb.out v hv
    rw [List.take_zero] at hcall
    have hcall' := Lib.hid hcall
    clear hcall hsame'
    rcases hv with ⟨rfl, rfl⟩ | ⟨kk, rfl⟩
    · go_wp2_with (go_at_call 36; refine (hcall'.out _ ⟨_, _, rfl, fun j hj => by simp at hj⟩).mono ?_; rintro e9 u9 ⟨rfl, n9, rfl⟩)
      go_ret
      exact ⟨rfl, hwb.out.trans (below_drewN (Below.refl _ _) n9)⟩
    · go_wp2_with (go_at_call 36; refine (hcall'.out _ ⟨_, _, rfl, fun j hj => by simp at hj⟩).mono ?_; rintro e9 u9 ⟨rfl, n9, rfl⟩)
      go_ret
      exact ⟨rfl, hwb.out.trans (below_drewN (Below.refl _ _) n9)⟩
  · obtain ⟨gb, rfl, hcc, _⟩ := rowB_strs hrow2'.out (by rw [List.length_append, hcn'.out, hmn'.out]) (cn + mn) (Nat.le_refl _) (by omega)
    have hst : Hid (StrsIn wb (.slice (some ⟨gb, 0, none⟩) gn cc2) ((c ++ m).take gn)) := by
      by_cases hg0 : gn = 0
      · rw [hg0]
        exact ⟨_, _, rfl, fun j hj => by simp at hj⟩
      · obtain ⟨gb', e, _, h⟩ := rowB_strs hrow2'.out (by rw [List.length_append, hcn'.out, hmn'.out]) gn (by omega) (by omega)
        exact h
    have hg1 : (0 : Int) ≤ (gn : Int) := by omega
    have hg2 : (gn : Int) ≤ (cc2 : Int) := by omega
    have hcall := Lib.hid (hsame'.out wb hwb.out _ hst.out)
    clear hsame' hst
    go_wp2_with (go_at_call 36; refine hcall.out.mono ?_; rintro e9 u9 ⟨rfl, n9, rfl⟩)
    go_ret
    exact ⟨rfl, hwb.out.trans (below_drewN (Below.refl _ _) n9)⟩
end Go.Proofs.Ytlhnhhjpjkgogaa.wl
