/- The walk of slices.Equal over sectors, of two that are equal. -/
import Derived.Test.YtlhnhhjpjkgogaaWContent
namespace Go.Proofs.Ytlhnhhjpjkgogaa.wl
open Go.RowKit Go.Proofs.Ytlhnhhjpjkgogaa.agg Go.Proofs.Ytlhnhhjpjkgogaa.dk
set_option linter.unusedSimpArgs false
set_option linter.unusedVariables false

theorem flatD_cut (rest : List Value) : ∀ (l : List (List Int)) (k : Nat), (hk : k < l.length) → (∀ s ∈ l, s.length = 64) → ((flatD l ++ rest).drop (k * 64)).take 64 = u8s l[k]
  | [], k, hk, _ => by simp at hk
  | x :: l, k, hk, h => by
    have hx : (u8s x).length = 64 := by rw [length_u8s]; exact h x (by simp)
    have e : flatD (x :: l) ++ rest = u8s x ++ (flatD l ++ rest) := by simp [flatD]
    rw [e]
    cases k with
    | zero =>
      rw [Nat.zero_mul, List.drop_zero, List.take_append_of_le_length (by omega), List.take_of_length_le (by omega)]
      rfl
    | succ k =>
      rw [List.drop_append, List.drop_eq_nil_of_le (by omega), List.nil_append, hx, show (k + 1) * 64 - 64 = k * 64 by omega]
      exact flatD_cut rest l k (by simpa using hk) (fun s hs => h s (by simp [hs]))
/-- A row that begins with sectors. -/
def SecRow (X : List (List Int)) (b : Nat) (W : World) : Prop := ∃ cur t, W.heap[b]? = some (.cells cur t (0, 0)) ∧ cur.toList.take (X.length * 64) = flatD X
theorem SecRow.cut {X : List (List Int)} {b : Nat} {W : World} (h : SecRow X b W) (hX : ∀ s ∈ X, s.length = 64) (k : Nat) (hk : k < X.length) :
    ∀ u, (∃ n, u = W.drewN n) → k * 64 + 64 ≤ (rowOf u b).size ∧ 0 < 64 ∧ cut (rowOf u b) (k * 64) 64 = .agg (sec X[k]) := by
  rintro u ⟨n, rfl⟩
  obtain ⟨cur, t, hc, ht⟩ := h
  have hb : Below W.heap.size W (W.drewN n) := below_drewN (Below.refl _ _) n
  have hc2 := (hb.block _ (lt_of_block hc)).trans hc
  have hr : rowOf (W.drewN n) b = cur := rowOf_of hc2
  have hl : X.length * 64 ≤ cur.size := by
    have := congrArg List.length ht
    rw [List.length_take, size_flatD X hX] at this
    have hls : cur.toList.length = cur.size := Array.length_toList
    omega
  refine ⟨by rw [hr]; omega, by omega, ?_⟩
  rw [hr]
  unfold agg.cut
  congr 1
  apply Array.ext'
  rw [Array.toList_extract]
  show List.take (k * 64 + 64 - k * 64) (List.drop (k * 64) cur.toList) = u8s X[k]
  have h1 := flatD_cut (cur.toList.drop (X.length * 64)) X k hk hX
  rw [← ht, List.take_append_drop] at h1
  rw [← h1]
  congr 1
  omega
theorem SecRow.drewN {X : List (List Int)} {b : Nat} {W : World} (h : SecRow X b W) (n : Nat) : SecRow X b (W.drewN n) := by
  obtain ⟨cur, t, hc, ht⟩ := h
  have hb : Below W.heap.size W (W.drewN n) := below_drewN (Below.refl _ _) n
  exact ⟨cur, t, (hb.block _ (lt_of_block hc)).trans hc, ht⟩
set_option maxRecDepth 100000 in
set_option maxHeartbeats 2000000 in
theorem equal_walk (w : World) (b c V c2 n : Nat) (X : List (List Int)) (h1 : SecRow X b w) (h2 : SecRow X V w) (hX : ∀ s ∈ X, s.length = 64) (hn : X.length = n) (hn2 : n ≤ 100000) :
    Calls Try.prog 24 #[.slice (some ⟨b, 0, none⟩) n c, .slice (some ⟨V, 0, none⟩) n c2] w fun e w' => e = .returned (.bool true) ∧ ∃ m, w' = w.drewN m := by
  have h1' := Lib.hid h1
  have h2' := Lib.hid h2
  have hX' := Lib.hid hX
  have hn' := Lib.hid hn
  clear h1 h2 hX hn
  go_enter Try.func24, Try.ntmps24
  go_wp2_with fail
  go_loopw [13] (fun i wr => ∃ k m : Nat, k ≤ n ∧ i = .int .i64 k ∧ wr = w.drewN m) (fun i _ => n - (intOf i).toNat)
  case atStart => exact ⟨0, 0, Nat.zero_le _, rfl, rfl⟩
  case round =>
    obtain ⟨k, m, hk, rfl, rfl⟩ := hrel
    by_cases hlt : k < n
    · have hkX : k < X.length := by rw [hn'.out]; exact hlt
      have hQ1 := (h1'.out.drewN m).cut hX'.out k hkX
      have hQ2 := (h2'.out.drewN m).cut hX'.out k hkX
      have hx := hX'.out X[k] (List.getElem_mem hkX)
      generalize X[k] = x at *
      clear hkX
      generalize hW : w.drewN m = W at *
      have hW' := Lib.hid hW
      clear hW
      go_upto_region 6 with fail
      refine wp_region_quiet_lit (by kernel_rfl) (by kernel_rfl) ?_
      iterate 3 (go_big_quiet_step (fail))
      refine BigFrame.wpQuiet_want (by rfl) (fun K hK => ?_)
      refine quiet_load ag_sec (.tmp 18) b (k * 64) (sec x) rfl hQ1 ?_
      go_simp
      refine hK _ ?_
      clear hK K
      iterate 3 (go_big_quiet_step (fail))
      refine BigFrame.wpQuiet_want (by rfl) (fun K hK => ?_)
      refine quiet_load ag_sec (.tmp 22) V (k * 64) (sec x) rfl hQ2 ?_
      go_simp
      refine hK _ ?_
      clear hK K
      refine BigFrame.wpQuiet_want (by rfl) (fun K hK => ?_)
      refine quiet_neq (.tmp 19) (.tmp 23) x x rfl rfl hx hx ?_
      rw [decide_eq_true rfl]
      go_simp
      refine hK _ ?_
      clear hK K
      repeat (go_big_quiet_step (fail))
      refine wpQuiet_nil ?_
      intro _ hw'
      obtain ⟨nq, hw''⟩ := hw'
      subst hw''
      go_wp2_with fail
      go_roundw
      case rel => exact ⟨k + 1, m + nq, by omega, by go_num, by rw [← hW'.out]; simp⟩
      case measure => simp [intOf]; omega
    · obtain rfl : k = n := by omega
      go_wp2_with fail
      go_ret
      exact ⟨rfl, m, rfl⟩
end Go.Proofs.Ytlhnhhjpjkgogaa.wl
