/- The walk of confluentlaw47.begin. -/
import Derived.Test.YtakehkoicinlbaaDDurable
namespace Go.Proofs.Ytakehkoicinlbaa.dk
open Go.RowKit Go.Proofs.Ytakehkoicinlbaa.agg

/-- Calls, one behind another. -/
def runAll (st : St) (l : List ActV) : St := l.foldl (fun st x => (st.doit x).1) st
theorem runAll_snoc (st : St) (l : List ActV) (k : Nat) (h : k < l.length) : runAll st (l.take (k + 1)) = ((runAll st (l.take k)).doit l[k]).1 := by
  unfold runAll
  rw [take_snoc' l k h, List.foldl_append]
  rfl
theorem runAll_len (l : List ActV) : ∀ st : St, (runAll st l).dur.length = st.dur.length ∧ (runAll st l).pend.length ≤ st.pend.length + l.length := by
  induction l with
  | nil => intro st; exact ⟨rfl, Nat.le_refl _⟩
  | cons x l ih =>
    intro st
    obtain ⟨h1, h2⟩ := ih (st.doit x).1
    obtain ⟨h3, h4⟩ := doit_len st x
    refine ⟨h1.trans h3, Nat.le_trans h2 ?_⟩
    simp only [List.length_cons]; omega

theorem begin_no (n : Int) (hn : n < 1 ∨ 2048 < n) (lv : Value) (w : World) :
    Calls Try.prog 17 #[.int .i64 n, lv] w fun e w' => e = .returned (.pointer none) ∧ w = w' := by
  go_enter Try.func17, Try.ntmps17
  go_wp2_with fail
  refine (new_no n hn _).mono ?_
  rintro e w3 ⟨rfl, rfl⟩
  go_wp2
  go_ret
  exact ⟨rfl, rfl⟩

set_option maxHeartbeats 1000000 in
theorem begin_any (w : World) (m : Nat) (h1 : 1 ≤ m) (h2 : m ≤ 2048) {B : Nat} (hB : B ≤ w.heap.size) (lv : Value) (l : List ActV) (hl : ActsIn B w lv l) (hlm : l.length ≤ 1000) (hf1 : ∀ x ∈ l, x.sv.length ≤ 60) :
    Calls Try.prog 17 #[.int .i64 m, lv] w fun e w' => ∃ D g pv, e = .returned (.pointer (some ⟨D, 0, none⟩)) ∧ Live w.heap.size D g w w' pv (runAll (St.new m) l) := by
  obtain ⟨al, lcap, rfl, hat⟩ := hl.at_
  go_enter Try.func17, Try.ntmps17
  go_wp2_with fail
  refine (new_any m h1 h2 _).mono ?_
  rintro e w3 ⟨D, g, rfl, hd3, hb3, hD, hg⟩
  have L3 : Live w.heap.size D g w w3 (.slice none 0 0) (St.new m) := ⟨hd3, ge_foot hD hg, hb3⟩
  clear hd3 hb3 hD hg
  go_wp2_with fail
  go_loopw [22] (fun i wr => ∃ k : Nat, k ≤ l.length ∧ i = .int .i64 k ∧ ∃ pv, Live w.heap.size D g w wr pv (runAll (St.new m) (l.take k)))
    (fun i _ => l.length - (intOf i).toNat)
  case atStart => exact ⟨0, Nat.zero_le _, rfl, _, L3⟩
  case round =>
    obtain ⟨k, hk, rfl, pv, L⟩ := hrel
    by_cases hlt : k < l.length
    · have hmem : l[k] ∈ l := List.getElem_mem hlt
      obtain ⟨b, o, rfl, hBb, hc⟩ := hat (by omega)
      have hBr : Below B w wr := L.below.mono hB
      have hck : ∀ j u, (acells l[k]).toList[j]? = some u → wr.cell? ⟨b, o + k * 68 + j, none⟩ = some u := fun j u hu => (hBr.cell (p := ⟨b, o + k * 68 + j, none⟩) hBb).trans (hc k hlt j u hu)
      have hxd := hl.data l[k] hmem
      have hxi := (hl.ints l[k] hmem).below hBr
      have hxs := hf1 l[k] hmem
      obtain ⟨xa, xc, hxv, _⟩ := hl.ints l[k] hmem
      have hone : l[k].svv.oneCell' = true := by rw [hxv]; rfl
      have hz := zact_len
      have hsn := Lib.hid (runAll_snoc (St.new m) l k hlt)
      obtain ⟨hq1, hq2⟩ := runAll_len (l.take k) (St.new m)
      have hq3 : (runAll (St.new m) (l.take k)).pend.length ≤ 1000 := by
        have : (l.take k).length ≤ 1000 := by rw [List.length_take]; omega
        have : (St.new m).pend.length = 0 := rfl
        omega
      clear hq1 hq2
      clear hxv hc hat
      generalize runAll (St.new m) (l.take k) = st at *
      generalize l[k] = x at *
      have Lq := L.quiet (Nat.le_refl _) ((Below.refl wr.heap.size wr).alloc (Nat.le_refl _) (.cells (acells x) 35))
      have hdo := do_any _ Lq.disk x hxd (by omega) (((hxi.below ((Below.refl _ wr).alloc (Nat.le_trans hB L.below.size) _))).at (fun q hq => by have := Lq.ge q hq; omega)) (by omega)
      have hdo' := Lib.hid hdo
      clear hdo
      have hD := lt_of_block L.disk.blk
      go_wp2_with (with_reducible refine wpList_load_cells ag_act rfl (.tmp 24) rfl b (o + k * 68) rfl (acells x) (by rw [size_acells, hxd]) hck ?_)
      refine (hdo'.out).mono ?_
      rintro e w6 ⟨rfl, hd6⟩
      obtain ⟨pv6, L6⟩ := Lq.done (Nat.le_refl _) hd6
      go_wp2_with fail
      go_roundw
      case rel => exact ⟨k + 1, by omega, by go_num, pv6, by rw [hsn.out]; exact L6⟩
      case measure => simp [intOf]; omega
    · obtain rfl : k = l.length := by omega
      rw [List.take_length] at L
      go_wp2
      go_ret
      exact ⟨D, g, pv, rfl, L⟩
end Go.Proofs.Ytakehkoicinlbaa.dk
