/- The frames of a record, and the walks of wal.frames and wal.Sectors. -/
import Derived.Test.YtlhnhhjpjkgogaaWParse
namespace Go.Proofs.Ytlhnhhjpjkgogaa.wl
open Go.RowKit Go.Proofs.Ytlhnhhjpjkgogaa.agg Go.Proofs.Ytlhnhhjpjkgogaa.dk

/-- A piece of a record, the number of pieces, a piece's kind. -/
def chunk (r : ByteArray) (i : Nat) : ByteArray := r.extract (50 * i) (min (50 * i + 50) r.size)
def nfr (r : ByteArray) : Nat := max 1 ((r.size + 49) / 50)
def kindOf (n i : Nat) : Int := if n = 1 then 3 else if i = 0 then 1 else if i + 1 = n then 2 else 4
def frameAt (r : ByteArray) (e p : Int) (i : Nat) : Fr := ⟨e, p + i, kindOf (nfr r) i, chunk r i⟩
/-- The frames of a record. -/
def framesOf (r : ByteArray) (e p : Int) : List Fr := (List.range (nfr r)).map (frameAt r e p)
theorem length_framesOf (r : ByteArray) (e p : Int) : (framesOf r e p).length = nfr r := by simp [framesOf]
theorem size_chunk (r : ByteArray) (i : Nat) : (chunk r i).size ≤ 50 := by
  unfold chunk
  rw [ByteArray.size_extract]
  omega
def flatF (l : List Fr) : List Value := (l.map fun f => f.cells.toList).flatten
theorem length_flatF : ∀ l : List Fr, (flatF l).length = l.length * 4
  | [] => rfl
  | f :: l => by
    have := length_flatF l
    simp only [flatF, List.map_cons, List.flatten_cons, List.length_append, List.length_cons] at this ⊢
    rw [this]
    simp [Fr.cells]
    omega
theorem flatF_snoc (l : List Fr) (f : Fr) : flatF (l ++ [f]) = flatF l ++ f.cells.toList := by simp [flatF]
theorem take_frames (r : ByteArray) (e p : Int) (j : Nat) (hj : j < nfr r) : (framesOf r e p).take (j + 1) = (framesOf r e p).take j ++ [frameAt r e p j] := by
  rw [List.take_succ_eq_append_getElem (by rw [length_framesOf]; exact hj)]
  congr 2
  simp [framesOf]
theorem info_wfr : (Try.prog.info? 87).map (fun i => (i.zero, i.size, i.bytes)) = some (some (.agg Fr.none.cells), 4, 40) := by kernel_rfl

theorem own_form {w : World} {base : Nat} {e : TypeId} {size : Nat} {v : Value} {n : Nat} {xs : List Value} (h : w.ownsRow base e size v n xs) : ∃ ao cap, v = .slice ao n cap := by
  rcases h.2 with ⟨rfl, rfl⟩ | ⟨g, cap, cur, rfl, _⟩
  · exact ⟨_, _, rfl⟩
  · exact ⟨_, _, rfl⟩
theorem cells_new2 (w : World) (o : Obj) (c : Array Value) (t : TypeId) : ∀ j u, c.toList[j]? = some u → ((w.alloc o).alloc (.cells c t)).cell? ((⟨w.heap.size + 1, 0, none⟩ : Addr).add j) = some u := by
  have h := cells_new (w.alloc o) c t
  rw [show (w.alloc o).heap.size = w.heap.size + 1 by simp] at h
  exact h
/-- An append onto a slice of one's own, behind two new boxes. -/
theorem below_grown2 {B : Nat} {w w1 w' : World} {base : Nat} {e : TypeId} {size : Nat} {v : Value} {n : Nat} {xs : List Value} (hb : Below B w w1) (o o2 : Obj) (hs : B ≤ w1.heap.size) (hown : w1.ownsRow base e size v n xs) (hB : B ≤ base) (hg : ((w1.alloc o).alloc o2).grownBy w' v.ownBlock) : Below B w w' := by
  have hkp := ((Kept.alloc (F := fun b => v.ownBlock = some b) w1 o).trans' (Kept.alloc (F := fun b => v.ownBlock = some b) _ o2) (fun _ _ e => e)).trans' (Kept.grown hg (fun b hb => hb)) (fun _ _ e => e)
  have hk2 := hkp.below B hs (fun b hb => Nat.le_trans hB (hown.lt b hb).1)
  exact ⟨hk2.os.trans hb.os, hk2.tape.trans hb.tape, hk2.output.trans hb.output, Nat.le_trans hb.size hk2.size, fun i hi => (hk2.block i hi).trans (hb.block i hi)⟩
attribute [local go_sem ↓] load_fr
set_option maxRecDepth 100000 in
set_option maxHeartbeats 2000000 in
theorem frames_walk (w : World) (r : ByteArray) (e p : Int) (hr : r.size ≤ 65536) (hp : 0 ≤ p ∧ p ≤ 1000000) :
    Calls Try.prog 50 #[.string r, .int .i64 e, .int .i64 p] w fun x w' => ∃ g cap, x = .returned (.slice (some ⟨g, 0, none⟩) (nfr r) cap) ∧ w'.ownsRow w.heap.size 87 4 (.slice (some ⟨g, 0, none⟩) (nfr r) cap) (nfr r) (flatF (framesOf r e p)) ∧ Below w.heap.size w w' := by
  go_enter Try.func50, Try.ntmps50
  go_wp2_with fail
  go_loopw [0, 7] (fun s v wr => ∃ j : Nat, j < nfr r ∧ s = .string (r.extract (50 * j) r.size) ∧ wr.ownsRow w.heap.size 87 4 v j (flatF ((framesOf r e p).take j)) ∧ Below w.heap.size w wr) (fun s _ _ => match s with | .string x => x.size | _ => 0)
  case atStart => exact ⟨0, by unfold nfr; omega, by simp, World.ownsRow_nil _ _ _ _, Below.refl _ _⟩
  case round =>
    obtain ⟨j, hj, rfl, hown, hbl⟩ := hrel
    obtain ⟨ao, cap, rfl⟩ := own_form hown
    have hn4 : nfr r ≤ 1311 := by unfold nfr; omega
    have hj2 : j ≤ 1311 := by omega
    have hk0 : frameAt r e p j = ⟨e, p + j, kindOf (nfr r) j, chunk r j⟩ := rfl
    have hk := Lib.hid hk0
    have hch : Hid (chunk r j = (r.extract (50 * j) r.size).extract 0 (min 50 (r.extract (50 * j) r.size).size)) := by
      unfold chunk
      rw [ByteArray.extract_extract, ByteArray.size_extract]
      congr 1
      omega
    have hnx : Hid (r.extract (50 * (j + 1)) r.size = (r.extract (50 * j) r.size).extract 50 (r.extract (50 * j) r.size).size) := by
      rw [ByteArray.extract_extract, ByteArray.size_extract]
      congr 1
      · omega
    have hsz : (r.extract (50 * j) r.size).size = r.size - 50 * j := by rw [ByteArray.size_extract]; omega
    clear hk0
    generalize r.extract (50 * j) r.size = s at *
    obtain ⟨i0, hi, hz0, hz1, hz2⟩ := info_parts info_wfr
    by_cases hl : j + 1 = nfr r
    · have h50 : s.size ≤ 50 := by unfold nfr at hl; omega
      have h50' : ¬ (50 : Int) < s.size := by omega
      have hAll : Hid (framesOf r e p = (framesOf r e p).take j ++ [frameAt r e p j]) := by
        rw [← take_frames r e p j hj, hl, List.take_of_length_le (by rw [length_framesOf]; exact Nat.le_refl _)]
        exact rfl
      have hs' : Hid (chunk r j = s) := by
        rw [hch.out, Nat.min_eq_right h50, ByteArray.extract_zero_size]
        exact rfl
      have hn' := Lib.hid hl
      clear hsz hl
      by_cases h0 : j = 0
      · subst h0
        have hk3 := Lib.hid (show frameAt r e p 0 = ⟨e, p, 3, s⟩ by
          rw [hk.out, hs'.out]
          unfold kindOf
          rw [if_pos (by have := hn'.out; omega)]
          simp)
        replace hk := hk3
        clear hk3 hch hs'
        clear hnx
        go_wp2_with (at_builtin; refine wpList_append_mine rfl (.tmp 43) (.tmp 45) 101 rfl w.heap.size 87 i0 _ 4 40 Try.underlying101 hi hz0 hz1 hz2 (by decide) _ 0 _ rfl ((hown.alloc _).alloc _) ⟨wr.heap.size + 1, 0, none⟩ 1 1 (Fr.cells ⟨e, p, 3, s⟩).toList (by rfl) (by rfl) (by omega) (cells_new2 wr _ _ _) (by have := one_fr ⟨e, p, 3, s⟩; simpa only [oneCells, List.all_eq_true] using this) (by unfold maxLen; omega) (by omega) (by have := hbl.size; simp; omega) ?_; intro g' cap' w' hown' hgrow hnew)
        go_ret
        have hn1 : nfr r = 0 + 1 := by have := hn'.out; omega
        rw [hn1]
        refine ⟨g', cap', rfl, ?_, below_grown2 hbl _ _ hbl.size hown (Nat.le_refl _) hgrow⟩
        rw [hAll.out, flatF_snoc, hk.out]
        exact hown'
      · have hj0 : (0 : Int) < j := by omega
        have hj1 : ((j : Int) == 0) = false := by simp; omega
        have hk3 : Hid (frameAt r e p j = ⟨e, p + j, 2, s⟩) := by
          rw [hk.out, hs'.out]
          unfold kindOf
          rw [if_neg (by have := hn'.out; omega), if_neg h0, if_pos hn'.out]
          exact rfl
        replace hk := hk3
        clear hk3 hch hs'
        clear hnx h0
        go_wp2_with (at_builtin; refine wpList_append_mine rfl (.tmp 43) (.tmp 45) 101 rfl w.heap.size 87 i0 _ 4 40 Try.underlying101 hi hz0 hz1 hz2 (by decide) _ j _ rfl ((hown.alloc _).alloc _) ⟨wr.heap.size + 1, 0, none⟩ 1 1 (Fr.cells ⟨e, p + j, 2, s⟩).toList (by rfl) (by rfl) (by omega) (cells_new2 wr _ _ _) (by have := one_fr ⟨e, p + j, 2, s⟩; simpa only [oneCells, List.all_eq_true] using this) (by unfold maxLen; omega) (by omega) (by have := hbl.size; simp; omega) ?_; intro g' cap' w' hown' hgrow hnew)
        go_ret
        have hn1 : nfr r = j + 1 := by have := hn'.out; omega
        rw [hn1]
        refine ⟨g', cap', rfl, ?_, below_grown2 hbl _ _ hbl.size hown (Nat.le_refl _) hgrow⟩
        rw [hAll.out, flatF_snoc, hk.out]
        exact hown'
    · have h50 : (50 : Int) < s.size := by unfold nfr at hl hj; omega
      have hl' := Lib.hid hl
      have hTk := Lib.hid (take_frames r e p j hj)
      have h50n : 50 < s.size := by omega
      have hs' : Hid (chunk r j = s.extract 0 50) := by
        rw [hch.out, Nat.min_eq_left (by omega)]
        exact rfl
      have hne : (s.extract 50 s.size).size ≠ 0 := by rw [ByteArray.size_extract]; omega
      have hne2 : ((s.extract 50 s.size).toList == []) = false := by
        rw [beq_eq_false_iff_ne, ByteArray.toList_eq]
        intro h
        refine hne ?_
        have := congrArg List.length h
        rw [Array.length_toList] at this
        exact this
      have hne3 : (s.extract 50 s.size).toList.isEmpty = false := by
        rw [List.isEmpty_eq_false_iff]
        intro h
        rw [h] at hne2
        simp at hne2
      have hne' := Lib.hid hne
      have hsz' := Lib.hid hsz
      clear hl hne hne2 hsz
      by_cases h0 : j = 0
      · subst h0
        have hk3 := Lib.hid (show frameAt r e p 0 = ⟨e, p, 1, s.extract 0 50⟩ by
          rw [hk.out, hs'.out]
          unfold kindOf
          rw [if_neg (by have := hl'.out; omega), if_pos rfl]
          simp)
        replace hk := hk3
        clear hk3 hch hs'
        go_wp2_with (at_builtin; refine wpList_append_mine rfl (.tmp 43) (.tmp 45) 101 rfl w.heap.size 87 i0 _ 4 40 Try.underlying101 hi hz0 hz1 hz2 (by decide) _ 0 _ rfl ((hown.alloc _).alloc _) ⟨wr.heap.size + 1, 0, none⟩ 1 1 (Fr.cells ⟨e, p, 1, s.extract 0 50⟩).toList (by rfl) (by rfl) (by omega) (cells_new2 wr _ _ _) (by have := one_fr ⟨e, p, 1, s.extract 0 50⟩; simpa only [oneCells, List.all_eq_true] using this) (by unfold maxLen; omega) (by omega) (by have := hbl.size; simp; omega) ?_; intro g' cap' w' hown' hgrow hnew)
        go_roundw
        case rel =>
          refine ⟨0 + 1, by have := hl'.out; omega, by rw [hnx.out], ?_, below_grown2 hbl _ _ hbl.size hown (Nat.le_refl _) hgrow⟩
          rw [hTk.out, flatF_snoc, hk.out]
          exact hown'
        case measure => simp; omega
      · have hj0 : (0 : Int) < j := by omega
        have hj1 : ((j : Int) == 0) = false := by simp; omega
        have hk3 : Hid (frameAt r e p j = ⟨e, p + j, 4, s.extract 0 50⟩) := by
          rw [hk.out, hs'.out]
          unfold kindOf
          rw [if_neg (by have := hl'.out; omega), if_neg h0, if_neg hl'.out]
          exact rfl
        replace hk := hk3
        clear hk3 hch hs'
        clear h0
        go_wp2_with (at_builtin; refine wpList_append_mine rfl (.tmp 43) (.tmp 45) 101 rfl w.heap.size 87 i0 _ 4 40 Try.underlying101 hi hz0 hz1 hz2 (by decide) _ j _ rfl ((hown.alloc _).alloc _) ⟨wr.heap.size + 1, 0, none⟩ 1 1 (Fr.cells ⟨e, p + j, 4, s.extract 0 50⟩).toList (by rfl) (by rfl) (by omega) (cells_new2 wr _ _ _) (by have := one_fr ⟨e, p + j, 4, s.extract 0 50⟩; simpa only [oneCells, List.all_eq_true] using this) (by unfold maxLen; omega) (by omega) (by have := hbl.size; simp; omega) ?_; intro g' cap' w' hown' hgrow hnew)
        go_roundw
        case rel =>
          refine ⟨j + 1, by have := hl'.out; omega, by rw [hnx.out], ?_, below_grown2 hbl _ _ hbl.size hown (Nat.le_refl _) hgrow⟩
          rw [hTk.out, flatF_snoc, hk.out]
          exact hown'
        case measure => simp; omega
end Go.Proofs.Ytlhnhhjpjkgogaa.wl
