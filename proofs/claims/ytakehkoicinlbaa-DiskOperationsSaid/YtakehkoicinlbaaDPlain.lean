/- What the disk's operations do to one sector: plain laws. -/
import Derived.Test.YtakehkoicinlbaaDFew
namespace Go.Proofs.Ytakehkoicinlbaa.dk
open Go.RowKit Go.Proofs.Ytakehkoicinlbaa.agg

theorem getD_set_other {α : Type} (l : List α) (i n : Nat) (v d : α) (h : i ≠ n) : (l.set i v).getD n d = l.getD n d := by
  simp [List.getD, h]
theorem lay_other (d : List (List Int)) (x : Int × List Int) (k : Int) (n : Nat) (h0 : 0 ≤ x.1) (h : x.1 ≠ n) : (lay d x k).getD n [] = d.getD n [] := by
  unfold lay
  exact getD_set_other _ _ _ _ _ (by omega)
theorem layAll_other (n : Nat) : ∀ (l : List (Int × List Int)) (d : List (List Int)), (∀ x ∈ l, 0 ≤ x.1 ∧ x.1 ≠ n) → (layAll d l).getD n [] = d.getD n []
  | [], _, _ => rfl
  | x :: l, d, h => by
    show (layAll (lay d x 64) l).getD n [] = _
    rw [layAll_other n l _ (fun y hy => h y (by simp [hy])), lay_other d x 64 n (h x (by simp)).1 (h x (by simp)).2]
theorem layCrash_other (n : Nat) (sv : List Int) : ∀ (l : List (Int × List Int)) (d : List (List Int)) (i : Nat), (∀ x ∈ l, 0 ≤ x.1 ∧ x.1 ≠ n) → (layCrash sv d i l).getD n [] = d.getD n []
  | [], _, _, _ => rfl
  | x :: l, d, i, h => by
    simp only [layCrash]
    rw [layCrash_other n sv l _ _ (fun y hy => h y (by simp [hy]))]
    split
    · exact lay_other d x _ n (h x (by simp)).1 (h x (by simp)).2
    · rfl
theorem length_layCrash (sv : List Int) : ∀ (l : List (Int × List Int)) (d : List (List Int)) (i : Nat), (layCrash sv d i l).length = d.length
  | [], _, _ => rfl
  | x :: l, d, i => by
    simp only [layCrash]
    rw [length_layCrash sv l]
    split
    · exact length_lay _ _ _
    · rfl
theorem lay_same (d : List (List Int)) (n : Nat) (xs : List Int) (hn : n < d.length) (hx : xs.length = 64) (hd : (d.getD n []).length = 64) : (lay d ((n : Int), xs) 64).getD n [] = xs := by
  have h : (lay d ((n : Int), xs) 64).getD n [] = overlay (d.getD n []) xs 64 := by
    unfold lay
    simp only [Int.toNat_natCast]
    rw [show few64 64 = 64 by decide]
    simp [List.getD, hn]
  rw [h]
  unfold overlay
  rw [List.take_of_length_le (by omega), List.drop_of_length_le (by omega), List.append_nil]

theorem write_pend (st : St) (n : Int) (data : List Int) : (st.write n data).1.dur = st.dur ∧ ((st.write n data).1.pend = st.pend ∨ (0 ≤ n ∧ n < st.dur.length ∧ (st.write n data).1.pend = st.pend ++ [(n, data)])) := by
  unfold St.write
  split
  · exact ⟨rfl, .inl rfl⟩
  · split
    · exact ⟨St.call_dur st, .inl (St.call_pend st)⟩
    · exact ⟨St.call_dur st, .inr ⟨by omega, by omega, rfl⟩⟩
theorem flush_pend (st : St) : ((st.flush).1.dur = st.dur ∧ (st.flush).1.pend = st.pend) ∨ ((st.flush).1.dur = layAll st.dur st.pend ∧ (st.flush).1.pend = []) := by
  unfold St.flush
  split
  · exact .inl ⟨St.call_dur st, St.call_pend st⟩
  · exact .inr ⟨rfl, rfl⟩
theorem read_pend (st : St) (n : Int) : (st.read n).1.dur = st.dur ∧ (st.read n).1.pend = st.pend := by
  unfold St.read
  split
  · exact ⟨rfl, rfl⟩
  · split <;> exact ⟨rfl, rfl⟩
theorem failAfter_pend (st : St) (n : Int) : (st.failAfter n).dur = st.dur ∧ (st.failAfter n).pend = st.pend := by
  unfold St.failAfter
  split <;> exact ⟨rfl, rfl⟩

/-- One sector's durable contents, and no pending write to it. -/
def Keeps (n : Nat) (data : List Int) (st : St) : Prop := st.dur.getD n [] = data ∧ ∀ x ∈ st.pend, x.1 ≠ n
theorem doit_len (st : St) (x : ActV) : (st.doit x).1.dur.length = st.dur.length ∧ (st.doit x).1.pend.length ≤ st.pend.length + 1 := by
  unfold St.doit
  split
  · obtain ⟨h1, h2 | ⟨_, _, h2⟩⟩ := write_pend st x.sector x.data
    · simp only [h1, h2]; first | omega | exact ⟨rfl, by omega⟩ | simp
    · simp only [h1, h2, List.length_append, List.length_cons, List.length_nil]; first | omega | exact ⟨rfl, by omega⟩ | simp
  · split
    · rcases flush_pend st with ⟨h1, h2⟩ | ⟨h1, h2⟩
      · simp only [h1, h2]; first | omega | exact ⟨rfl, by omega⟩ | simp
      · simp only [h1, h2, length_layAll, List.length_nil]; first | omega | exact ⟨rfl, by omega⟩ | simp
    · split
      · obtain ⟨h1, h2⟩ := read_pend st x.sector
        rw [h1, h2]; first | omega | exact ⟨rfl, by omega⟩ | simp
      · split
        · simp only [St.crash, length_layCrash, List.length_nil]; first | omega | exact ⟨rfl, by omega⟩ | simp
        · split
          · obtain ⟨h1, h2⟩ := failAfter_pend st x.n
            simp only [h1, h2]; first | omega | exact ⟨rfl, by omega⟩ | simp
          · simp
theorem doit_keeps {n : Nat} {data : List Int} {st : St} (h : Keeps n data st) (hp : ∀ x ∈ st.pend, 0 ≤ x.1 ∧ x.1 < st.dur.length) (x : ActV) (hx : x.kind ≠ 0 ∨ x.sector ≠ n) : Keeps n data (st.doit x).1 := by
  obtain ⟨h1, h2⟩ := h
  have h3 : ∀ x ∈ st.pend, 0 ≤ x.1 ∧ x.1 ≠ n := fun x hx => ⟨(hp x hx).1, h2 x hx⟩
  unfold St.doit
  split
  · rename_i hk
    obtain ⟨e1, e2 | ⟨_, _, e2⟩⟩ := write_pend st x.sector x.data
    · exact ⟨by simp only [e1]; exact h1, by simp only [e2]; exact h2⟩
    · refine ⟨by simp only [e1]; exact h1, ?_⟩
      simp only [e2]
      intro y hy
      rcases List.mem_append.1 hy with hy | hy
      · exact h2 y hy
      · simp at hy
        subst hy
        exact hx.resolve_left (fun h => h hk)
  · split
    · rcases flush_pend st with ⟨e1, e2⟩ | ⟨e1, e2⟩
      · exact ⟨by simp only [e1]; exact h1, by simp only [e2]; exact h2⟩
      · exact ⟨by simp only [e1]; rw [layAll_other n _ _ h3]; exact h1, by simp only [e2]; simp⟩
    · split
      · obtain ⟨e1, e2⟩ := read_pend st x.sector
        exact ⟨by rw [e1]; exact h1, by rw [e2]; exact h2⟩
      · split
        · exact ⟨by simp only [St.crash]; rw [layCrash_other n _ _ _ _ h3]; exact h1, by simp [St.crash]⟩
        · split
          · obtain ⟨e1, e2⟩ := failAfter_pend st x.n
            exact ⟨by simp only [e1]; exact h1, by simp only [e2]; exact h2⟩
          · exact ⟨h1, h2⟩
/-- What is read behind a crash. -/
theorem crash_read {n : Nat} {data : List Int} {st : St} (h : Keeps n data st) (hp : ∀ x ∈ st.pend, 0 ≤ x.1 ∧ x.1 < st.dur.length) (hn : n < st.dur.length) (sv : List Int) : ((st.crash sv).read n).2 = (data, 0) := by
  have h3 : ∀ x ∈ st.pend, 0 ≤ x.1 ∧ x.1 ≠ n := fun x hx => ⟨(hp x hx).1, h.2 x hx⟩
  have hl : (st.crash sv).dur.length = st.dur.length := by simp only [St.crash, length_layCrash]
  have hv : (st.crash sv).visible n = data := by
    unfold St.visible
    have : lastTo (st.crash sv).pend n = none := by simp [lastTo, St.crash]
    rw [this]
    simp only [Int.toNat_natCast, St.crash]
    rw [layCrash_other n _ _ _ _ h3]
    exact h.1
  unfold St.read
  rw [if_neg (by rw [hl]; omega), if_neg (by simp [St.crash])]
  simp only [hv]
/-- A write and a flush of a new disk. -/
theorem new_write {m n : Nat} (hn : n < m) (data : List Int) (hd : data.length = 64) :
    ((St.new m).write n data).2 = 0 ∧ (((St.new m).write n data).1.flush).2 = 0 ∧ Keeps n data (((St.new m).write n data).1.flush).1 ∧ (((St.new m).write n data).1.flush).1.dur.length = m ∧ (((St.new m).write n data).1.flush).1.pend = [] := by
  have h1 : (St.new m).call = St.new m := by simp [St.call, St.new]
  have hl : (St.new m).dur.length = m := by simp [St.new]
  have e1 : (St.new m).write n data = ({ St.new m with pend := [((n : Int), data)], wr := wrap64 (0 + 1) }, 0) := by
    unfold St.write
    rw [if_neg (by rw [hl]; omega), h1, if_neg (by simp [St.new])]
    simp [St.new]
  have h2 : ({ St.new m with pend := [((n : Int), data)], wr := wrap64 (0 + 1) } : St).call = { St.new m with pend := [((n : Int), data)], wr := wrap64 (0 + 1) } := by simp [St.call, St.new]
  have e2 : ({ St.new m with pend := [((n : Int), data)], wr := wrap64 (0 + 1) } : St).flush = ({ St.new m with dur := lay (St.new m).dur ((n : Int), data) 64, pend := [], wr := wrap64 (0 + 1), fl := wrap64 (0 + 1) }, 0) := by
    unfold St.flush
    rw [h2, if_neg (by simp [St.new])]
    simp [St.new, layAll]
  rw [e1]
  simp only [e2]
  refine ⟨trivial, trivial, ⟨?_, by simp⟩, by rw [length_lay, hl], trivial⟩
  refine lay_same _ n data (by rw [hl]; exact hn) hd ?_
  have : (St.new m).dur.getD n [] = zeros := by simp [St.new, List.getD, hn]
  rw [this]
  exact length_zeros
end Go.Proofs.Ytakehkoicinlbaa.dk
