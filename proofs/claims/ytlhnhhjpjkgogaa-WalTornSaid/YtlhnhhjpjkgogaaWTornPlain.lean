/- The plain law of WalTorn: what a torn write of a frame over another one leaves. No program is walked here. -/
import Derived.Test.YtlhnhhjpjkgogaaWParse
namespace Go.Proofs.Ytlhnhhjpjkgogaa.wl
open Go.RowKit Go.Proofs.Ytlhnhhjpjkgogaa.agg Go.Proofs.Ytlhnhhjpjkgogaa.dk

/-- A frame that a sector can hold. -/
structure Fr.Good (f : Fr) : Prop where
  epoch : 1 ≤ f.epoch ∧ f.epoch < 4294967296
  pos : 0 ≤ f.pos ∧ f.pos < 65536
  kind : 1 ≤ f.kind ∧ f.kind ≤ 4
  data : f.data.size ≤ 50
theorem be4 (n : Int) : be 4 n = [byteAt n 3, byteAt n 2, byteAt n 1, byteAt n 0] := rfl
theorem be2 (n : Int) : be 2 n = [byteAt n 1, byteAt n 0] := rfl
theorem num_be4 (n : Int) (h : 0 ≤ n ∧ n < 4294967296) : num (be 4 n) = n := by
  rw [be4]
  unfold byteAt
  simp only [num, List.foldl_cons, List.foldl_nil]
  omega
theorem num_be2 (n : Int) (h : 0 ≤ n ∧ n < 65536) : num (be 2 n) = n := by
  rw [be2]
  unfold byteAt
  simp only [num, List.foldl_cons, List.foldl_nil]
  omega
theorem byteAt_rng (n : Int) (j : Nat) : 0 ≤ byteAt n j ∧ byteAt n j < 256 := by unfold byteAt; omega
theorem be_rng (k : Nat) (n : Int) : ∀ c ∈ be k n, 0 ≤ c ∧ c < 256 := by
  intro c hc
  simp only [be, List.mem_map] at hc
  obtain ⟨i, _, rfl⟩ := hc
  exact byteAt_rng _ _
theorem Fr.Good.isSec {f : Fr} (h : f.Good) : IsSec f.sec := by
  refine ⟨f.length_sec h.data, ?_⟩
  have hh : ∀ c ∈ f.head, 0 ≤ c ∧ c < 256 := by
    intro c hc
    rcases List.mem_append.1 hc with hc | hc
    · exact be_rng _ _ c hc
    · exact be_rng _ _ c hc
  intro c hc
  rcases List.mem_append.1 hc with hc | hc
  · rcases List.mem_append.1 hc with hc | hc
    · exact hh c hc
    · rcases List.mem_append.1 hc with hc | hc
      · have h1 := h.kind
        have h2 := h.data
        simp at hc
        omega
      · rcases List.mem_append.1 hc with hc | hc
        · exact bts_range _ c hc
        · have := List.eq_of_mem_replicate hc
          omega
  · exact hh c hc
theorem sec_parts (f : Fr) : f.sec.take 4 = be 4 f.epoch ∧ (f.sec.drop 4).take 2 = be 2 f.pos ∧ f.sec.getD 6 0 = f.kind % 256 ∧ f.sec.getD 7 0 = f.data.size ∧ (f.sec.drop 8).take f.data.size = bts f.data := by
  have e : f.sec = be 4 f.epoch ++ (be 2 f.pos ++ (f.kind % 256 :: (f.data.size : Int) :: (bts f.data ++ (List.replicate (50 - f.data.size) 0 ++ f.head)))) := by
    unfold Fr.sec Fr.body
    conv => lhs; arg 1; arg 1; unfold Fr.head
    simp [List.append_assoc]
  rw [e, be4, be2]
  refine ⟨rfl, rfl, rfl, rfl, ?_⟩
  show (bts f.data ++ _).take f.data.size = _
  rw [← length_bts, List.take_left]
theorem parse_sec {f : Fr} (h : f.Good) : parseFr f.sec = (f, true) := by
  obtain ⟨p1, p2, p3, p4, p5⟩ := sec_parts f
  unfold parseFr
  rw [p1, p2, p3, p4, Int.toNat_natCast, p5, num_be4 _ (by have := h.epoch; omega), num_be2 _ h.pos, show f.kind % 256 = f.kind by have := h.kind; omega, strOf_bts]
  rw [if_neg (by have := h.epoch; have := h.kind; have := h.data; omega)]
  simp
theorem parse_true {s : List Int} {f : Fr} (h : parseFr s = (f, true)) : f.sec = s := by
  unfold parseFr at h
  split at h
  · simp at h
  · simp only [Prod.mk.injEq, decide_eq_true_eq] at h
    rw [← h.1]
    exact h.2
/-- A front of b over a. -/
def torn (a b : List Int) (k : Nat) : List Int := b.take k ++ a.drop k
theorem head_inj {f g : Fr} (hf : f.Good) (hg : g.Good) (h : f.head = g.head) : f.epoch = g.epoch ∧ f.pos = g.pos := by
  have h1 := congrArg (fun l => num (l.take 4)) h
  have h2 := congrArg (fun l => num (l.drop 4)) h
  simp only [Fr.head] at h1 h2
  rw [List.take_left' (length_be _ _), List.take_left' (length_be _ _), num_be4 _ (by have := hf.epoch; omega), num_be4 _ (by have := hg.epoch; omega)] at h1
  rw [List.drop_left' (length_be _ _), List.drop_left' (length_be _ _), num_be2 _ hf.pos, num_be2 _ hg.pos] at h2
  exact ⟨h1, h2⟩
theorem sec_head (f : Fr) : f.sec.take 6 = f.head := by unfold Fr.sec; rw [List.append_assoc]; exact take_head f _
theorem sec_tail (f : Fr) (h : f.data.size ≤ 50) : f.sec.drop 58 = f.head := by
  unfold Fr.sec
  rw [List.drop_left' (by simp [f.length_head, f.length_body h])]
/-- What is a frame of a torn sector is the old one or the new one. -/
theorem torn_frame {f g x : Fr} (hf : f.Good) (hg : g.Good) (hne : ¬ (f.epoch = g.epoch ∧ f.pos = g.pos)) (hx : x.data.size ≤ 50) (k : Nat) (hk : k ≤ 64) (h : x.sec = torn f.sec g.sec k) :
    x.sec = f.sec ∨ x.sec = g.sec := by
  have lf := f.length_sec hf.data
  have lg := g.length_sec hg.data
  have hh : f.head ≠ g.head := fun e => hne (head_inj hf hg e)
  have t1 := sec_head x
  have t2 := sec_tail x hx
  by_cases h58 : k ≤ 58
  · -- the tail is the old one's
    have e2 : x.head = f.head := by
      rw [← t2, ← sec_tail f hf.data, h]
      unfold torn
      rw [List.drop_append, List.drop_eq_nil_of_le (by simp; omega), List.nil_append, List.drop_drop]
      congr 1
      simp
      omega
    by_cases h6 : k < 6
    · left
      rw [← List.take_append_drop 6 x.sec, ← List.take_append_drop 6 f.sec, t1, e2, ← sec_head f]
      congr 1
      rw [h]
      unfold torn
      rw [List.drop_append, List.drop_eq_nil_of_le (by simp; omega), List.nil_append, List.drop_drop]
      congr 1
      simp
      omega
    · exfalso
      refine hh ?_
      rw [← e2, ← t1, ← sec_head g, h]
      unfold torn
      rw [List.take_append_of_le_length (by simp; omega), List.take_take, Nat.min_eq_left (by omega)]
  · -- the head is the new one's
    right
    have e2 : x.head = g.head := by
      rw [← t1, ← sec_head g, h]
      unfold torn
      rw [List.take_append_of_le_length (by simp; omega), List.take_take, Nat.min_eq_left (by omega)]
    rw [← List.take_append_drop 58 x.sec, ← List.take_append_drop 58 g.sec, t2, e2, ← sec_tail g hg.data]
    congr 1
    rw [h]
    unfold torn
    rw [List.take_append_of_le_length (by simp; omega), List.take_take, Nat.min_eq_left (by omega)]
end Go.Proofs.Ytlhnhhjpjkgogaa.wl
