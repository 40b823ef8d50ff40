/- Frames of a log as values, and the bytes of a sector of one. No program is walked here. -/
import Derived.Test.YtlhnhhjpjkgogaaWBytes
namespace Go.Proofs.Ytlhnhhjpjkgogaa.wl
open Go.RowKit Go.Proofs.Ytlhnhhjpjkgogaa.agg Go.Proofs.Ytlhnhhjpjkgogaa.dk

/-- The bytes of a string as numbers. -/
def bts (s : ByteArray) : List Int := s.data.toList.map fun b => (b.toNat : Int)
@[go_sem] theorem length_bts (s : ByteArray) : (bts s).length = s.size := by simp [bts]
theorem bts_range (s : ByteArray) : ∀ c ∈ bts s, 0 ≤ c ∧ c < 256 := by
  intro c hc
  simp only [bts, List.mem_map] at hc
  obtain ⟨b, _, rfl⟩ := hc
  have := b.toNat_lt
  omega
/-- The string of some bytes. -/
def strOf (l : List Int) : ByteArray := ⟨(l.map fun c => UInt8.ofNat c.toNat).toArray⟩
theorem strOf_bts (s : ByteArray) : strOf (bts s) = s := by
  unfold strOf bts
  obtain ⟨⟨l⟩⟩ := s
  congr 2
  rw [List.map_map]
  exact (List.map_congr_left (fun b _ => by simp)).trans (List.map_id' l)
theorem bts_strOf (l : List Int) (h : ∀ c ∈ l, 0 ≤ c ∧ c < 256) : bts (strOf l) = l := by
  unfold strOf bts
  simp only [List.map_map]
  refine (List.map_congr_left ?_).trans (List.map_id' l)
  intro c hc
  obtain ⟨h1, h2⟩ := h c hc
  simp only [Function.comp, UInt8.toNat_ofNat']
  omega
theorem size_strOf (l : List Int) : (strOf l).size = l.length := by simp [strOf, ByteArray.size]
theorem bts_inj {s t : ByteArray} (h : bts s = bts t) : s = t := by rw [← strOf_bts s, h, strOf_bts]

/-- A frame. -/
structure Fr where
  epoch : Int
  pos : Int
  kind : Int
  data : ByteArray
def Fr.cells (f : Fr) : Array Value := #[.int .i64 f.epoch, .int .i64 f.pos, .int .i64 f.kind, .string f.data]
/-- The first six bytes of a frame's sector, and its last six ones. -/
def Fr.head (f : Fr) : List Int := be 4 f.epoch ++ be 2 f.pos
theorem Fr.length_head (f : Fr) : f.head.length = 6 := by simp [Fr.head, length_be]
def Fr.body (f : Fr) : List Int := [f.kind % 256, (f.data.size : Int)] ++ (bts f.data ++ List.replicate (50 - f.data.size) 0)
theorem Fr.length_body (f : Fr) (h : f.data.size ≤ 50) : f.body.length = 52 := by simp [Fr.body, length_bts]; omega
/-- The content of the sector of a frame. -/
def Fr.sec (f : Fr) : List Int := f.head ++ f.body ++ f.head
theorem Fr.length_sec (f : Fr) (h : f.data.size ≤ 50) : f.sec.length = 64 := by simp [Fr.sec, f.length_head, f.length_body h]

/-- A list in which some are replaced. -/
def over (xs : List Int) (o : Nat) (ys : List Int) : List Int := xs.take o ++ ys ++ xs.drop (o + ys.length)
theorem length_over (xs : List Int) (o : Nat) (ys : List Int) (h : o + ys.length ≤ xs.length) : (over xs o ys).length = xs.length := by
  simp [over]; omega
theorem over_mid (a b c ys : List Int) (h : b.length = ys.length) : over (a ++ b ++ c) a.length ys = a ++ ys ++ c := by
  unfold over
  rw [show (a ++ b ++ c).take a.length = a by rw [List.append_assoc, List.take_left], ← h, ← List.length_append, List.drop_left]
theorem overrow_sec (xs : List Int) (o : Nat) (ys : List Int) : overrow (sec xs) o (sec ys) = sec (over xs o ys) := by
  apply Array.ext'
  simp [overrow, over, sec, u8s, List.map_take, List.map_drop]
theorem byteAt_be (k : Nat) (n : Int) (j : Nat) (hj : j < k) : (be k n)[k - 1 - j]? = some (byteAt n j) := by
  unfold be
  rw [List.getElem?_map, List.getElem?_range (by omega)]
  simp only [Option.map_some]
  congr 2
  omega
theorem putTo_get (c : Array Value) (o k : Nat) (n : Int) (hk : o + k ≤ c.size) : ∀ j, j ≤ k → ∀ i, (putTo c o k n j)[i]? = if o + (k - j) ≤ i ∧ i < o + k then some (.int .u8 (byteAt n (k - 1 - (i - o)))) else c[i]?
  | 0, _, i => by
    rw [if_neg (by omega)]
    rfl
  | j + 1, hj, i => by
    have ih := putTo_get c o k n hk j (by omega) i
    rw [putTo, Array.getElem?_setIfInBounds, size_putTo, ih]
    by_cases h : o + (k - 1 - j) = i
    · subst h
      rw [if_pos rfl, if_pos (by omega), if_pos (by omega)]
      rw [show k - 1 - (o + (k - 1 - j) - o) = j by omega]
    · rw [if_neg h]
      by_cases h2 : o + (k - j) ≤ i ∧ i < o + k
      · rw [if_pos h2, if_pos (by omega)]
      · rw [if_neg h2, if_neg (by omega)]
theorem putTo_sec (xs : List Int) (o k : Nat) (n : Int) (h : o + k ≤ xs.length) : putTo (sec xs) o k n k = sec (over xs o (be k n)) := by
  apply Array.ext_getElem?
  intro i
  rw [putTo_get _ _ _ _ (by rw [size_sec]; exact h) k (Nat.le_refl _)]
  have hl : (over xs o (be k n)).length = xs.length := length_over _ _ _ (by rw [length_be]; exact h)
  by_cases hi : o + (k - k) ≤ i ∧ i < o + k
  · rw [if_pos hi, sec_get _ _ (by rw [hl]; omega)]
    congr 2
    unfold over
    have e1 : (xs.take o).length = o := by simp; omega
    rw [List.getD_eq_getElem?_getD, List.append_assoc, List.getElem?_append_right (by omega), e1, List.getElem?_append_left (by rw [length_be]; omega)]
    have := byteAt_be k n (k - 1 - (i - o)) (by omega)
    rw [show k - 1 - (k - 1 - (i - o)) = i - o by omega] at this
    rw [this]
    rfl
  · rw [if_neg hi]
    by_cases hx : i < xs.length
    · rw [sec_get _ _ hx, sec_get _ _ (by rw [hl]; exact hx)]
      congr 2
      unfold over
      have e1 : (xs.take o).length = o := by simp; omega
      rw [List.getD_eq_getElem?_getD, List.getD_eq_getElem?_getD, List.append_assoc]
      by_cases ho : i < o
      · rw [List.getElem?_append_left (by omega), List.getElem?_take_of_lt ho]
      · rw [List.getElem?_append_right (by omega), e1, List.getElem?_append_right (by rw [length_be]; omega), length_be, List.getElem?_drop]
        rw [show o + k + (i - o - k) = i by omega]
    · rw [Array.getElem?_eq_none (by rw [size_sec]; omega), Array.getElem?_eq_none (by rw [size_sec, hl]; omega)]

/-- What the six steps of (frame).sector lay over a new sector. -/
def laid1 (f : Fr) : List Int := over (over zeros 0 (be 4 f.epoch)) 4 (be 2 f.pos)
theorem laid1_eq (f : Fr) : laid1 f = f.head ++ List.replicate 58 0 := by
  unfold laid1
  have h1 := over_mid [] (List.replicate 4 0) (List.replicate 60 0) (be 4 f.epoch) (by simp [length_be])
  have h2 := over_mid (be 4 f.epoch) (List.replicate 2 0) (List.replicate 58 0) (be 2 f.pos) (by simp [length_be])
  rw [length_be] at h2
  rw [show zeros = [] ++ List.replicate 4 0 ++ List.replicate 60 0 from rfl]
  rw [show (0 : Nat) = ([] : List Int).length from rfl, h1, List.nil_append, show List.replicate 60 (0 : Int) = List.replicate 2 0 ++ List.replicate 58 0 from rfl, ← List.append_assoc, h2]
  rfl
def laid2 (f : Fr) : List Int := f.head ++ [f.kind % 256, (f.data.size : Int)] ++ List.replicate 56 0
theorem laid2_eq (f : Fr) : ((sec (laid1 f)).setIfInBounds 6 (.int .u8 (f.kind % 256))).setIfInBounds 7 (.int .u8 (f.data.size : Int)) = sec (laid2 f) := by
  rw [laid1_eq]
  apply Array.ext'
  have hh := f.length_head
  simp only [sec, u8s, laid2, Array.toList_setIfInBounds, List.map_append]
  generalize hg : f.head.map (Value.int .u8) = l
  have hl : l.length = 6 := by rw [← hg]; simpa using hh
  rw [show List.map (Value.int .u8) (List.replicate 58 (0 : Int)) = [.int .u8 0, .int .u8 0] ++ List.map (Value.int .u8) (List.replicate 56 (0 : Int)) from rfl]
  simp [hl]
theorem laid3_eq (f : Fr) (h : f.data.size ≤ 50) : over (laid2 f) 8 (bts f.data) = f.head ++ f.body ++ List.replicate 6 0 := by
  have e : laid2 f = (f.head ++ [f.kind % 256, (f.data.size : Int)]) ++ List.replicate f.data.size 0 ++ List.replicate (56 - f.data.size) 0 := by
    unfold laid2
    rw [List.append_assoc _ (List.replicate f.data.size 0), List.replicate_append_replicate]
    congr 2
    omega
  have hm := over_mid (f.head ++ [f.kind % 256, (f.data.size : Int)]) (List.replicate f.data.size 0) (List.replicate (56 - f.data.size) 0) (bts f.data) (by simp [length_bts])
  rw [e]
  rw [show (f.head ++ [f.kind % 256, (f.data.size : Int)]).length = 8 by simp [f.length_head]] at hm
  rw [hm]
  unfold Fr.body
  simp only [List.append_assoc, List.replicate_append_replicate]
  congr 4
  congr 1
  omega
theorem laid4_eq (f : Fr) (h : f.data.size ≤ 50) : over (f.head ++ f.body ++ List.replicate 6 0) 58 f.head = f.sec := by
  have := over_mid (f.head ++ f.body) (List.replicate 6 0) [] f.head (by simp [f.length_head])
  rw [List.append_nil, List.append_nil, show (f.head ++ f.body).length = 58 by simp [f.length_head, f.length_body h]] at this
  exact this
theorem take_head (f : Fr) (r : List Int) : (f.head ++ r).take 6 = f.head := by rw [← f.length_head]; exact List.take_left
end Go.Proofs.Ytlhnhhjpjkgogaa.wl
