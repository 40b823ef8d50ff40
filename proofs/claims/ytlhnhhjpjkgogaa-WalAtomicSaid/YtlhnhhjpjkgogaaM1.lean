/- Numbers as bytes, the most significant one first, and the walks of confluent/wal's number and value. Frames of a log as values, and the bytes of a sector of one. No program is walked here. -/
import Derived.Test.YtlhnhhjpjkgogaaDBase
import Derived.Laws.BitsLemmas
namespace Go.Proofs.Ytlhnhhjpjkgogaa.wl
open Go.RowKit Go.Proofs.Ytlhnhhjpjkgogaa.agg Go.Proofs.Ytlhnhhjpjkgogaa.dk

/-- What many ways ask for, shown once. -/
theorem once {G R : Prop} (p : G) (r : G → R) : R := r p
/-- Byte number j (from the least significant one) of n. -/
def byteAt (n : Int) (j : Nat) : Int := (n / 2 ^ (8 * j)) % 256
/-- The k bytes of a number, the most significant one first. -/
def be (k : Nat) (n : Int) : List Int := (List.range k).map (fun i => byteAt n (k - 1 - i))
theorem length_be (k : Nat) (n : Int) : (be k n).length = k := by simp [be]
/-- The number that bytes are. -/
def num (l : List Int) : Int := l.foldl (fun n c => n * 256 + c) 0
theorem num_snoc (l : List Int) (c : Int) : num (l ++ [c]) = num l * 256 + c := by simp [num]
theorem num_bd_from : ∀ (l : List Int) (a : Int) (k : Nat), (∀ c ∈ l, 0 ≤ c ∧ c < 256) → 0 ≤ a → a < 256 ^ k → 0 ≤ l.foldl (fun n c => n * 256 + c) a ∧ l.foldl (fun n c => n * 256 + c) a < 256 ^ (k + l.length)
  | [], a, k, _, h0, h1 => ⟨h0, h1⟩
  | c :: l, a, k, h, h0, h1 => by
    obtain ⟨h3, h4⟩ := h c (by simp)
    have := num_bd_from l (a * 256 + c) (k + 1) (fun x hx => h x (by simp [hx])) (by omega) (by
      rw [Int.pow_succ]
      generalize (256 : Int) ^ k = p at *
      omega)
    rw [show k + 1 + l.length = k + (c :: l).length by simp; omega] at this
    exact this
theorem num_bd (l : List Int) (h : ∀ c ∈ l, 0 ≤ c ∧ c < 256) : 0 ≤ num l ∧ num l < 256 ^ l.length := by
  have := num_bd_from l 0 0 h (by omega) (by decide)
  rwa [Nat.zero_add] at this
theorem num_take4 (l : List Int) (hl : l.length ≤ 4) (hb : ∀ c ∈ l, 0 ≤ c ∧ c < 256) (j : Nat) (hj : j < l.length) : 0 ≤ num (l.take j) ∧ num (l.take j) < 16777216 := by
  obtain ⟨h1, h2⟩ := num_bd (l.take j) (fun c hc => hb c (List.mem_of_mem_take hc))
  refine ⟨h1, Int.lt_of_lt_of_le h2 ?_⟩
  have e : (l.take j).length = j := by simp; omega
  rw [e]
  have : j = 0 ∨ j = 1 ∨ j = 2 ∨ j = 3 := by omega
  rcases this with rfl | rfl | rfl | rfl <;> decide
theorem or_byte (x y : Int) (hx : 0 ≤ x) (hx' : x < 16777216) (hy : 0 ≤ y) (hy' : y < 256) : bits .or .i64 (wrap64 (x * 256)) (wrap64 y) = x * 256 + y := by
  rw [show wrap64 (x * 256) = x * 256 by unfold wrap64; omega, show wrap64 y = y by unfold wrap64; omega]
  exact bits_join .i64 63 (by decide) (fun n h0 h1 => by simp [IntKind.wrap, IntKind.bits, IntKind.signed]; omega) 8 (x * 256) y (by omega) (by omega) (by omega) (by omega) (by omega) (by omega)
/-- A row in which the last j bytes of a number of k bytes stand from offset o on. -/
def putTo (c : Array Value) (o k : Nat) (n : Int) : Nat → Array Value
  | 0 => c
  | j + 1 => (putTo c o k n j).setIfInBounds (o + (k - 1 - j)) (.int .u8 (byteAt n j))
theorem size_putTo (c : Array Value) (o k : Nat) (n : Int) : ∀ j, (putTo c o k n j).size = c.size
  | 0 => rfl
  | j + 1 => by rw [putTo, Array.size_setIfInBounds, size_putTo c o k n j]
theorem setRow_self {w : World} {g : Nat} {c : Array Value} {t : TypeId} (h : w.heap[g]? = some (.cells c t (0, 0))) : w.setRow g c = w := by
  have e : w.heap.modify g (fun _ => .cells c t (0, 0)) = w.heap := by
    apply Array.ext_getElem?
    intro k
    rw [Array.getElem?_modify]
    by_cases hk : g = k
    · subst hk; simp [h]
    · simp [hk]
  unfold World.setRow
  congr 1
  apply Array.ext_getElem?
  intro k
  rw [Array.getElem?_modify]
  by_cases hk : g = k
  · subst hk; simp [h]
  · simp [hk]
theorem setRow_setRow (w : World) (g : Nat) (a b : Array Value) : (w.setRow g a).setRow g b = w.setRow g b := by
  unfold World.setRow
  congr 1
  apply Array.ext_getElem?
  intro k
  simp only [Array.getElem?_modify]
  by_cases hk : g = k
  · subst hk
    cases w.heap[g]? with
    | none => simp
    | some o => cases o <;> simp
  · simp [hk]
set_option maxHeartbeats 400000 in
theorem number_walk (w : World) (g o k cap : Nat) (n : Int) (c : Array Value) (t : TypeId) (hg : w.heap[g]? = some (.cells c t (0, 0))) (hk : o + k ≤ c.size) (hk8 : k ≤ 8) :
    Calls Try.prog 73 #[.slice (some ⟨g, o, none⟩) k cap, .int .i64 n] w fun e w' => e = .returned (.tuple #[]) ∧ w' = w.setRow g (putTo c o k n k) := by
  go_enter Try.func73, Try.ntmps73
  go_wp2
  go_loopw [7] (fun i wr => ∃ j : Nat, j ≤ k ∧ i = .int .i64 j ∧ wr = w.setRow g (putTo c o k n j)) (fun i _ => k - (intOf i).toNat)
  case atStart => exact ⟨0, Nat.zero_le _, rfl, (setRow_self hg).symm⟩
  case round =>
    obtain ⟨j, hj, rfl, rfl⟩ := hrel
    by_cases hlt : j < k
    · have hjI : (j : Int) < k := by omega
      have hrow := setRow_heap w g c (putTo c o k n j) _ _ hg
      have hsz := size_putTo c o k n j
      obtain ⟨old, hcell⟩ : ∃ old, (w.setRow g (putTo c o k n j)).cell? ⟨g, o + (k - 1 - j), none⟩ = some old := by
        simp only [World.cell?, hrow]
        exact ⟨_, Array.getElem?_eq_getElem (by omega)⟩
      have hfr : (w.setRow g (putTo c o k n j)).frozen? ⟨g, o + (k - 1 - j), none⟩ = false := by simp [World.frozen?, hrow]
      have hnx : (w.setRow g (putTo c o k n j)).setCell ⟨g, o + (k - 1 - j), none⟩ (.int .u8 (n / 2 ^ (8 * j) % 256)) = w.setRow g (putTo c o k n (j + 1)) := by
        rw [setCell_eq_setRow _ g _ _ t (0, 0) _ hrow, setRow_setRow]
        rfl
      have hnx' := Lib.hid hnx
      clear hnx hrow hsz hg
      go_wp2
      go_roundw
      case rel => exact ⟨j + 1, by omega, by go_num, hnx'.out⟩
      case measure => simp [intOf]; omega
    · obtain rfl : j = k := by omega
      go_wp2
      go_end0
      exact ⟨rfl, rfl⟩
set_option maxHeartbeats 400000 in
theorem value_walk (w : World) (g o cap : Nat) (l : List Int) (hl : l.length ≤ 4) (hb : ∀ c ∈ l, 0 ≤ c ∧ c < 256) (hc : ∀ j, j < l.length → w.cell? ⟨g, o + j, none⟩ = some (.int .u8 (l.getD j 0))) :
    Calls Try.prog 72 #[.slice (some ⟨g, o, none⟩) l.length cap] w fun e w' => e = .returned (.int .i64 (num l)) ∧ w = w' := by
  go_enter Try.func72, Try.ntmps72
  go_wp2
  go_loop [3, 8] (fun v i => ∃ j : Nat, j ≤ l.length ∧ i = .int .i64 j ∧ v = .int .i64 (num (l.take j))) (fun _ i => l.length - (intOf i).toNat)
  case atStart => exact ⟨0, Nat.zero_le _, rfl, rfl⟩
  case round =>
    obtain ⟨j, hj, rfl, rfl⟩ := hrel
    by_cases hlt : j < l.length
    · have h1 := hc j hlt
      obtain ⟨b1, b2⟩ := hb _ (List.getElem_mem hlt)
      obtain ⟨n1, n2⟩ := num_take4 l hl hb j hlt
      have ho := Lib.hid (or_byte _ _ n1 n2 b1 b2)
      have hs : Hid (num (l.take (j + 1)) = num (l.take j) * 256 + l[j]) := by
        rw [List.take_succ_eq_append_getElem hlt, num_snoc]
        exact rfl
      clear n1 n2 b1 b2
      go_wp2
      go_round
      case rel => exact ⟨j + 1, by omega, by go_num, by rw [ho.out, hs.out]⟩
      case measure => simp [intOf]; omega
    · obtain rfl : j = l.length := by omega
      go_wp2
      go_ret
      exact ⟨rfl, rfl⟩
end Go.Proofs.Ytlhnhhjpjkgogaa.wl
namespace Go.Proofs.Ytlhnhhjpjkgogaa.wl
open Go.RowKit Go.Proofs.Ytlhnhhjpjkgogaa.agg Go.Proofs.Ytlhnhhjpjkgogaa.dk

/-- The bytes of a string as numbers. -/
def bts (s : ByteArray) : List Int := s.data.toList.map fun b => (b.toNat : Int)
@[go_sem] theorem length_bts (s : ByteArray) : (bts s).length = s.size := by simp [bts]
theorem bts_range (s : ByteArray) : ∀ c ∈ bts s, 0 ≤ c ∧ c < 256 := by
  intro c hc
  simp only [bts, List.mem_map] at hc
  obtain ⟨b, _, rfl⟩ := hc
  have := b.toNat_lt
  omega
/-- The string of some bytes. -/
def strOf (l : List Int) : ByteArray := ⟨(l.map fun c => UInt8.ofNat c.toNat).toArray⟩
theorem strOf_bts (s : ByteArray) : strOf (bts s) = s := by
  unfold strOf bts
  obtain ⟨⟨l⟩⟩ := s
  congr 2
  rw [List.map_map]
  exact (List.map_congr_left (fun b _ => by simp)).trans (List.map_id' l)
theorem bts_strOf (l : List Int) (h : ∀ c ∈ l, 0 ≤ c ∧ c < 256) : bts (strOf l) = l := by
  unfold strOf bts
  simp only [List.map_map]
  refine (List.map_congr_left ?_).trans (List.map_id' l)
  intro c hc
  obtain ⟨h1, h2⟩ := h c hc
  simp only [Function.comp, UInt8.toNat_ofNat']
  omega
theorem size_strOf (l : List Int) : (strOf l).size = l.length := by simp [strOf, ByteArray.size]
theorem bts_inj {s t : ByteArray} (h : bts s = bts t) : s = t := by rw [← strOf_bts s, h, strOf_bts]

/-- A frame. -/
structure Fr where
  epoch : Int
  pos : Int
  kind : Int
  data : ByteArray
def Fr.cells (f : Fr) : Array Value := #[.int .i64 f.epoch, .int .i64 f.pos, .int .i64 f.kind, .string f.data]
/-- The first six bytes of a frame's sector, and its last six ones. -/
def Fr.head (f : Fr) : List Int := be 4 f.epoch ++ be 2 f.pos
theorem Fr.length_head (f : Fr) : f.head.length = 6 := by simp [Fr.head, length_be]
def Fr.body (f : Fr) : List Int := [f.kind % 256, (f.data.size : Int)] ++ (bts f.data ++ List.replicate (50 - f.data.size) 0)
theorem Fr.length_body (f : Fr) (h : f.data.size ≤ 50) : f.body.length = 52 := by simp [Fr.body, length_bts]; omega
/-- The content of the sector of a frame. -/
def Fr.sec (f : Fr) : List Int := f.head ++ f.body ++ f.head
theorem Fr.length_sec (f : Fr) (h : f.data.size ≤ 50) : f.sec.length = 64 := by simp [Fr.sec, f.length_head, f.length_body h]

/-- A list in which some are replaced. -/
def over (xs : List Int) (o : Nat) (ys : List Int) : List Int := xs.take o ++ ys ++ xs.drop (o + ys.length)
theorem length_over (xs : List Int) (o : Nat) (ys : List Int) (h : o + ys.length ≤ xs.length) : (over xs o ys).length = xs.length := by
  simp [over]; omega
theorem over_mid (a b c ys : List Int) (h : b.length = ys.length) : over (a ++ b ++ c) a.length ys = a ++ ys ++ c := by
  unfold over
  rw [show (a ++ b ++ c).take a.length = a by rw [List.append_assoc, List.take_left], ← h, ← List.length_append, List.drop_left]
theorem overrow_sec (xs : List Int) (o : Nat) (ys : List Int) : overrow (sec xs) o (sec ys) = sec (over xs o ys) := by
  apply Array.ext'
  simp [overrow, over, sec, u8s, List.map_take, List.map_drop]
theorem byteAt_be (k : Nat) (n : Int) (j : Nat) (hj : j < k) : (be k n)[k - 1 - j]? = some (byteAt n j) := by
  unfold be
  rw [List.getElem?_map, List.getElem?_range (by omega)]
  simp only [Option.map_some]
  congr 2
  omega
theorem putTo_get (c : Array Value) (o k : Nat) (n : Int) (hk : o + k ≤ c.size) : ∀ j, j ≤ k → ∀ i, (putTo c o k n j)[i]? = if o + (k - j) ≤ i ∧ i < o + k then some (.int .u8 (byteAt n (k - 1 - (i - o)))) else c[i]?
  | 0, _, i => by
    rw [if_neg (by omega)]
    rfl
  | j + 1, hj, i => by
    have ih := putTo_get c o k n hk j (by omega) i
    rw [putTo, Array.getElem?_setIfInBounds, size_putTo, ih]
    by_cases h : o + (k - 1 - j) = i
    · subst h
      rw [if_pos rfl, if_pos (by omega), if_pos (by omega)]
      rw [show k - 1 - (o + (k - 1 - j) - o) = j by omega]
    · rw [if_neg h]
      by_cases h2 : o + (k - j) ≤ i ∧ i < o + k
      · rw [if_pos h2, if_pos (by omega)]
      · rw [if_neg h2, if_neg (by omega)]
theorem putTo_sec (xs : List Int) (o k : Nat) (n : Int) (h : o + k ≤ xs.length) : putTo (sec xs) o k n k = sec (over xs o (be k n)) := by
  apply Array.ext_getElem?
  intro i
  rw [putTo_get _ _ _ _ (by rw [size_sec]; exact h) k (Nat.le_refl _)]
  have hl : (over xs o (be k n)).length = xs.length := length_over _ _ _ (by rw [length_be]; exact h)
  by_cases hi : o + (k - k) ≤ i ∧ i < o + k
  · rw [if_pos hi, sec_get _ _ (by rw [hl]; omega)]
    congr 2
    unfold over
    have e1 : (xs.take o).length = o := by simp; omega
    rw [List.getD_eq_getElem?_getD, List.append_assoc, List.getElem?_append_right (by omega), e1, List.getElem?_append_left (by rw [length_be]; omega)]
    have := byteAt_be k n (k - 1 - (i - o)) (by omega)
    rw [show k - 1 - (k - 1 - (i - o)) = i - o by omega] at this
    rw [this]
    rfl
  · rw [if_neg hi]
    by_cases hx : i < xs.length
    · rw [sec_get _ _ hx, sec_get _ _ (by rw [hl]; exact hx)]
      congr 2
      unfold over
      have e1 : (xs.take o).length = o := by simp; omega
      rw [List.getD_eq_getElem?_getD, List.getD_eq_getElem?_getD, List.append_assoc]
      by_cases ho : i < o
      · rw [List.getElem?_append_left (by omega), List.getElem?_take_of_lt ho]
      · rw [List.getElem?_append_right (by omega), e1, List.getElem?_append_right (by rw [length_be]; omega), length_be, List.getElem?_drop]
        rw [show o + k + (i - o - k) = i by omega]
    · rw [Array.getElem?_eq_none (by rw [size_sec]; omega), Array.getElem?_eq_none (by rw [size_sec, hl]; omega)]

/-- What the six steps of (frame).sector lay over a new sector. -/
def laid1 (f : Fr) : List Int := over (over zeros 0 (be 4 f.epoch)) 4 (be 2 f.pos)
theorem laid1_eq (f : Fr) : laid1 f = f.head ++ List.replicate 58 0 := by
  unfold laid1
  have h1 := over_mid [] (List.replicate 4 0) (List.replicate 60 0) (be 4 f.epoch) (by simp [length_be])
  have h2 := over_mid (be 4 f.epoch) (List.replicate 2 0) (List.replicate 58 0) (be 2 f.pos) (by simp [length_be])
  rw [length_be] at h2
  rw [show zeros = [] ++ List.replicate 4 0 ++ List.replicate 60 0 from rfl]
  rw [show (0 : Nat) = ([] : List Int).length from rfl, h1, List.nil_append, show List.replicate 60 (0 : Int) = List.replicate 2 0 ++ List.replicate 58 0 from rfl, ← List.append_assoc, h2]
  rfl
def laid2 (f : Fr) : List Int := f.head ++ [f.kind % 256, (f.data.size : Int)] ++ List.replicate 56 0
theorem laid2_eq (f : Fr) : ((sec (laid1 f)).setIfInBounds 6 (.int .u8 (f.kind % 256))).setIfInBounds 7 (.int .u8 (f.data.size : Int)) = sec (laid2 f) := by
  rw [laid1_eq]
  apply Array.ext'
  have hh := f.length_head
  simp only [sec, u8s, laid2, Array.toList_setIfInBounds, List.map_append]
  generalize hg : f.head.map (Value.int .u8) = l
  have hl : l.length = 6 := by rw [← hg]; simpa using hh
  rw [show List.map (Value.int .u8) (List.replicate 58 (0 : Int)) = [.int .u8 0, .int .u8 0] ++ List.map (Value.int .u8) (List.replicate 56 (0 : Int)) from rfl]
  simp [hl]
theorem laid3_eq (f : Fr) (h : f.data.size ≤ 50) : over (laid2 f) 8 (bts f.data) = f.head ++ f.body ++ List.replicate 6 0 := by
  have e : laid2 f = (f.head ++ [f.kind % 256, (f.data.size : Int)]) ++ List.replicate f.data.size 0 ++ List.replicate (56 - f.data.size) 0 := by
    unfold laid2
    rw [List.append_assoc _ (List.replicate f.data.size 0), List.replicate_append_replicate]
    congr 2
    omega
  have hm := over_mid (f.head ++ [f.kind % 256, (f.data.size : Int)]) (List.replicate f.data.size 0) (List.replicate (56 - f.data.size) 0) (bts f.data) (by simp [length_bts])
  rw [e]
  rw [show (f.head ++ [f.kind % 256, (f.data.size : Int)]).length = 8 by simp [f.length_head]] at hm
  rw [hm]
  unfold Fr.body
  simp only [List.append_assoc, List.replicate_append_replicate]
  congr 4
  congr 1
  omega
theorem laid4_eq (f : Fr) (h : f.data.size ≤ 50) : over (f.head ++ f.body ++ List.replicate 6 0) 58 f.head = f.sec := by
  have := over_mid (f.head ++ f.body) (List.replicate 6 0) [] f.head (by simp [f.length_head])
  rw [List.append_nil, List.append_nil, show (f.head ++ f.body).length = 58 by simp [f.length_head, f.length_body h]] at this
  exact this
theorem take_head (f : Fr) (r : List Int) : (f.head ++ r).take 6 = f.head := by rw [← f.length_head]; exact List.take_left
end Go.Proofs.Ytlhnhhjpjkgogaa.wl
