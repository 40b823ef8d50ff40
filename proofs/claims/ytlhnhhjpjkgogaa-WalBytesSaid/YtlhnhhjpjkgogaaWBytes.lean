/- Numbers as bytes, the most significant one first, and the walks of confluent/wal's number and value. -/
import Derived.Test.YtlhnhhjpjkgogaaDBase
import Derived.Laws.BitsLemmas
namespace Go.Proofs.Ytlhnhhjpjkgogaa.wl
open Go.RowKit Go.Proofs.Ytlhnhhjpjkgogaa.agg Go.Proofs.Ytlhnhhjpjkgogaa.dk

/-- What many ways ask for, shown once. -/
theorem once {G R : Prop} (p : G) (r : G → R) : R := r p
/-- Byte number j (from the least significant one) of n. -/
def byteAt (n : Int) (j : Nat) : Int := (n / 2 ^ (8 * j)) % 256
/-- The k bytes of a number, the most significant one first. -/
def be (k : Nat) (n : Int) : List Int := (List.range k).map (fun i => byteAt n (k - 1 - i))
theorem length_be (k : Nat) (n : Int) : (be k n).length = k := by simp [be]
/-- The number that bytes are. -/
def num (l : List Int) : Int := l.foldl (fun n c => n * 256 + c) 0
theorem num_snoc (l : List Int) (c : Int) : num (l ++ [c]) = num l * 256 + c := by simp [num]
theorem num_bd_from : ∀ (l : List Int) (a : Int) (k : Nat), (∀ c ∈ l, 0 ≤ c ∧ c < 256) → 0 ≤ a → a < 256 ^ k → 0 ≤ l.foldl (fun n c => n * 256 + c) a ∧ l.foldl (fun n c => n * 256 + c) a < 256 ^ (k + l.length)
  | [], a, k, _, h0, h1 => ⟨h0, h1⟩
  | c :: l, a, k, h, h0, h1 => by
    obtain ⟨h3, h4⟩ := h c (by simp)
    have := num_bd_from l (a * 256 + c) (k + 1) (fun x hx => h x (by simp [hx])) (by omega) (by
      rw [Int.pow_succ]
      generalize (256 : Int) ^ k = p at *
      omega)
    rw [show k + 1 + l.length = k + (c :: l).length by simp; omega] at this
    exact this
theorem num_bd (l : List Int) (h : ∀ c ∈ l, 0 ≤ c ∧ c < 256) : 0 ≤ num l ∧ num l < 256 ^ l.length := by
  have := num_bd_from l 0 0 h (by omega) (by decide)
  rwa [Nat.zero_add] at this
theorem num_take4 (l : List Int) (hl : l.length ≤ 4) (hb : ∀ c ∈ l, 0 ≤ c ∧ c < 256) (j : Nat) (hj : j < l.length) : 0 ≤ num (l.take j) ∧ num (l.take j) < 16777216 := by
  obtain ⟨h1, h2⟩ := num_bd (l.take j) (fun c hc => hb c (List.mem_of_mem_take hc))
  refine ⟨h1, Int.lt_of_lt_of_le h2 ?_⟩
  have e : (l.take j).length = j := by simp; omega
  rw [e]
  have : j = 0 ∨ j = 1 ∨ j = 2 ∨ j = 3 := by omega
  rcases this with rfl | rfl | rfl | rfl <;> decide
theorem or_byte (x y : Int) (hx : 0 ≤ x) (hx' : x < 16777216) (hy : 0 ≤ y) (hy' : y < 256) : bits .or .i64 (wrap64 (x * 256)) (wrap64 y) = x * 256 + y := by
  rw [show wrap64 (x * 256) = x * 256 by unfold wrap64; omega, show wrap64 y = y by unfold wrap64; omega]
  exact bits_join .i64 63 (by decide) (fun n h0 h1 => by simp [IntKind.wrap, IntKind.bits, IntKind.signed]; omega) 8 (x * 256) y (by omega) (by omega) (by omega) (by omega) (by omega) (by omega)
/-- A row in which the last j bytes of a number of k bytes stand from offset o on. -/
def putTo (c : Array Value) (o k : Nat) (n : Int) : Nat → Array Value
  | 0 => c
  | j + 1 => (putTo c o k n j).setIfInBounds (o + (k - 1 - j)) (.int .u8 (byteAt n j))
theorem size_putTo (c : Array Value) (o k : Nat) (n : Int) : ∀ j, (putTo c o k n j).size = c.size
  | 0 => rfl
  | j + 1 => by rw [putTo, Array.size_setIfInBounds, size_putTo c o k n j]
theorem setRow_self {w : World} {g : Nat} {c : Array Value} {t : TypeId} (h : w.heap[g]? = some (.cells c t (0, 0))) : w.setRow g c = w := by
  have e : w.heap.modify g (fun _ => .cells c t (0, 0)) = w.heap := by
    apply Array.ext_getElem?
    intro k
    rw [Array.getElem?_modify]
    by_cases hk : g = k
    · subst hk; simp [h]
    · simp [hk]
  unfold World.setRow
  congr 1
  apply Array.ext_getElem?
  intro k
  rw [Array.getElem?_modify]
  by_cases hk : g = k
  · subst hk; simp [h]
  · simp [hk]
theorem setRow_setRow (w : World) (g : Nat) (a b : Array Value) : (w.setRow g a).setRow g b = w.setRow g b := by
  unfold World.setRow
  congr 1
  apply Array.ext_getElem?
  intro k
  simp only [Array.getElem?_modify]
  by_cases hk : g = k
  · subst hk
    cases w.heap[g]? with
    | none => simp
    | some o => cases o <;> simp
  · simp [hk]
set_option maxHeartbeats 400000 in
theorem number_walk (w : World) (g o k cap : Nat) (n : Int) (c : Array Value) (t : TypeId) (hg : w.heap[g]? = some (.cells c t (0, 0))) (hk : o + k ≤ c.size) (hk8 : k ≤ 8) :
    Calls Try.prog 73 #[.slice (some ⟨g, o, none⟩) k cap, .int .i64 n] w fun e w' => e = .returned (.tuple #[]) ∧ w' = w.setRow g (putTo c o k n k) := by
  go_enter Try.func73, Try.ntmps73
  go_wp2
  go_loopw [7] (fun i wr => ∃ j : Nat, j ≤ k ∧ i = .int .i64 j ∧ wr = w.setRow g (putTo c o k n j)) (fun i _ => k - (intOf i).toNat)
  case atStart => exact ⟨0, Nat.zero_le _, rfl, (setRow_self hg).symm⟩
  case round =>
    obtain ⟨j, hj, rfl, rfl⟩ := hrel
    by_cases hlt : j < k
    · have hjI : (j : Int) < k := by omega
      have hrow := setRow_heap w g c (putTo c o k n j) _ _ hg
      have hsz := size_putTo c o k n j
      obtain ⟨old, hcell⟩ : ∃ old, (w.setRow g (putTo c o k n j)).cell? ⟨g, o + (k - 1 - j), none⟩ = some old := by
        simp only [World.cell?, hrow]
        exact ⟨_, Array.getElem?_eq_getElem (by omega)⟩
      have hfr : (w.setRow g (putTo c o k n j)).frozen? ⟨g, o + (k - 1 - j), none⟩ = false := by simp [World.frozen?, hrow]
      have hnx : (w.setRow g (putTo c o k n j)).setCell ⟨g, o + (k - 1 - j), none⟩ (.int .u8 (n / 2 ^ (8 * j) % 256)) = w.setRow g (putTo c o k n (j + 1)) := by
        rw [setCell_eq_setRow _ g _ _ t (0, 0) _ hrow, setRow_setRow]
        rfl
      have hnx' := Lib.hid hnx
      clear hnx hrow hsz hg
      go_wp2
      go_roundw
      case rel => exact ⟨j + 1, by omega, by go_num, hnx'.out⟩
      case measure => simp [intOf]; omega
    · obtain rfl : j = k := by omega
      go_wp2
      go_end0
      exact ⟨rfl, rfl⟩
set_option maxHeartbeats 400000 in
theorem value_walk (w : World) (g o cap : Nat) (l : List Int) (hl : l.length ≤ 4) (hb : ∀ c ∈ l, 0 ≤ c ∧ c < 256) (hc : ∀ j, j < l.length → w.cell? ⟨g, o + j, none⟩ = some (.int .u8 (l.getD j 0))) :
    Calls Try.prog 72 #[.slice (some ⟨g, o, none⟩) l.length cap] w fun e w' => e = .returned (.int .i64 (num l)) ∧ w = w' := by
  go_enter Try.func72, Try.ntmps72
  go_wp2
  go_loop [3, 8] (fun v i => ∃ j : Nat, j ≤ l.length ∧ i = .int .i64 j ∧ v = .int .i64 (num (l.take j))) (fun _ i => l.length - (intOf i).toNat)
  case atStart => exact ⟨0, Nat.zero_le _, rfl, rfl⟩
  case round =>
    obtain ⟨j, hj, rfl, rfl⟩ := hrel
    by_cases hlt : j < l.length
    · have h1 := hc j hlt
      obtain ⟨b1, b2⟩ := hb _ (List.getElem_mem hlt)
      obtain ⟨n1, n2⟩ := num_take4 l hl hb j hlt
      have ho := Lib.hid (or_byte _ _ n1 n2 b1 b2)
      have hs : Hid (num (l.take (j + 1)) = num (l.take j) * 256 + l[j]) := by
        rw [List.take_succ_eq_append_getElem hlt, num_snoc]
        exact rfl
      clear n1 n2 b1 b2
      go_wp2
      go_round
      case rel => exact ⟨j + 1, by omega, by go_num, by rw [ho.out, hs.out]⟩
      case measure => simp [intOf]; omega
    · obtain rfl : j = l.length := by omega
      go_wp2
      go_ret
      exact ⟨rfl, rfl⟩
end Go.Proofs.Ytlhnhhjpjkgogaa.wl
