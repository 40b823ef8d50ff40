/- Laws for ranges over the lexer's tokens: what a round keeps; an append that leaves a full block as it is. -/
import Derived.Test.YthggagophcnkfaaGreatDoorM3
import Derived.RangeFuncNested
import Derived.RangeFuncBound
import Derived.RangeFuncCalls
import Derived.RangeFuncLeaves
import Derived.Shelf.Abstract
import Derived.WalkKit
import Derived.OwnWalkIn
import Derived.TacticsInMore
import Derived.LoopNIn
import Derived.LoopIn
namespace Go.Proofs.YthggagophcnkfaaGreatDoor.lx
open Go.RowKit Go.Proofs.YthggagophcnkfaaGreatDoor.agg Go.Proofs.YthggagophcnkfaaGreatDoor.sx Go.Proofs.YthggagophcnkfaaGreatDoor.px
set_option linter.unusedSimpArgs false
set_option linter.unusedVariables false

/-- What a round keeps: all that lay ahead of the loop, and blocks of one token. -/
def KeepTok (n₀ : Nat) (A B : World) : Prop := Below n₀ A B ∧ ∀ (b : Nat) (c : Array Value), A.heap[b]? = some (.cells c 39 (0, 0)) → c.size = 4 → B.heap[b]? = some (.cells c 39 (0, 0))
theorem keepTok_t {n₀ : Nat} {A B C : World} (h : KeepTok n₀ A B) (k : KeepTok n₀ B C) : KeepTok n₀ A C := ⟨h.1.trans k.1, fun b c hb hc => k.2 b c (h.2 b c hb hc) hc⟩
theorem keepTok_refl (n₀ : Nat) (A : World) : KeepTok n₀ A A := ⟨Below.refl _ _, fun _ _ h _ => h⟩
theorem keepTok_b {n₀ : Nat} {w : World} (hn : n₀ ≤ w.heap.size) (W : World) (l : Nat) (o o' : Obj) (hl : w.heap.size ≤ l) (h : W.heap[l]? = some o) (hc : o.isCells = false) (hw : o.isWalk = false) : KeepTok n₀ W (W.putObj l o') := by
  refine ⟨belowK_b hn W l o o' hl h hc hw, fun b c hb _ => ?_⟩
  have hne : b ≠ l := by
    rintro rfl
    rw [h] at hb
    cases hb
    simp [Obj.isCells] at hc
  exact (World.putObj_heap_other hne).trans hb
theorem keepTok_alloc {n₀ : Nat} {W : World} (hn : n₀ ≤ W.heap.size) (o : Obj) : KeepTok n₀ W (W.alloc o) := ⟨(Below.refl _ _).alloc hn o, fun b c hb _ => (Below.heap_alloc W o b (lt_of_block hb)).trans hb⟩
/-- What lay below some block, blocks beyond it aside. -/
theorem keepTok_below {n₀ : Nat} {A B : World} (hn : n₀ ≤ A.heap.size) (h : Below A.heap.size A B) : KeepTok n₀ A B := ⟨h.mono hn, fun b c hb _ => (h.block b (lt_of_block hb)).trans hb⟩
/-- An append leaves a block as it is that has no room. -/
theorem append_tight {P : Program} {w : World} {base : Nat} {t ty e : TypeId} {i : TypeInfo} {z : Value} {size bytes : Nat} (ht : P.underlying t = some (.slice e)) (hi : P.info? e = some i) (hz : i.zero = some z)
    (hsize : i.size = size) (hby : i.bytes = bytes) (hzs : z.cells.size = size) (hpos : 0 < size)
    {v : Value} {n : Nat} {xs : List Value} (hown : w.ownsRow base e size v n xs)
    {ad : Addr} {m c : Nat} {news : List Value} (hl : news.length = m * size) (hm : 0 < m) (hnews : ∀ j u, news[j]? = some u → w.cell? (ad.add j) = some u) (h1 : ∀ u ∈ news, u.oneCell' = true)
    (h63 : n + m ≤ maxLen) (hbytes : (n + m) * bytes ≤ 140737488355328) (hbase : base ≤ w.heap.size) :
    ∃ g cap w', (Builtin.append_ #[t, t] ty #[v, .slice (some ad) m c]).run P w = .ok (.slice (some ⟨g, 0, none⟩) (n + m) cap) w' ∧ w'.ownsRow base e size (.slice (some ⟨g, 0, none⟩) (n + m) cap) (n + m) (xs ++ news) ∧ w.grownBy w' v.ownBlock ∧
      (v.ownBlock = some g ∨ g = w.heap.size) ∧ ∀ (k : Nat) (cur : Array Value) (f : Nat × Nat), w.heap[k]? = some (Obj.cells cur e f) → cur.size ≤ n * size → w'.heap[k]? = some (.cells cur e f) := by
  subst hsize
  subst hby
  have hlen : (xs ++ news).length = (n + m) * i.size := by rw [List.length_append, hown.1, hl, Nat.add_mul]
  have hsmall : n + m ≤ 9223372036854775807 := by simp only [maxLen] at h63; omega
  have made : ∀ cap : Nat, n + m ≤ cap → cap ≤ maxLen → (w.drew.alloc (.cells (xs.toArray ++ news.toArray ++ Builtin.zeroCells z.cells (cap - (n + m))) e)).ownsRow base e i.size (.slice (some ⟨w.heap.size, 0, none⟩) (n + m) cap) (n + m) (xs ++ news) := by
    intro cap h h'
    refine ⟨hlen, .inr ⟨w.heap.size, cap, _, rfl, hbase, heap_alloc_new w.drew _, h, h', ?_, ?_⟩⟩
    · simp only [Array.size_append, List.size_toArray, size_zeroCells, hzs, hown.1, hl]
      rw [← Nat.add_mul, ← Nat.add_mul]
      congr 1
      omega
    · simp only [Array.toList_append, List.append_assoc]
      rw [← List.append_assoc, ← hlen]
      exact List.take_left
  have kept : ∀ (o : Obj) (row : Option Nat), w.grownBy (w.drew.alloc o) row := fun o row => ⟨rfl, rfl, rfl, by simp, fun k hk _ => Below.heap_alloc w.drew o k hk⟩
  have kept2 : ∀ (o : Obj) (k : Nat) (cur : Array Value) (f : Nat × Nat), w.heap[k]? = some (Obj.cells cur e f) → cur.size ≤ n * i.size → (w.drew.alloc o).heap[k]? = some (.cells cur e f) := fun o k cur f hk _ => (Below.heap_alloc w.drew o k (lt_of_block hk)).trans hk
  rcases hown.2 with ⟨rfl, rfl⟩ | ⟨g, cap, cur, rfl, hbg, hg, hnc, hcm, hcs, htake⟩
  · have hx : xs = [] := List.eq_nil_of_length_eq_zero (by simpa using hown.1)
    subst hx
    have hr := run_append_nil (P := P) w t ty e i z ht hi hz ad m c news hl hnews (by omega) (by omega) (by have hb := hbytes; simp only [Nat.zero_add] at hb; omega)
    have hmd := made (grownCap w (0 + m) 0 e) (grownCap_ge w _ _ _) (grownCap_le_maxLen w _ _ _ h63)
    simp only [Nat.zero_add, List.nil_append, Array.empty_append] at hmd hr ⊢
    exact ⟨_, _, _, hr, hmd, kept _ _, .inr rfl, fun k cur f hk _ => (Below.heap_alloc w.drew _ k (lt_of_block hk)).trans hk⟩
  · by_cases hroom : n + m ≤ cap
    · have hfit : n * i.size + news.length ≤ cur.size := by rw [hl, hcs, ← Nat.add_mul]; exact Nat.mul_le_mul_right _ hroom
      have hr := run_append_room (P := P) w t ty e i ht hi g n cap cur hg ad m c news hl hnews h1 hroom hfit
      refine ⟨g, cap, _, hr, ⟨hlen, .inr ⟨g, cap, _, rfl, hbg, setRow_heap w g cur _ e _ hg, hroom, hcm, ?_, ?_⟩⟩, ⟨rfl, rfl, rfl, by simp, fun k _ hk => setRow_other w g k _ (fun e => hk (by simp [Value.ownBlock, e]))⟩, .inl rfl, fun k cur' f hk hs => ?_⟩
      · simp only [List.size_toArray, List.length_append, List.length_take, List.length_drop, Array.length_toList]
        omega
      · rw [htake, ← hlen]
        exact List.take_left
      · have hne : k ≠ g := by
          rintro rfl
          rw [hg] at hk
          cases hk
          have h3 : (n + m) * i.size ≤ cap * i.size := Nat.mul_le_mul_right _ hroom
          have h4 : 0 < m * i.size := Nat.mul_pos hm hpos
          rw [Nat.add_mul] at h3
          omega
        exact (setRow_other w g k _ hne).trans hk
    · have holds : ∀ j u, xs[j]? = some u → w.cell? ((⟨g, 0, none⟩ : Addr).add j) = some u := hown.cells (g := g) rfl
      have hr := run_append_grow (P := P) w t ty e i z ht hi hz ⟨g, 0, none⟩ n cap xs hown.1 holds ad m c news hl hnews (by omega) (by omega) (growslice_fits (by omega) hbytes)
      exact ⟨_, _, _, hr, made _ (grownCap_ge w _ _ _) (grownCap_le_maxLen w _ _ _ h63), kept _ _, .inr rfl, kept2 _⟩
theorem wpListIn_append_tight {F : Fence} {n : Nat} {P : Program} (w : World) {ops : Array Oper} {rest : List Oper} {o : Oper} {a : Act} {Q : Exit → Act → World → Prop}
    (hg : o.guard = none) (s x : Operand) (t : TypeId) (hop : o.op = Op.call { callee := Callee.builtin Builtin.append, args := #[s, x], argTypes := #[t, t] })
    (base : Nat) (e : TypeId) (i : TypeInfo) (z : Value) (size bytes : Nat) (h1 : P.underlying t = some (.slice e)) (h2 : P.info? e = some i) (h3 : i.zero = some z) (h4 : i.size = size) (h5 : i.bytes = bytes) (h6 : z.cells.size = size) (h7 : 0 < size)
    (v : Value) (k : Nat) (xs : List Value) (hs : a.eval s = v) (hown : w.ownsRow base e size v k xs) (ad : Addr) (m c : Nat) (news : List Value) (hx : a.eval x = .slice (some ad) m c) (hn : news.length = m * size) (hm : 0 < m)
    (hc : ∀ j u, news[j]? = some u → w.cell? (ad.add j) = some u) (h1c : ∀ u ∈ news, u.oneCell' = true) (b1 : k + m ≤ maxLen) (b2 : (k + m) * bytes ≤ 140737488355328) (b3 : base ≤ w.heap.size)
    (hK : ∀ g cap w', w'.ownsRow base e size (.slice (some ⟨g, 0, none⟩) (k + m) cap) (k + m) (xs ++ news) → w.grownBy w' v.ownBlock → (v.ownBlock = some g ∨ g = w.heap.size) → (∀ (k' : Nat) (cur : Array Value) (f : Nat × Nat), w.heap[k']? = some (Obj.cells cur e f) → cur.size ≤ k * size → w'.heap[k']? = some (.cells cur e f)) →
      wpListIn F n P ops Q rest (a.put o.dst (.slice (some ⟨g, 0, none⟩) (k + m) cap)) w') :
    wpListIn F n P ops Q (o :: rest) a w := by
  refine wpListIn_plain hg fun K hK' => ?_
  obtain ⟨g, cap, w', hrun, r1, r2, r3, r4⟩ := append_tight (P := P) (ty := o.type) (c := c) h1 h2 h3 h4 h5 h6 h7 hown hn hm hc h1c b1 b2 b3
  unfold Oper.wpIn
  refine ⟨?_, ?_⟩
  · simp [Oper.about, hop, resolve, Target.leads, Sem.run_pure]
  · rw [Oper.semAt_plain F _ _ (by rw [hop]; intro c hc'; cases hc')]
    simp [execOp, hop, resolve, invoke, builtin, hs, hx, hrun, Result.andThen]
    exact hK' _ _ (hK g cap w' r1 r2 r3 r4)
end Go.Proofs.YthggagophcnkfaaGreatDoor.lx
