/- append of a row onto a row of the call's own, both whatever they are (nil, empty, full): one law. No function of the program is walked here. -/
import Derived.Test.YthggagophcnkfaaGreatDoorAgg
import Derived.Deep.Upon
namespace Go.Proofs.YthggagophcnkfaaGreatDoor.agg
open Go.RowKit
set_option linter.unusedSimpArgs false

/-- The slice v is empty, or it owns the cells xs from block B on. -/
def RowB (B : Nat) (w : World) (e : TypeId) (size : Nat) (v : Value) (n : Nat) (xs : List Value) : Prop :=
  (n = 0 ∧ xs = [] ∧ (v = .slice none 0 0 ∨ ∃ k, v = .slice (some ⟨k, 0, none⟩) 0 0)) ∨ w.ownsRow B e size v n xs
theorem RowB.below {B : Nat} {w w' : World} {e : TypeId} {size : Nat} {v : Value} {n : Nat} {xs : List Value} (h : RowB B w e size v n xs) (hb : Below w.heap.size w w') : RowB B w' e size v n xs := by
  rcases h with h | h
  · exact .inl h
  · refine .inr ⟨h.1, ?_⟩
    rcases h.2 with hn | ⟨g, cap, cur, rfl, hg, hh, r⟩
    · exact .inl hn
    · exact .inr ⟨g, cap, cur, rfl, hg, (hb.block g (lt_of_block hh)).trans hh, r⟩
theorem RowB.owns {B : Nat} {w : World} {e : TypeId} {size : Nat} {v : Value} {n : Nat} {xs : List Value} (h : RowB B w e size v n xs) (hn : 0 < n) : w.ownsRow B e size v n xs := by
  rcases h with ⟨h0, _⟩ | h
  · omega
  · exact h
/-- What is read of a row: its cells. -/
theorem row_reads {w : World} {base : Nat} {e : TypeId} {size : Nat} {v : Value} {n : Nat} {xs : List Value} (h : w.ownsRow base e size v n xs) (hn : 0 < n) :
    ∃ g cap, v = .slice (some ⟨g, 0, none⟩) n cap ∧ ∀ j u, xs[j]? = some u → w.cell? ((⟨g, 0, none⟩ : Addr).add j) = some u := by
  rcases h.2 with ⟨_, h0⟩ | ⟨g, cap, cur, rfl, _, hh, _, _, _, ht⟩
  · omega
  · refine ⟨g, cap, rfl, fun j u hu => ?_⟩
    rw [Addr.add_lit]
    simp only [World.cell?, hh, Nat.zero_add]
    rw [← ht, List.getElem?_take] at hu
    split at hu
    · simpa using hu
    · cases hu
theorem own_shape {w : World} {base : Nat} {e : TypeId} {size : Nat} {v : Value} {n : Nat} {xs : List Value} (h : w.ownsRow base e size v n xs) : ∃ ao c, v = .slice ao n c ∧ n ≤ c := by
  rcases h.2 with ⟨rfl, rfl⟩ | ⟨g, cap, cur, rfl, _, _, hc, _⟩
  · exact ⟨_, _, rfl, Nat.le_refl _⟩
  · exact ⟨_, _, rfl, hc⟩
theorem below_ofGrown {B : Nat} {w w' : World} {row : Option Nat} (h : w.grownBy w' row) (hB : B ≤ w.heap.size) (hr : ∀ k, row = some k → B ≤ k) : Below B w w' :=
  ⟨h.os, h.tape, h.output, h.size, fun k hk => h.block k (by omega) (fun e => by have := hr k e.symm; omega)⟩

section
variable {P : Program} {w : World} {a : Act} {K : Act → World → Prop} {Q : Exit → Act → World → Prop} {ops : Array Oper}
theorem append_row {B : Nat} {t ty e : TypeId} {i : TypeInfo} {z : Value} {size bytes : Nat} (ht : P.underlying t = some (.slice e)) (hi : P.info? e = some i) (hz : i.zero = some z)
    (hsize : i.size = size) (hby : i.bytes = bytes) (hzs : z.cells.size = size)
    {v : Value} {n : Nat} {xs : List Value} (hown : RowB B w e size v n xs) {b0 : Nat} {src : Value} {m : Nat} {news : List Value} (hsrc : w.ownsRow b0 e size src m news) (h1 : ∀ u ∈ news, u.oneCell' = true)
    (h63 : n + m ≤ maxLen) (hbytes : (n + m) * bytes ≤ 140737488355328) (hbase : B ≤ w.heap.size) :
    ∃ ao c w', (Builtin.append_ #[t, t] ty #[v, src]).run P w = .ok (.slice ao (n + m) c) w' ∧ RowB B w' e size (.slice ao (n + m) c) (n + m) (xs ++ news) ∧ Below B w w' := by
  by_cases hm : m = 0
  · subst hm
    have hn0 : news = [] := List.eq_nil_of_length_eq_zero (by simpa using hsrc.1)
    subst hn0
    have hv : ∃ ao c, v = .slice ao n c ∧ n ≤ c := by
      rcases hown with ⟨rfl, _, rfl | ⟨k, rfl⟩⟩ | h
      · exact ⟨_, _, rfl, Nat.le_refl _⟩
      · exact ⟨_, _, rfl, Nat.le_refl _⟩
      · exact own_shape h
    obtain ⟨ao, c, rfl, hc⟩ := hv
    obtain ⟨so, sc, rfl, _⟩ := own_shape hsrc
    have hs : Src P i.size t (.slice so 0 sc) 0 [] w :=
      { kind := .inl ⟨e, ht⟩, len := fun w' => by simp [Builtin.lenOf], cells := by cases so with | none => exact run_firstCells_none _ _ _ _ _ | some b => exact run_firstCells_some _ _ _ b _ _ [] (by simp) (by simp), cellsD := by cases so with | none => exact run_firstCells_none _ _ _ _ _ | some b => exact run_firstCells_some _ _ _ b _ _ [] (by simp) (by simp), newsLen := by simp, one := by simp }
    refine ⟨ao, c, w, run_append_nothing w t t ty e i ht hi ao n c hc _ hs, ?_, Below.refl _ _⟩
    rw [List.append_nil]
    exact hown
  · obtain ⟨g, c, rfl, hc⟩ := row_reads hsrc (by omega)
    rcases hown with ⟨rfl, rfl, hv⟩ | hown
    · rcases hv with rfl | ⟨k, rfl⟩
      · obtain ⟨g', c', w', hr, ho, hg, _⟩ := append_own (P := P) (ty := ty) (c := c) ht hi hz hsize hby hzs (World.ownsRow_nil w B e size) hsrc.1 (by omega) hc h1 h63 hbytes hbase
        exact ⟨_, c', w', hr, .inr ho, below_ofGrown hg hbase (fun k hk => by cases hk)⟩
      · subst hsize
        subst hby
        have hr := run_append_grow (P := P) (w := w) t ty e i z ht hi hz ⟨k, 0, none⟩ 0 0 [] (by simp) (by simp) ⟨g, 0, none⟩ m c news hsrc.1 hc (by omega) (by simp only [maxLen] at h63; omega) (growslice_fits (by omega) (by omega))
        refine ⟨_, _, _, hr, .inr ⟨by rw [List.nil_append, Nat.zero_add]; exact hsrc.1, .inr ⟨w.heap.size, _, _, rfl, hbase, heap_alloc_new w.drew _, grownCap_ge w _ _ _, grownCap_le_maxLen w _ _ _ h63, ?_, ?_⟩⟩, ?_⟩
        · simp only [Array.size_append, List.size_toArray, size_zeroCells, hzs, hsrc.1, List.length_nil, Nat.zero_add]
          rw [← Nat.add_mul]
          congr 1
          have := grownCap_ge w (0 + m) 0 e
          simp only [Nat.zero_add] at this
          omega
        · simp only [Array.toList_append, List.append_assoc, Nat.zero_add, List.nil_append]
          rw [← hsrc.1]
          exact List.take_left
        · exact (Below.refl _ w).drew.alloc hbase _
    · obtain ⟨g', c', w', hr, ho, hg, _⟩ := append_own (P := P) (ty := ty) (c := c) ht hi hz hsize hby hzs hown hsrc.1 (by omega) hc h1 h63 hbytes hbase
      refine ⟨_, c', w', hr, .inr ho, below_ofGrown hg hbase (fun k hk => (hown.lt k hk).1)⟩
theorem wp_append_row {o : Oper} (s x : Operand) (t : TypeId) (ho : o.op = .call { callee := .builtin .append, args := #[s, x], argTypes := #[t, t] })
    (B : Nat) (e : TypeId) (i : TypeInfo) (z : Value) (size bytes : Nat) (ht : P.underlying t = some (.slice e)) (hi : P.info? e = some i) (hz : i.zero = some z) (hsize : i.size = size) (hby : i.bytes = bytes) (hzs : z.cells.size = size)
    (v : Value) (n : Nat) (xs : List Value) (hs : a.eval s = v) (hown : RowB B w e size v n xs) (b0 : Nat) (src : Value) (m : Nat) (news : List Value) (hx : a.eval x = src) (hsrc : w.ownsRow b0 e size src m news) (h1 : ∀ u ∈ news, u.oneCell' = true)
    (h63 : n + m ≤ maxLen) (hbytes : (n + m) * bytes ≤ 140737488355328) (hbase : B ≤ w.heap.size)
    (h : ∀ ao c w', RowB B w' e size (.slice ao (n + m) c) (n + m) (xs ++ news) → Below B w w' → K (a.put o.dst (.slice ao (n + m) c)) w') :
    o.wp P a w K Q := by
  obtain ⟨ao, c, w', hr, h2, h3⟩ := append_row (P := P) (ty := o.type) ht hi hz hsize hby hzs hown hsrc h1 h63 hbytes hbase
  unfold Oper.wp execOp
  simp only [ho, resolve, invoke, builtin, Sem.run_bind, Sem.run_pure, Result.andThen_ok, List.map_toArray, List.map_cons, List.map_nil, hs, hx, hr]
  exact h ao c w' h2 h3
theorem step_append_row {o : Oper} {E' : Prop} (hg : o.guard = none) (s x : Operand) (t : TypeId) (ho : o.op = .call { callee := .builtin .append, args := #[s, x], argTypes := #[t, t] })
    (B : Nat) (e : TypeId) (i : TypeInfo) (z : Value) (size bytes : Nat) (ht : P.underlying t = some (.slice e)) (hi : P.info? e = some i) (hz : i.zero = some z) (hsize : i.size = size) (hby : i.bytes = bytes) (hzs : z.cells.size = size)
    (v : Value) (n : Nat) (xs : List Value) (hs : a.eval s = v) (hown : RowB B w e size v n xs) (b0 : Nat) (src : Value) (m : Nat) (news : List Value) (hx : a.eval x = src) (hsrc : w.ownsRow b0 e size src m news) (h1 : ∀ u ∈ news, u.oneCell' = true)
    (h63 : n + m ≤ maxLen) (hbytes : (n + m) * bytes ≤ 140737488355328) (hbase : B ≤ w.heap.size)
    (h : ∀ ao c w', RowB B w' e size (.slice ao (n + m) c) (n + m) (xs ++ news) → Below B w w' → K (a.put o.dst (.slice ao (n + m) c)) w') :
    if Region.wanted o (yielded ops a.tmps) = true then Oper.wp P o a w K Q else E' := by
  have hw : Region.wanted o (yielded ops a.tmps) = true := by simp [Region.wanted, hg]
  rw [if_pos hw]
  exact wp_append_row s x t ho B e i z size bytes ht hi hz hsize hby hzs v n xs hs hown b0 src m news hx hsrc h1 h63 hbytes hbase h
theorem wpList_append_row {o : Oper} {rest : List Oper} (hg : o.guard = none) (s x : Operand) (t : TypeId) (ho : o.op = .call { callee := .builtin .append, args := #[s, x], argTypes := #[t, t] })
    (B : Nat) (e : TypeId) (i : TypeInfo) (z : Value) (size bytes : Nat) (ht : P.underlying t = some (.slice e)) (hi : P.info? e = some i) (hz : i.zero = some z) (hsize : i.size = size) (hby : i.bytes = bytes) (hzs : z.cells.size = size)
    (v : Value) (n : Nat) (xs : List Value) (hs : a.eval s = v) (hown : RowB B w e size v n xs) (b0 : Nat) (src : Value) (m : Nat) (news : List Value) (hx : a.eval x = src) (hsrc : w.ownsRow b0 e size src m news) (h1 : ∀ u ∈ news, u.oneCell' = true)
    (h63 : n + m ≤ maxLen) (hbytes : (n + m) * bytes ≤ 140737488355328) (hbase : B ≤ w.heap.size)
    (h : ∀ ao c w', RowB B w' e size (.slice ao (n + m) c) (n + m) (xs ++ news) → Below B w w' → wpList P ops Q rest (a.put o.dst (.slice ao (n + m) c)) w') :
    wpList P ops Q (o :: rest) a w :=
  wpList_plain hg fun _ hK => wp_append_row s x t ho B e i z size bytes ht hi hz hsize hby hzs v n xs hs hown b0 src m news hx hsrc h1 h63 hbytes hbase fun ao c w' h2 h3 => hK _ _ (h ao c w' h2 h3)

theorem bl_drew {W w' : World} (h : Below W.heap.size W w') : Below W.heap.size W w'.drew := h.drew
theorem bl_alloc {W w' : World} (h : Below W.heap.size W w') (o : Obj) : Below W.heap.size W (w'.alloc o) := h.alloc h.size o
theorem own_new (w : World) (c : Array Value) (e : TypeId) (size : Nat) (hc : c.size = size) : (w.alloc (.cells c e)).ownsRow 0 e size (.slice (some ⟨w.heap.size, 0, none⟩) 1 1) 1 c.toList :=
  ⟨by simp [hc], .inr ⟨w.heap.size, 1, c, rfl, Nat.zero_le _, heap_alloc_new w _, Nat.le_refl _, by decide, by simp [hc], by rw [← hc, Nat.one_mul]; exact List.take_of_length_le (by simp)⟩⟩
theorem own_newk (w : World) (c : Array Value) (e : TypeId) (size : Nat) (hc : c.size = size) (k : Nat) (hk : k = w.heap.size) : (w.alloc (.cells c e)).ownsRow 0 e size (.slice (some ⟨k, 0, none⟩) 1 1) 1 c.toList := by
  subst hk
  exact own_new w c e size hc
theorem own_drew {w : World} {b : Nat} {e : TypeId} {size : Nat} {v : Value} {n : Nat} {xs : List Value} (h : w.ownsRow b e size v n xs) : w.drew.ownsRow b e size v n xs := h
end
theorem own_below {w w' : World} {b B : Nat} {e : TypeId} {size : Nat} {v : Value} {n : Nat} {xs : List Value} (h : w.ownsRow b e size v n xs) (hb : Below B w w') (hB : w.heap.size ≤ B) : w'.ownsRow b e size v n xs := by
  refine ⟨h.1, ?_⟩
  rcases h.2 with hn | ⟨g, cap, cur, rfl, hg, hh, r⟩
  · exact .inl hn
  · have := lt_of_block hh
    exact .inr ⟨g, cap, cur, rfl, hg, (hb.block g (by omega)).trans hh, r⟩
end Go.Proofs.YthggagophcnkfaaGreatDoor.agg
