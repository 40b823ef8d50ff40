/- append of a row onto a row of the call's own, both whatever they are (nil, empty, full): one law. No function of the program is walked here. Elements that are read are appended onto a row, both whatever. No function of the program is walked here. -/
import Derived.Test.YthggagophcnkfaaGreatDoorAgg
import Derived.Deep.Upon
import Derived.Test.YthggagophcnkfaaGreatDoorM1
namespace Go.Proofs.YthggagophcnkfaaGreatDoor.agg
open Go.RowKit
set_option linter.unusedSimpArgs false
def RowB (B : Nat) (w : World) (e : TypeId) (size : Nat) (v : Value) (n : Nat) (xs : List Value) : Prop :=
 (n = 0 ∧ xs = [] ∧ (v = .slice none 0 0 ∨ ∃ k, v = .slice (some ⟨k, 0, none⟩) 0 0)) ∨ w.ownsRow B e size v n xs
theorem RowB.below {B : Nat} {w w' : World} {e : TypeId} {size : Nat} {v : Value} {n : Nat} {xs : List Value} (h : RowB B w e size v n xs) (hb : Below w.heap.size w w') : RowB B w' e size v n xs := by
 rcases h with h | h
 ·exact .inl h
 ·refine .inr ⟨h.1, ?_⟩
  rcases h.2 with hn | ⟨g, cap, cur, rfl, hg, hh, r⟩
  ·exact .inl hn
  ·exact .inr ⟨g, cap, cur, rfl, hg, (hb.block g (lt_of_block hh)).trans hh, r⟩
theorem own_shape {w : World} {base : Nat} {e : TypeId} {size : Nat} {v : Value} {n : Nat} {xs : List Value} (h : w.ownsRow base e size v n xs) : ∃ ao c, v = .slice ao n c ∧ n ≤ c := by
 rcases h.2 with ⟨rfl, rfl⟩ | ⟨g, cap, cur, rfl, _, _, hc, _⟩
 ·exact ⟨_, _, rfl, Nat.le_refl _⟩
 ·exact ⟨_, _, rfl, hc⟩
theorem below_ofGrown {B : Nat} {w w' : World} {row : Option Nat} (h : w.grownBy w' row) (hB : B ≤ w.heap.size) (hr : ∀ k, row = some k → B ≤ k) : Below B w w' :=
 ⟨h.os, h.tape, h.output, h.size, fun k hk => h.block k (by omega) (fun e => by have := hr k e.symm; omega)⟩
section
variable {P : Program} {w : World} {a : Act} {K : Act → World → Prop} {Q : Exit → Act → World → Prop} {ops : Array Oper}
theorem bl_drew {W w' : World} (h : Below W.heap.size W w') : Below W.heap.size W w'.drew := h.drew
theorem bl_alloc {W w' : World} (h : Below W.heap.size W w') (o : Obj) : Below W.heap.size W (w'.alloc o) := h.alloc h.size o
end
end Go.Proofs.YthggagophcnkfaaGreatDoor.agg
namespace Go.Proofs.YthggagophcnkfaaGreatDoor.agg
open Go.RowKit
set_option linter.unusedSimpArgs false
set_option linter.unusedVariables false
def ReadsAt (w : World) (src : Value) (m : Nat) (news : List Value) : Prop :=
 ∃ so sc, src = .slice so m sc ∧ (0 < m → ∃ b o, so = some ⟨b, o, none⟩ ∧ b < w.heap.size ∧ ∀ j u, news[j]? = some u → w.cell? ((⟨b, o, none⟩ : Addr).add j) = some u)
theorem ReadsAt.below {w w' : World} {src : Value} {m : Nat} {news : List Value} (h : ReadsAt w src m news) (hb : Below w.heap.size w w') : ReadsAt w' src m news := by
 obtain ⟨so, sc, rfl, hc⟩ := h
 refine ⟨so, sc, rfl, fun hm => ?_⟩
 obtain ⟨b, o, rfl, hlt, hcj⟩ := hc hm
 exact ⟨b, o, rfl, Nat.lt_of_lt_of_le hlt hb.size, fun j u hu => by
  have h2 := hcj j u hu
  rw [Addr.add_lit] at h2 ⊢
  exact (hb.cell (p := ⟨b, o + j, none⟩) hlt).trans h2⟩
def Own2 (w w' : World) (v v' : Value) : Prop := ∀ k, v'.ownBlock = some k → v.ownBlock = some k ∨ (w.heap.size ≤ k ∧ k < w'.heap.size)
theorem own2_row {w w' : World} {v : Value} {B : Nat} {e : TypeId} {size g cap n : Nat} {xs : List Value} (ho : w'.ownsRow B e size (.slice (some ⟨g, 0, none⟩) n cap) n xs) (h : v.ownBlock = some g ∨ g = w.heap.size) : Own2 w w' v (.slice (some ⟨g, 0, none⟩) n cap) := by
 intro k hk
 have h2 := (ho.lt k hk).2
 obtain rfl : g = k := by injection hk
 rcases h with h | h
 ·exact .inl h
 ·exact .inr ⟨by omega, h2⟩
theorem own2_new (w : World) (v : Value) (o : Obj) (n : Nat) {c : Nat} : Own2 w (w.drew.alloc o) v (.slice (some ⟨w.heap.size, 0, none⟩) n c) := by
 intro k hk
 obtain rfl : w.heap.size = k := by injection hk
 exact .inr ⟨Nat.le_refl _, by simp⟩
section
variable {P : Program} {w : World} {a : Act} {K : Act → World → Prop} {Q : Exit → Act → World → Prop} {ops : Array Oper}
theorem append_reads {B : Nat} {t ty e : TypeId} {i : TypeInfo} {z : Value} {size bytes : Nat} (ht : P.underlying t = some (.slice e)) (hi : P.info? e = some i) (hz : i.zero = some z)
 (hsize : i.size = size) (hby : i.bytes = bytes) (hzs : z.cells.size = size)
 {v : Value} {n : Nat} {xs : List Value} (hown : RowB B w e size v n xs) {src : Value} {m : Nat} {news : List Value} (hsrc : ReadsAt w src m news) (hl : news.length = m * size) (h1 : ∀ u ∈ news, u.oneCell' = true)
 (h63 : n + m ≤ maxLen) (hbytes : (n + m) * bytes ≤ 140737488355328) (hbase : B ≤ w.heap.size) :
 ∃ ao c w', (Builtin.append_ #[t, t] ty #[v, src]).run P w = .ok (.slice ao (n + m) c) w' ∧ RowB B w' e size (.slice ao (n + m) c) (n + m) (xs ++ news) ∧ Below B w w' ∧ sx.Kept (fun k => v.ownBlock = some k) w w' ∧ Own2 w w' v (.slice ao (n + m) c) := by
 obtain ⟨so, sc, rfl, hcs⟩ := hsrc
 by_cases hm : m = 0
 ·subst hm
  have hn0 : news = [] := List.eq_nil_of_length_eq_zero (by simpa using hl)
  subst hn0
  have hv : ∃ ao c, v = .slice ao n c ∧ n ≤ c := by
   rcases hown with ⟨rfl, _, rfl | ⟨k, rfl⟩⟩ | h
   ·exact ⟨_, _, rfl, Nat.le_refl _⟩
   ·exact ⟨_, _, rfl, Nat.le_refl _⟩
   ·exact own_shape h
  obtain ⟨ao, c, rfl, hc⟩ := hv
  have hs : Src P i.size t (.slice so 0 sc) 0 [] w :=
   { kind := .inl ⟨e, ht⟩, len := fun w' => by simp [Builtin.lenOf], cells := by cases so with | none => exact run_firstCells_none _ _ _ _ _ | some b => exact run_firstCells_some _ _ _ b _ _ [] (by simp) (by simp), cellsD := by cases so with | none => exact run_firstCells_none _ _ _ _ _ | some b => exact run_firstCells_some _ _ _ b _ _ [] (by simp) (by simp), newsLen := by simp, one := by simp }
  refine ⟨ao, c, w, run_append_nothing w t t ty e i ht hi ao n c hc _ hs, ?_, Below.refl _ _, sx.Kept.refl _ _, fun k hk => .inl hk⟩
  rw [List.append_nil]
  exact hown
 ·obtain ⟨b, o, rfl, hlt, hc⟩ := hcs (by omega)
  rcases hown with ⟨rfl, rfl, hv⟩ | hown
  ·rcases hv with rfl | ⟨k, rfl⟩
   ·obtain ⟨g', c', w', hr, ho, hg, h9⟩ := append_own (P := P) (ty := ty) (c := sc) ht hi hz hsize hby hzs (World.ownsRow_nil w B e size) hl (by omega) hc h1 h63 hbytes hbase
    exact ⟨_, c', w', hr, .inr ho, below_ofGrown hg hbase (fun k hk => by cases hk), sx.Kept.grown hg (fun k hk => hk), own2_row ho h9⟩
   ·subst hsize
    subst hby
    have hr := run_append_grow (P := P) (w := w) t ty e i z ht hi hz ⟨k, 0, none⟩ 0 0 [] (by simp) (by simp) ⟨b, o, none⟩ m sc news hl hc (by omega) (by simp only [maxLen] at h63; omega) (growslice_fits (by omega) (by omega))
    refine ⟨_, _, _, hr, .inr ⟨by rw [List.nil_append, Nat.zero_add]; exact hl, .inr ⟨w.heap.size, _, _, rfl, hbase, heap_alloc_new w.drew _, grownCap_ge w _ _ _, grownCap_le_maxLen w _ _ _ h63, ?_, ?_⟩⟩, ?_, .of_below ((Below.refl _ w).drew.alloc (Nat.le_refl _) _), own2_new _ _ _ _⟩
    ·simp only [Array.size_append, List.size_toArray, size_zeroCells, hzs, hl, List.length_nil, Nat.zero_add]
     rw [← Nat.add_mul]
     congr 1
     have := grownCap_ge w (0 + m) 0 e
     simp only [Nat.zero_add] at this
     omega
    ·simp only [Array.toList_append, List.append_assoc, Nat.zero_add, List.nil_append]
     rw [← hl]
     exact List.take_left
    ·exact (Below.refl _ w).drew.alloc hbase _
  ·obtain ⟨g', c', w', hr, ho, hg, h9⟩ := append_own (P := P) (ty := ty) (c := sc) ht hi hz hsize hby hzs hown hl (by omega) hc h1 h63 hbytes hbase
   refine ⟨_, c', w', hr, .inr ho, below_ofGrown hg hbase (fun k hk => (hown.lt k hk).1), sx.Kept.grown hg (fun k hk => hk), own2_row ho h9⟩
theorem wp_append_reads {o : Oper} (s x : Operand) (t : TypeId) (ho : o.op = .call { callee := .builtin .append, args := #[s, x], argTypes := #[t, t] })
 (B : Nat) (e : TypeId) (i : TypeInfo) (z : Value) (size bytes : Nat) (ht : P.underlying t = some (.slice e)) (hi : P.info? e = some i) (hz : i.zero = some z) (hsize : i.size = size) (hby : i.bytes = bytes) (hzs : z.cells.size = size)
 (v : Value) (n : Nat) (xs : List Value) (hs : a.eval s = v) (hown : RowB B w e size v n xs) (src : Value) (m : Nat) (news : List Value) (hx : a.eval x = src) (hsrc : ReadsAt w src m news) (hl : news.length = m * size) (h1 : ∀ u ∈ news, u.oneCell' = true)
 (h63 : n + m ≤ maxLen) (hbytes : (n + m) * bytes ≤ 140737488355328) (hbase : B ≤ w.heap.size)
 (h : ∀ ao c w', RowB B w' e size (.slice ao (n + m) c) (n + m) (xs ++ news) → Below B w w' → sx.Kept (fun k => v.ownBlock = some k) w w' → Own2 w w' v (.slice ao (n + m) c) → K (a.put o.dst (.slice ao (n + m) c)) w') :
 o.wp P a w K Q := by
 obtain ⟨ao, c, w', hr, h2, h3, h4, h5⟩ := append_reads (P := P) (ty := o.type) ht hi hz hsize hby hzs hown hsrc hl h1 h63 hbytes hbase
 unfold Oper.wp execOp
 simp only [ho, resolve, invoke, builtin, Sem.run_bind, Sem.run_pure, Result.andThen_ok, List.map_toArray, List.map_cons, List.map_nil, hs, hx, hr]
 exact h ao c w' h2 h3 h4 h5
theorem step_append_reads {o : Oper} {E' : Prop} (hg : o.guard = none) (s x : Operand) (t : TypeId) (ho : o.op = .call { callee := .builtin .append, args := #[s, x], argTypes := #[t, t] })
 (B : Nat) (e : TypeId) (i : TypeInfo) (z : Value) (size bytes : Nat) (ht : P.underlying t = some (.slice e)) (hi : P.info? e = some i) (hz : i.zero = some z) (hsize : i.size = size) (hby : i.bytes = bytes) (hzs : z.cells.size = size)
 (v : Value) (n : Nat) (xs : List Value) (hs : a.eval s = v) (hown : RowB B w e size v n xs) (src : Value) (m : Nat) (news : List Value) (hx : a.eval x = src) (hsrc : ReadsAt w src m news) (hl : news.length = m * size) (h1 : ∀ u ∈ news, u.oneCell' = true)
 (h63 : n + m ≤ maxLen) (hbytes : (n + m) * bytes ≤ 140737488355328) (hbase : B ≤ w.heap.size)
 (h : ∀ ao c w', RowB B w' e size (.slice ao (n + m) c) (n + m) (xs ++ news) → Below B w w' → sx.Kept (fun k => v.ownBlock = some k) w w' → Own2 w w' v (.slice ao (n + m) c) → K (a.put o.dst (.slice ao (n + m) c)) w') :
 if Region.wanted o (yielded ops a.tmps) = true then Oper.wp P o a w K Q else E' := by
 have hw : Region.wanted o (yielded ops a.tmps) = true := by simp [Region.wanted, hg]
 rw [if_pos hw]
 exact wp_append_reads s x t ho B e i z size bytes ht hi hz hsize hby hzs v n xs hs hown src m news hx hsrc hl h1 h63 hbytes hbase h
theorem wpList_append_reads {o : Oper} {rest : List Oper} (hg : o.guard = none) (s x : Operand) (t : TypeId) (ho : o.op = .call { callee := .builtin .append, args := #[s, x], argTypes := #[t, t] })
 (B : Nat) (e : TypeId) (i : TypeInfo) (z : Value) (size bytes : Nat) (ht : P.underlying t = some (.slice e)) (hi : P.info? e = some i) (hz : i.zero = some z) (hsize : i.size = size) (hby : i.bytes = bytes) (hzs : z.cells.size = size)
 (v : Value) (n : Nat) (xs : List Value) (hs : a.eval s = v) (hown : RowB B w e size v n xs) (src : Value) (m : Nat) (news : List Value) (hx : a.eval x = src) (hsrc : ReadsAt w src m news) (hl : news.length = m * size) (h1 : ∀ u ∈ news, u.oneCell' = true)
 (h63 : n + m ≤ maxLen) (hbytes : (n + m) * bytes ≤ 140737488355328) (hbase : B ≤ w.heap.size)
 (h : ∀ ao c w', RowB B w' e size (.slice ao (n + m) c) (n + m) (xs ++ news) → Below B w w' → sx.Kept (fun k => v.ownBlock = some k) w w' → Own2 w w' v (.slice ao (n + m) c) → wpList P ops Q rest (a.put o.dst (.slice ao (n + m) c)) w') :
 wpList P ops Q (o :: rest) a w :=
 wpList_plain hg fun _ hK => wp_append_reads s x t ho B e i z size bytes ht hi hz hsize hby hzs v n xs hs hown src m news hx hsrc hl h1 h63 hbytes hbase fun ao c w' h2 h3 h4 h5 => hK _ _ (h ao c w' h2 h3 h4 h5)
end
end Go.Proofs.YthggagophcnkfaaGreatDoor.agg
