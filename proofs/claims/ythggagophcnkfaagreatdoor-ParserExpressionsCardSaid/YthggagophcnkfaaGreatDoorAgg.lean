/-
  Laws of the walk for values of many cells (arrays of bytes, structs that hold them), whatever the program: a load, a store and a comparison in one step. No function of the program is walked here.
-/
import Derived.Test.YthggagophcnkfaaGreatDoorRows
import Derived.WalkKit
import Derived.WalkSpells
import Derived.WalkLawsBesides
import Derived.Laws.CopyOwn
import Derived.Lib.Hide
namespace Go.Proofs.YthggagophcnkfaaGreatDoor.agg
open Go.RowKit
def rowOf (w : World) (g : Nat) : Array Value := match w.heap[g]? with | some (.cells c _ (0, 0)) => c | _ => #[]
theorem rowOf_of {w : World} {g : Nat} {c : Array Value} {t : TypeId} (h : w.heap[g]? = some (.cells c t (0, 0))) : rowOf w g = c := by simp [rowOf, h]
@[go_sem] theorem rowOf_alloc_at {w : World} (c : Array Value) (t : TypeId) (n : Nat) (hn : n = w.heap.size) : rowOf (w.alloc (.cells c t)) n = c := by
 subst hn
 exact rowOf_of (heap_alloc_new w _)
@[go_sem] theorem rowOf_alloc_past {w : World} (o : Obj) (n : Nat) (hn : n < w.heap.size) : rowOf (w.alloc o) n = rowOf w n := by
 unfold rowOf
 rw [Below.heap_alloc w o n hn]
@[go_sem] theorem rowOf_drew {w : World} (n : Nat) : rowOf w.drew n = rowOf w n := rfl
@[go_sem] theorem setRow_alloc_at {w : World} (c d : Array Value) (t : TypeId) (n : Nat) (hn : n = w.heap.size) : (w.alloc (.cells c t)).setRow n d = w.alloc (.cells d t) := by
 subst hn
 unfold World.setRow World.alloc
 congr 1
 apply Array.ext_getElem?
 intro k
 simp only [Array.getElem?_modify, Array.getElem?_push]
 by_cases hk : k = w.heap.size
 ·subst hk; simp
 ·simp [hk]; omega
@[go_sem] theorem setRow_alloc_past {w : World} (o : Obj) (d : Array Value) (n : Nat) (hn : n < w.heap.size) : (w.alloc o).setRow n d = (w.setRow n d).alloc o := by
 unfold World.setRow World.alloc
 congr 1
 apply Array.ext_getElem?
 intro k
 simp only [Array.getElem?_modify, Array.getElem?_push, Array.size_modify]
 by_cases hk : k = w.heap.size
 ·subst hk; simp [Nat.ne_of_lt hn]
 ·simp [hk]
@[go_sem] theorem setRow_drew {w : World} (d : Array Value) (n : Nat) : w.drew.setRow n d = (w.setRow n d).drew := rfl
def cut (c : Array Value) (o n : Nat) : Value := .agg (c.extract o (o + n))
@[go_sem] theorem cut_whole {c : Array Value} {n : Nat} (h : c.size = n) : cut c 0 n = .agg c := by
 subst h
 simp [cut]
def overrow (c : Array Value) (o : Nat) (v : Array Value) : Array Value := (c.toList.take o ++ v.toList ++ c.toList.drop (o + v.size)).toArray
@[go_sem] theorem overrow_whole {c v : Array Value} (h : v.size = c.size) : overrow c 0 v = v := by
 apply Array.ext'
 have : (List.drop v.size c.toList) = [] := by simp; omega
 simp [overrow, this]
def aggAt (w : World) (v : Value) (n : Nat) : Value := match v with | .pointer (some ⟨g, o, _⟩) => cut (rowOf w g) o n | _ => undef
def aggOk (w : World) (v : Value) (n : Nat) : Bool := match v with | .pointer (some ⟨g, o, none⟩) => decide (o + n ≤ (rowOf w g).size ∧ 0 < n) | _ => false
@[go_sem] theorem aggAt_mk (w : World) (g o n : Nat) : aggAt w (.pointer (some ⟨g, o, none⟩)) n = cut (rowOf w g) o n := rfl
@[go_sem] theorem aggOk_mk (w : World) (g o n : Nat) : aggOk w (.pointer (some ⟨g, o, none⟩)) n = decide (o + n ≤ (rowOf w g).size ∧ 0 < n) := rfl
def cellsOf (v : Value) : Array Value := match v with | .agg c => c | _ => #[]
@[go_sem] theorem cellsOf_agg (c : Array Value) : cellsOf (.agg c) = c := rfl
def oneCells (c : Array Value) : Bool := c.toList.all Value.oneCell'
def plain (v : Value) (n : Nat) : Bool := match v with | .agg c => decide (c.size = n) && oneCells c | _ => false
@[go_sem] theorem plain_agg (c : Array Value) (n : Nat) : plain (.agg c) n = (decide (c.size = n) && oneCells c) := rfl
def putRow (w : World) (v : Value) (cs : Array Value) : World := match v with | .pointer (some ⟨g, o, _⟩) => w.setRow g (overrow (rowOf w g) o cs) | _ => w
@[go_sem] theorem putRow_mk (w : World) (g o : Nat) (cs : Array Value) : putRow w (.pointer (some ⟨g, o, none⟩)) cs = w.setRow g (overrow (rowOf w g) o cs) := rfl
section
variable {P : Program} {a : Act} {w : World} {K : Act → World → Prop} {Q : Exit → Act → World → Prop} {dst : Option Tmp} {ty : TypeId} {pos : String} {aft : Array Edge} {gd : Option (Nat × Bool)} {ops : Array Oper}
section
variable {F : Fence} {m : Nat}
end
def u8s (xs : List Int) : List Value := xs.map (Value.int .u8)
@[go_sem] theorem length_u8s (xs : List Int) : (u8s xs).length = xs.length := by simp [u8s]
def sec (xs : List Int) : Array Value := (u8s xs).toArray
@[go_sem] theorem size_sec (xs : List Int) : (sec xs).size = xs.length := by simp [sec, u8s]
theorem sec_oneCell (xs : List Int) : ∀ u ∈ (sec xs).toList, u.oneCell' = true := ints_oneCell .u8 xs
@[go_sem] theorem all_sec (xs : List Int) : oneCells (sec xs) = true := by unfold oneCells; rw [List.all_eq_true]; exact sec_oneCell xs
def intOfV (v : Value) : Int := match v with | .int _ n => n | _ => 0
def bytesOf (v : Value) : List Int := (cellsOf v).toList.map intOfV
@[go_sem] theorem bytesOf_sec (xs : List Int) : bytesOf (.agg (sec xs)) = xs := by
 unfold bytesOf sec u8s
 simp only [cellsOf_agg, List.map_map]
 exact List.map_id'' (fun _ => rfl) xs
def isSec (v : Value) (n : Nat) : Prop := ∃ xs : List Int, v = .agg (sec xs) ∧ xs.length = n
@[go_sem] theorem isSec_sec (xs : List Int) (n : Nat) : isSec (.agg (sec xs)) n ↔ xs.length = n :=
 ⟨fun ⟨ys, e, h⟩ => by
  have e' := congrArg bytesOf e
  rw [bytesOf_sec, bytesOf_sec] at e'
  rw [e']; exact h, fun h => ⟨xs, rfl, h⟩⟩
@[go_sem] theorem one_int (k : IntKind) (n : Int) : (Value.int k n).oneCell' = true := rfl
def sized (v : Value) (n : Nat) : Prop := ∃ c, v = .agg c ∧ c.size = n
@[go_sem] theorem sized_agg (c : Array Value) (n : Nat) : sized (.agg c) n ↔ c.size = n := ⟨fun ⟨d, e, h⟩ => by cases e; exact h, fun h => ⟨c, rfl, h⟩⟩
theorem append_own {w : World} {base : Nat} {t ty e : TypeId} {i : TypeInfo} {z : Value} {size bytes : Nat} (ht : P.underlying t = some (.slice e)) (hi : P.info? e = some i) (hz : i.zero = some z)
 (hsize : i.size = size) (hby : i.bytes = bytes) (hzs : z.cells.size = size)
 {v : Value} {n : Nat} {xs : List Value} (hown : w.ownsRow base e size v n xs)
 {ad : Addr} {m c : Nat} {news : List Value} (hl : news.length = m * size) (hm : 0 < m) (hnews : ∀ j u, news[j]? = some u → w.cell? (ad.add j) = some u) (h1 : ∀ u ∈ news, u.oneCell' = true)
 (h63 : n + m ≤ maxLen) (hbytes : (n + m) * bytes ≤ 140737488355328) (hbase : base ≤ w.heap.size) :
 ∃ g cap w', (Builtin.append_ #[t, t] ty #[v, .slice (some ad) m c]).run P w = .ok (.slice (some ⟨g, 0, none⟩) (n + m) cap) w' ∧ w'.ownsRow base e size (.slice (some ⟨g, 0, none⟩) (n + m) cap) (n + m) (xs ++ news) ∧ w.grownBy w' v.ownBlock ∧
  (v.ownBlock = some g ∨ g = w.heap.size) := by
 subst hsize
 subst hby
 have hlen : (xs ++ news).length = (n + m) * i.size := by rw [List.length_append, hown.1, hl, Nat.add_mul]
 have hsmall : n + m ≤ 9223372036854775807 := by simp only [maxLen] at h63; omega
 have made : ∀ cap : Nat, n + m ≤ cap → cap ≤ maxLen → (w.drew.alloc (.cells (xs.toArray ++ news.toArray ++ Builtin.zeroCells z.cells (cap - (n + m))) e)).ownsRow base e i.size (.slice (some ⟨w.heap.size, 0, none⟩) (n + m) cap) (n + m) (xs ++ news) := by
  intro cap h h'
  refine ⟨hlen, .inr ⟨w.heap.size, cap, _, rfl, hbase, heap_alloc_new w.drew _, h, h', ?_, ?_⟩⟩
  ·simp only [Array.size_append, List.size_toArray, size_zeroCells, hzs, hown.1, hl]
   rw [← Nat.add_mul, ← Nat.add_mul]
   congr 1
   omega
  ·simp only [Array.toList_append, List.append_assoc]
   rw [← List.append_assoc, ← hlen]
   exact List.take_left
 have kept : ∀ (o : Obj) (row : Option Nat), w.grownBy (w.drew.alloc o) row := fun o row => ⟨rfl, rfl, rfl, by simp, fun k hk _ => Below.heap_alloc w.drew o k hk⟩
 rcases hown.2 with ⟨rfl, rfl⟩ | ⟨g, cap, cur, rfl, hbg, hg, hnc, hcm, hcs, htake⟩
 ·have hx : xs = [] := List.eq_nil_of_length_eq_zero (by simpa using hown.1)
  subst hx
  have hr := run_append_nil (P := P) w t ty e i z ht hi hz ad m c news hl hnews (by omega) (by omega) (by have hb := hbytes; simp only [Nat.zero_add] at hb; omega)
  have hmd := made (grownCap w (0 + m) 0 e) (grownCap_ge w _ _ _) (grownCap_le_maxLen w _ _ _ h63)
  simp only [Nat.zero_add, List.nil_append, Array.empty_append] at hmd hr ⊢
  exact ⟨_, _, _, hr, hmd, kept _ _, .inr rfl⟩
 ·by_cases hroom : n + m ≤ cap
  ·have hfit : n * i.size + news.length ≤ cur.size := by rw [hl, hcs, ← Nat.add_mul]; exact Nat.mul_le_mul_right _ hroom
   have hr := run_append_room (P := P) w t ty e i ht hi g n cap cur hg ad m c news hl hnews h1 hroom hfit
   refine ⟨g, cap, _, hr, ⟨hlen, .inr ⟨g, cap, _, rfl, hbg, setRow_heap w g cur _ e _ hg, hroom, hcm, ?_, ?_⟩⟩, ⟨rfl, rfl, rfl, by simp, fun k _ hk => setRow_other w g k _ (fun e => hk (by simp [Value.ownBlock, e]))⟩, .inl rfl⟩
   ·simp only [List.size_toArray, List.length_append, List.length_take, List.length_drop, Array.length_toList]
    omega
   ·rw [htake, ← hlen]
    exact List.take_left
  ·have holds : ∀ j u, xs[j]? = some u → w.cell? ((⟨g, 0, none⟩ : Addr).add j) = some u := hown.cells (g := g) rfl
   have hr := run_append_grow (P := P) w t ty e i z ht hi hz ⟨g, 0, none⟩ n cap xs hown.1 holds ad m c news hl hnews (by omega) (by omega) (growslice_fits (by omega) hbytes)
   exact ⟨_, _, _, hr, made _ (grownCap_ge w _ _ _) (grownCap_le_maxLen w _ _ _ h63), kept _ _, .inr rfl⟩
theorem wp_append_mine {o : Oper} (s x : Operand) (t : TypeId)
 (ho : o.op = .call { callee := .builtin .append, args := #[s, x], argTypes := #[t, t] })
 (base : Nat) (e : TypeId) (i : TypeInfo) (z : Value) (size bytes : Nat) (ht : P.underlying t = some (.slice e)) (hi : P.info? e = some i) (hz : i.zero = some z)
 (hsize : i.size = size) (hby : i.bytes = bytes) (hzs : z.cells.size = size)
 (v : Value) (n : Nat) (xs : List Value) (hs : a.eval s = v) (hown : w.ownsRow base e size v n xs)
 (ad : Addr) (m c : Nat) (news : List Value) (hx : a.eval x = .slice (some ad) m c) (hl : news.length = m * size) (hm : 0 < m) (hnews : ∀ j u, news[j]? = some u → w.cell? (ad.add j) = some u) (h1 : ∀ u ∈ news, u.oneCell' = true)
 (h63 : n + m ≤ maxLen) (hbytes : (n + m) * bytes ≤ 140737488355328) (hbase : base ≤ w.heap.size)
 (h : ∀ g cap w', w'.ownsRow base e size (.slice (some ⟨g, 0, none⟩) (n + m) cap) (n + m) (xs ++ news) → w.grownBy w' v.ownBlock → (v.ownBlock = some g ∨ g = w.heap.size) → K (a.put o.dst (.slice (some ⟨g, 0, none⟩) (n + m) cap)) w') :
 o.wp P a w K Q := by
 obtain ⟨g, cap, w', hr, h2, h3, h4⟩ := append_own (P := P) (ty := o.type) (c := c) ht hi hz hsize hby hzs hown hl hm hnews h1 h63 hbytes hbase
 unfold Oper.wp execOp
 simp only [ho, resolve, invoke, builtin, Sem.run_bind, Sem.run_pure, Result.andThen_ok, List.map_toArray, List.map_cons, List.map_nil, hs, hx, hr]
 exact h g cap w' h2 h3 h4
theorem step_append_mine {o : Oper} {E' : Prop} (hg : o.guard = none) (s x : Operand) (t : TypeId)
 (ho : o.op = .call { callee := .builtin .append, args := #[s, x], argTypes := #[t, t] })
 (base : Nat) (e : TypeId) (i : TypeInfo) (z : Value) (size bytes : Nat) (ht : P.underlying t = some (.slice e)) (hi : P.info? e = some i) (hz : i.zero = some z)
 (hsize : i.size = size) (hby : i.bytes = bytes) (hzs : z.cells.size = size)
 (v : Value) (n : Nat) (xs : List Value) (hs : a.eval s = v) (hown : w.ownsRow base e size v n xs)
 (ad : Addr) (m c : Nat) (news : List Value) (hx : a.eval x = .slice (some ad) m c) (hl : news.length = m * size) (hm : 0 < m) (hnews : ∀ j u, news[j]? = some u → w.cell? (ad.add j) = some u) (h1 : ∀ u ∈ news, u.oneCell' = true)
 (h63 : n + m ≤ maxLen) (hbytes : (n + m) * bytes ≤ 140737488355328) (hbase : base ≤ w.heap.size)
 (h : ∀ g cap w', w'.ownsRow base e size (.slice (some ⟨g, 0, none⟩) (n + m) cap) (n + m) (xs ++ news) → w.grownBy w' v.ownBlock → (v.ownBlock = some g ∨ g = w.heap.size) → K (a.put o.dst (.slice (some ⟨g, 0, none⟩) (n + m) cap)) w') :
 if Region.wanted o (yielded ops a.tmps) = true then Oper.wp P o a w K Q else E' := by
 have hw : Region.wanted o (yielded ops a.tmps) = true := by simp [Region.wanted, hg]
 rw [if_pos hw]
 exact wp_append_mine s x t ho base e i z size bytes ht hi hz hsize hby hzs v n xs hs hown ad m c news hx hl hm hnews h1 h63 hbytes hbase h
theorem wpList_append_mine {o : Oper} {rest : List Oper} (hg : o.guard = none) (s x : Operand) (t : TypeId)
 (ho : o.op = .call { callee := .builtin .append, args := #[s, x], argTypes := #[t, t] })
 (base : Nat) (e : TypeId) (i : TypeInfo) (z : Value) (size bytes : Nat) (ht : P.underlying t = some (.slice e)) (hi : P.info? e = some i) (hz : i.zero = some z)
 (hsize : i.size = size) (hby : i.bytes = bytes) (hzs : z.cells.size = size)
 (v : Value) (n : Nat) (xs : List Value) (hs : a.eval s = v) (hown : w.ownsRow base e size v n xs)
 (ad : Addr) (m c : Nat) (news : List Value) (hx : a.eval x = .slice (some ad) m c) (hl : news.length = m * size) (hm : 0 < m) (hnews : ∀ j u, news[j]? = some u → w.cell? (ad.add j) = some u) (h1 : ∀ u ∈ news, u.oneCell' = true)
 (h63 : n + m ≤ maxLen) (hbytes : (n + m) * bytes ≤ 140737488355328) (hbase : base ≤ w.heap.size)
 (h : ∀ g cap w', w'.ownsRow base e size (.slice (some ⟨g, 0, none⟩) (n + m) cap) (n + m) (xs ++ news) → w.grownBy w' v.ownBlock → (v.ownBlock = some g ∨ g = w.heap.size) → wpList P ops Q rest (a.put o.dst (.slice (some ⟨g, 0, none⟩) (n + m) cap)) w') :
 wpList P ops Q (o :: rest) a w :=
 wpList_plain hg fun _ hK => wp_append_mine s x t ho base e i z size bytes ht hi hz hsize hby hzs v n xs hs hown ad m c news hx hl hm hnews h1 h63 hbytes hbase fun g cap w' h2 h3 h4 => hK _ _ (h g cap w' h2 h3 h4)
theorem cells_new (w : World) (c : Array Value) (t : TypeId) : ∀ j u, c.toList[j]? = some u → (w.alloc (.cells c t)).cell? ((⟨w.heap.size, 0, none⟩ : Addr).add j) = some u := by
 intro j u hu
 rw [Addr.add_lit, Nat.zero_add, World.cell?_alloc_new]
 simpa using hu
end
end Go.Proofs.YthggagophcnkfaaGreatDoor.agg
