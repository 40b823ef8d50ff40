/- How a call of the reference parser's Parse or Expression ends. No function is walked here. The declarations' nodes while they are collected into a node in memory (turned from PParse0). No function of the program is walked here. -/
import Derived.Test.YthggagophcnkfaaGreatDoorYStart
import Derived.Test.YthggagophcnkfaaGreatDoorYSort
import Derived.Test.YthggagophcnkfaaGreatDoorM34
import Derived.Test.YthggagophcnkfaaGreatDoorM29
namespace Go.Proofs.YthggagophcnkfaaGreatDoor.py
open Go.RowKit Go.Proofs.YthggagophcnkfaaGreatDoor.agg Go.Proofs.YthggagophcnkfaaGreatDoor.sx Go.Proofs.YthggagophcnkfaaGreatDoor.lx Go.Proofs.YthggagophcnkfaaGreatDoor.px Go.Proofs.YthggagophcnkfaaGreatDoor.so
set_option linter.unusedSimpArgs false
set_option linter.unusedVariables false
mutual
theorem tree_src (T : ByteArray) : ∀ t : PT, (srcR T).tree t = (src T).tree t
 | .mk k x a e ks => by rw [px.Src.tree, px.Src.tree, trees_src T ks]; rfl
theorem trees_src (T : ByteArray) : ∀ l : List PT, (srcR T).trees l = (src T).trees l
 | [] => rfl
 | t :: ts => by rw [px.Src.trees, px.Src.trees, tree_src T t, trees_src T ts]
end
def RParseEnd (w : World) (r : Tr × List Dg) (e : Ending) (w' : World) : Prop :=
 ∃ lv nk nt na ne nao ncap nks, e = .returned (.tuple #[.agg #[.int .i64 nk, .string nt, .int .i64 na, .int .i64 ne, .slice nao nks.length ncap], lv, .int .i64 0]) ∧ (Nd.mk nk nt na ne (.slice nao nks.length ncap) nks).tr = r.1 ∧ NodeIn (fun b => w.heap.size ≤ b) w' (Nd.mk nk nt na ne (.slice nao nks.length ncap) nks) ∧ DgsIn w' lv r.2 ∧ Below w.heap.size w w' ∧ r.2.length ≤ 50000
theorem RowB.dgs {B : Nat} {w : World} {v : Value} {n : Nat} {l : List Dg} (h : RowB B w 34 4 v n (dgV l)) (hn : n = l.length) : DgsIn w v l := by
 subst hn
 rcases h with ⟨h0, _, hv⟩ | h
 ·have e : l = [] := List.eq_nil_of_length_eq_zero h0
  subst e
  rcases hv with rfl | ⟨k, rfl⟩
  ·exact ⟨_, _, rfl, fun i hi => absurd hi (Nat.not_lt_zero _)⟩
  ·exact ⟨_, _, rfl, fun i hi => absurd hi (Nat.not_lt_zero _)⟩
 ·exact .of_row h
end Go.Proofs.YthggagophcnkfaaGreatDoor.py
namespace Go.Proofs.YthggagophcnkfaaGreatDoor.py
open Go.RowKit Go.Proofs.YthggagophcnkfaaGreatDoor.agg Go.Proofs.YthggagophcnkfaaGreatDoor.sx Go.Proofs.YthggagophcnkfaaGreatDoor.lx Go.Proofs.YthggagophcnkfaaGreatDoor.px Go.Proofs.YthggagophcnkfaaGreatDoor.so
set_option linter.unusedSimpArgs false
set_option linter.unusedVariables false
section
variable {w0 w w' : World} {B P N : Nat} {tv lv0 lv : Value} {S : px.Src} {s0 s : Ps} {kv : Value} {ks : Kds}
theorem EIn.set4 (h : EIn w0 none B P tv lv0 S s0 w lv s kv ks) {k : Int} {t : ByteArray} {a e : Int} {v0 : Value} (hb : w0.heap[N]? = some (.cells #[.int .i64 k, .string t, .int .i64 a, .int .i64 e, v0] 25 (0, 0))) (hp : ¬ pfoot P lv0 N) (ht : tokBlock tv ≠ some N) (v : Value) :
 EIn (w0.setCell ⟨N, 4, none⟩ v) none B P tv lv0 S s0 (w.setCell ⟨N, 4, none⟩ v) lv s kv ks ∧ (w0.setCell ⟨N, 4, none⟩ v).heap[N]? = some (.cells #[.int .i64 k, .string t, .int .i64 a, .int .i64 e, v] 25 (0, 0)) := by
 have hN := lt_of_block hb
 have hp' : ¬ pfoot P lv N := pfoot_fresh h.fresh hN hp
 have hK : Kept (fun b => b = N) w (w.setCell ⟨N, 4, none⟩ v) := Kept.setCell (F := fun b => b = N) w (a := ⟨N, 4, none⟩) rfl v
 have hbw := h.bw
 have hbN := (h.kept.block N hN hp).trans hb
 have e1 : (w0.setCell ⟨N, 4, none⟩ v).heap[N]? = some (.cells #[.int .i64 k, .string t, .int .i64 a, .int .i64 e, v] 25 (0, 0)) := by
  rw [heap_setCell_same _ _ _ _ _ _ hb]; rfl
 have e2 : (w.setCell ⟨N, 4, none⟩ v).heap[N]? = some (.cells #[.int .i64 k, .string t, .int .i64 a, .int .i64 e, v] 25 (0, 0)) := by
  rw [heap_setCell_same _ _ _ _ _ _ hbN]; rfl
 refine ⟨⟨h.pin.same hK (fun b hb' => by rw [hb']; exact ⟨hp', ht⟩), ⟨h.kept.os, h.kept.tape, h.kept.output, by simpa using h.kept.size, fun b hb' hF => ?_⟩, fun b hb' => by simpa using h.fresh b hb', h.mono, by simpa using h.bw, by simpa using h.bb, fun b hb' => by simpa using h.tlt b hb', by simp, ⟨ownsRow_same h.kr.row (fun b hb' => hK.block b (h.kr.lt b hb').2 (fun e => by have := (h.kr.lt b hb').1; omega)), h.kr.apart, fun p hp => ⟨(h.kr.kids p hp).1.same (fun b hb' hn => hK.block b hb' (fun e => by have := hn.1; omega)) hK.size (fun b _ hn => hn), (h.kr.kids p hp).2⟩⟩, h.cnt⟩, e1⟩
 by_cases hbn : b = N
 ·rw [hbn, e1, e2]
 ·rw [heap_setCell_other _ _ _ _ (fun e => hbn e), heap_setCell_other _ _ _ _ (fun e => hbn e)]
  exact h.kept.block b (by simpa using hb') hF
end
theorem wp_app {o : Oper} {a : Act} {K : Act → World → Prop} {Q : Exit → Act → World → Prop} {w0 : World} {Zo : Option Nat} {B : Nat} {P : Nat} {tv lv0 : Value} {S : px.Src} {s0 : Ps} {w : World} {lv : Value} {s : Ps} {kv : Value} {ks : Kds} {nk : Int} {nt : ByteArray} {na ne : Int} {nao : Option Addr} {nl ncap : Nat} {nks : List Nd} {t : PT} (x y : Operand) (ho : o.op = .call { callee := .builtin .append, args := #[x, y], argTypes := #[23, 23] })
 {W : World} (h : EPend w0 Zo B P tv lv0 S s0 w lv s kv ks (Nd.mk nk nt na ne (.slice nao nl ncap) nks) t) (hW : W = w.alloc (.cells #[.int .i64 nk, .string nt, .int .i64 na, .int .i64 ne, .slice nao nl ncap] 25)) (hx : a.eval x = kv) (hy : a.eval y = .slice (some ⟨w.heap.size, 0, none⟩) 1 1) (hc : ks.length ≤ s.at_ + 3)
 (k : ∀ g cap w', EIn w0 Zo B P tv lv0 S s0 w' lv s (.slice (some ⟨g, 0, none⟩) (ks.length + 1) cap) (ks ++ [(Nd.mk nk nt na ne (.slice nao nl ncap) nks, t)]) → K (a.put o.dst (.slice (some ⟨g, 0, none⟩) (ks.length + 1) cap)) w') :
 o.wp Tryz.prog a W K Q := by
 subst hW
 obtain ⟨i0, hi0, hz0, hz1, hz2⟩ := info_parts info_nd
 have hlt := h.ein.pin.sok.lt
 have hlen := h.ein.pin.ok.len
 have hbb := h.ein.bb
 refine wp_append_mine x y 23 ho B 25 i0 _ 5 64 Tryz.underlying23 hi0 hz0 hz1 hz2 (by decide) kv ks.length _ hx (h.ein.kr.row.alloc _) ⟨w.heap.size, 0, none⟩ 1 1 (Nd.mk nk nt na ne (.slice nao nl ncap) nks).cells.toList hy rfl (by omega) (cells_new w (Nd.mk nk nt na ne (.slice nao nl ncap) nks).cells _) (cells_one _ _ _ _ _ _ ⟨_, _, _, rfl⟩) (by unfold maxLen; omega) (by omega) (by simp; omega) ?_
 intro g cap w' hown hgrow hnew
 exact k g cap w' (h.app ((Below.refl _ w).alloc (Nat.le_refl _) _) hgrow hown hnew hc)
theorem node_leaf {w : World} {P : Nat} {tv lv : Value} {S : px.Src} {s : Ps} (h : PIn w P tv lv S s) (kind : Int) (first : Nat) (text : ByteArray) (hf : first ≤ s.at_) :
 Calls Tryz.prog 38 #[.pointer (some ⟨P, 0, none⟩), .int .i64 kind, .string text, .int .i64 first, .int .i64 (S.last first), .slice none 0 0] w (NEnd w P tv lv S s (node kind first text [] s, s)) :=
 (node_walk h kind first text none 0 0 hf).mono fun _ w' ⟨h1, h2⟩ => ⟨lv, kind, text, _, _, none, 0, [], h1, by first | exact (node_eq S kind first text s (.slice none 0 0)) | exact (node_eq S kind first text s (.slice none 0 0)).symm, by exact leaf_in _ _ _ _, h.below h2, .of_below h2, fresh_same _ _, Nat.le_refl _⟩
end Go.Proofs.YthggagophcnkfaaGreatDoor.py
