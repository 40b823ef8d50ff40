/- What is right of the diagnostics of a text; the declarations' nodes while they are collected into a node in memory. No function of the program is walked here. -/
import Derived.Test.YthggagophcnkfaaGreatDoorPBegin
import Derived.Test.YthggagophcnkfaaGreatDoorM9
import Derived.Test.YthggagophcnkfaaGreatDoorSortA
namespace Go.Proofs.YthggagophcnkfaaGreatDoor.px
open Go.RowKit Go.Proofs.YthggagophcnkfaaGreatDoor.agg Go.Proofs.YthggagophcnkfaaGreatDoor.sx Go.Proofs.YthggagophcnkfaaGreatDoor.lx Go.Proofs.YthggagophcnkfaaGreatDoor.so
set_option linter.unusedSimpArgs false
set_option linter.unusedVariables false

theorem toks_rng (T : ByteArray) : ∀ t ∈ toks T, t.kind ≤ 5 ∧ t.at_ ≤ t.to ∧ t.to ≤ T.size := by
  obtain ⟨init, e, h1, h2, h2b, h3, h4, h5⟩ := toks_split T
  rw [h1]
  exact h4
theorem lexDg_at {T : ByteArray} {t : Tok} {d : Dg} (h : d ∈ lexDg T t) : d.at_ = t.at_ ∧ d.to = t.to ∧ 1 ≤ d.code ∧ d.code ≤ 3 ∧ d.text = ⟨#[]⟩ := by
  unfold lexDg at h
  split at h
  · simp only [List.mem_singleton] at h
    subst h
    exact ⟨rfl, rfl, (by decide : (1 : Int) ≤ 1), (by decide : (1 : Int) ≤ 3), rfl⟩
  · split at h
    · split at h
      · simp at h
      · simp only [List.mem_singleton] at h
        subst h
        exact ⟨rfl, rfl, (by decide : (1 : Int) ≤ 2), (by decide : (2 : Int) ≤ 3), rfl⟩
    · split at h
      · split at h
        · simp only [List.mem_singleton] at h
          subst h
          exact ⟨rfl, rfl, (by decide : (1 : Int) ≤ 3), (by decide : (3 : Int) ≤ 3), rfl⟩
        · simp at h
      · simp at h
/-- A diagnostic that can be. -/
def DgOk (T : ByteArray) (d : Dg) : Prop := 0 ≤ d.at_ ∧ d.at_ ≤ d.to ∧ d.to ≤ T.size ∧ 1 ≤ d.code ∧ d.code ≤ 7 ∧ (d.text ≠ ⟨#[]⟩ ↔ d.code = 4)
theorem list_dgok {T : ByteArray} (hT : T.size ≤ 4096) {s : Ps} (hs : PsOk (src T) s) : ∀ d ∈ (src T).list s, DgOk T d := by
  intro d hd
  have ok := src_ok T hT
  rcases List.mem_append.1 hd with hd | hd
  · obtain ⟨t, ht, hd⟩ := List.mem_flatMap.1 hd
    obtain ⟨e1, e2, e3, e4, e5⟩ := lexDg_at hd
    obtain ⟨_, r1, r2⟩ := toks_rng T t ht
    refine ⟨by omega, by omega, by omega, e3, by omega, ?_⟩
    rw [e5]
    constructor
    · intro h; exact absurd rfl h
    · intro h; omega
  · obtain ⟨r, hr, rfl⟩ := List.mem_map.1 hd
    obtain ⟨h1, h2, h3, h4⟩ := hs.reps r hr
    have h5 : r.idx < (src T).L.length := Nat.lt_of_le_of_lt h1 hs.lt
    have e1 : (src T).L.getD r.idx default = (src T).L[r.idx] := by rw [List.getD_eq_getElem?_getD, List.getElem?_eq_getElem h5]; rfl
    obtain ⟨_, r1, r2⟩ := ok.rng _ (List.getElem_mem h5)
    have r3 : ((src T).L[r.idx].to : Int) ≤ T.size := by exact_mod_cast r2
    unfold Src.dg DgOk
    rw [e1]
    exact ⟨by simp only; omega, by simp only; omega, r3, by simp only; omega, by simp only; omega, h4⟩
theorem list_ok {T : ByteArray} (hT : T.size ≤ 4096) {s : Ps} (hs : PsOk (src T) s) : OkD ((src T).list s) := fun d hd => by
  obtain ⟨a, b, c, _⟩ := list_dgok hT hs d hd
  exact ⟨a, by omega⟩
theorem decls_stop {A : List Tk} {k : Nat} {l : List PT} {s : Ps} (h : atEnd A s = true) : decls A k l s = (l, s) := by
  cases k with
  | zero => rfl
  | succ k => rw [decls, if_pos h]
theorem decls_go {A : List Tk} {k : Nat} {l : List PT} {s : Ps} (h : atEnd A s = false) : decls A (k + 1) l s = decls A k (l ++ [(declaration A s).1]) (declaration A s).2 := by
  rw [decls, if_neg (by rw [h]; simp)]
theorem ownsRow_up {w : World} {B : Nat} {e : TypeId} {size n : Nat} {v : Value} {xs : List Value} (h : w.ownsRow 0 e size v n xs) (hB : ∀ b, v.ownBlock = some b → B ≤ b) : w.ownsRow B e size v n xs := by
  refine ⟨h.1, ?_⟩
  rcases h.2 with hn | ⟨g, cap, cur, rfl, hg, hh⟩
  · exact .inl hn
  · exact .inr ⟨g, cap, cur, rfl, hB g rfl, hh⟩
/-- Diagnostics that can be. -/
def ResOk (T : ByteArray) (l : List Dg) : Prop := (∀ d ∈ l, DgOk T d) ∧ l.length ≤ 20001
theorem res_ok {T : ByteArray} (hT : T.size ≤ 4096) {s : Ps} (hs : PsOk (src T) s) (hl : (sortD ((src T).list s)).length = ((src T).list s).length) : ResOk T (sortD ((src T).list s)) :=
  ⟨fun d hd => list_dgok hT hs d ((sortD_like _).symm.mem hd), by rw [hl]; exact list_len hs (src_ok T hT)⟩
/-- The last state of the parser of a text can be. -/
def FinOk (T : ByteArray) : Prop := PsOk (src T) (decls (src T).A (src T).A.length [] ⟨0, []⟩).2
/-- How a call that parses ends: the tree, the diagnostics. -/
def ParseEnd (w : World) (T : ByteArray) (r : Tr × List Dg) (e : Ending) (w' : World) : Prop :=
  ∃ lv nk nt na ne nao ncap nks, e = .returned (.tuple #[.agg #[.int .i64 nk, .string nt, .int .i64 na, .int .i64 ne, .slice nao nks.length ncap], lv, .int .i64 0]) ∧ (Nd.mk nk nt na ne (.slice nao nks.length ncap) nks).tr = r.1 ∧ NodeIn (fun b => w.heap.size ≤ b) w' (Nd.mk nk nt na ne (.slice nao nks.length ncap) nks) ∧ w'.ownsRow w.heap.size 34 4 lv r.2.length (dgV r.2) ∧ Below w.heap.size w w' ∧ ResOk T r.2 ∧ FinOk T
section
variable {w0 w w' : World} {B P N : Nat} {tv lv0 lv : Value} {S : Src} {s0 s : Ps} {kv : Value} {ks : Kds}
/-- The node's own kids are stored, in the world where it began as in that where it is. -/
theorem EIn.set4 (h : EIn w0 none B P tv lv0 S s0 w lv s kv ks) {k : Int} {t : ByteArray} {a e : Int} {v0 : Value} (hb : w0.heap[N]? = some (.cells #[.int .i64 k, .string t, .int .i64 a, .int .i64 e, v0] 25 (0, 0))) (hp : ¬ pfoot P lv0 N) (ht : tokBlock tv ≠ some N) (v : Value) :
    EIn (w0.setCell ⟨N, 4, none⟩ v) none B P tv lv0 S s0 (w.setCell ⟨N, 4, none⟩ v) lv s kv ks ∧ (w0.setCell ⟨N, 4, none⟩ v).heap[N]? = some (.cells #[.int .i64 k, .string t, .int .i64 a, .int .i64 e, v] 25 (0, 0)) := by
  have hN := lt_of_block hb
  have hp' : ¬ pfoot P lv N := pfoot_fresh h.fresh hN hp
  have hK : Kept (fun b => b = N) w (w.setCell ⟨N, 4, none⟩ v) := Kept.setCell (F := fun b => b = N) w (a := ⟨N, 4, none⟩) rfl v
  have hbw := h.bw
  have hbN := (h.kept.block N hN hp).trans hb
  have e1 : (w0.setCell ⟨N, 4, none⟩ v).heap[N]? = some (.cells #[.int .i64 k, .string t, .int .i64 a, .int .i64 e, v] 25 (0, 0)) := by
    rw [heap_setCell_same _ _ _ _ _ _ hb]; rfl
  have e2 : (w.setCell ⟨N, 4, none⟩ v).heap[N]? = some (.cells #[.int .i64 k, .string t, .int .i64 a, .int .i64 e, v] 25 (0, 0)) := by
    rw [heap_setCell_same _ _ _ _ _ _ hbN]; rfl
  refine ⟨⟨h.pin.same hK (fun b hb' => by rw [hb']; exact ⟨hp', ht⟩), ⟨h.kept.os, h.kept.tape, h.kept.output, by simpa using h.kept.size, fun b hb' hF => ?_⟩, fun b hb' => by simpa using h.fresh b hb', h.mono, by simpa using h.bw, by simpa using h.bb, fun b hb' => by simpa using h.tlt b hb', by simp, ⟨ownsRow_same h.kr.row (fun b hb' => hK.block b (h.kr.lt b hb').2 (fun e => by have := (h.kr.lt b hb').1; omega)), h.kr.apart, fun p hp => ⟨(h.kr.kids p hp).1.same (fun b hb' hn => hK.block b hb' (fun e => by have := hn.1; omega)) hK.size (fun b _ hn => hn), (h.kr.kids p hp).2⟩⟩, h.cnt⟩, e1⟩
  by_cases hbn : b = N
  · rw [hbn, e1, e2]
  · rw [heap_setCell_other _ _ _ _ (fun e => hbn e), heap_setCell_other _ _ _ _ (fun e => hbn e)]
    exact h.kept.block b (by simpa using hb') hF
end
/-- The append of the node that was read, in a region that is driven by hand. -/
theorem wp_app {o : Oper} {a : Act} {K : Act → World → Prop} {Q : Exit → Act → World → Prop} {w0 : World} {Zo : Option Nat} {B : Nat} {P : Nat} {tv lv0 : Value} {S : Src} {s0 : Ps} {w : World} {lv : Value} {s : Ps} {kv : Value} {ks : Kds} {nk : Int} {nt : ByteArray} {na ne : Int} {nao : Option Addr} {nl ncap : Nat} {nks : List Nd} {t : PT} (x y : Operand) (ho : o.op = .call { callee := .builtin .append, args := #[x, y], argTypes := #[23, 23] })
    {W : World} (h : EPend w0 Zo B P tv lv0 S s0 w lv s kv ks (Nd.mk nk nt na ne (.slice nao nl ncap) nks) t) (hW : W = w.alloc (.cells #[.int .i64 nk, .string nt, .int .i64 na, .int .i64 ne, .slice nao nl ncap] 25)) (hx : a.eval x = kv) (hy : a.eval y = .slice (some ⟨w.heap.size, 0, none⟩) 1 1) (hc : ks.length ≤ s.at_)
    (k : ∀ g cap w', EIn w0 Zo B P tv lv0 S s0 w' lv s (.slice (some ⟨g, 0, none⟩) (ks.length + 1) cap) (ks ++ [(Nd.mk nk nt na ne (.slice nao nl ncap) nks, t)]) → K (a.put o.dst (.slice (some ⟨g, 0, none⟩) (ks.length + 1) cap)) w') :
    o.wp Tryz.prog a W K Q := by
  subst hW
  obtain ⟨i0, hi0, hz0, hz1, hz2⟩ := info_parts info_nd
  have hlt := h.ein.pin.sok.lt
  have hlen := h.ein.pin.ok.len
  have hbb := h.ein.bb
  refine wp_append_mine x y 23 ho B 25 i0 _ 5 64 Tryz.underlying23 hi0 hz0 hz1 hz2 (by decide) kv ks.length _ hx (h.ein.kr.row.alloc _) ⟨w.heap.size, 0, none⟩ 1 1 (Nd.mk nk nt na ne (.slice nao nl ncap) nks).cells.toList hy rfl (by omega) (cells_new w (Nd.mk nk nt na ne (.slice nao nl ncap) nks).cells _) (cells_one _ _ _ _ _ _ ⟨_, _, _, rfl⟩) (by unfold maxLen; omega) (by omega) (by simp; omega) ?_
  intro g cap w' hown hgrow hnew
  exact k g cap w' (h.app ((Below.refl _ w).alloc (Nat.le_refl _) _) hgrow hown hnew hc)
end Go.Proofs.YthggagophcnkfaaGreatDoor.px
