/- How the reference's parser lies in memory (printed by gen/genref.py). No function is walked here. The walk of the reference parser's next (printed by gen/genref.py). The walks of the reference parser's word, kind, is and read. The walk of the reference parser's problem (printed by gen/genref.py). The walks of the reference parser's take, expect and name. The walks of the reference parser's digits, number and node. -/
import Derived.Test.YthggagophcnkfaaGreatDoorM1
import Derived.Test.YthggagophcnkfaaGreatDoorM2
import Derived.Test.YthggagophcnkfaaGreatDoorM13
import Derived.Lib.QuietBelow
import Derived.Test.YthggagophcnkfaaGreatDoorPReport
import Derived.Outline
import Derived.Test.YthggagophcnkfaaGreatDoorM5
import Derived.Test.YthggagophcnkfaaGreatDoorM6
namespace Go.Proofs.YthggagophcnkfaaGreatDoor.py
open Go.RowKit Go.Proofs.YthggagophcnkfaaGreatDoor.agg Go.Proofs.YthggagophcnkfaaGreatDoor.sx Go.Proofs.YthggagophcnkfaaGreatDoor.px
set_option linter.unusedSimpArgs false
set_option linter.unusedVariables false
theorem bel_then {B : Nat} {w u v : World} (h : Below B w u) (hB : B ≤ u.heap.size) (k : Below u.heap.size u v) : Below B w v := h.trans (k.mono hB)
structure TokOk (S : Src) : Prop where
 num : ∀ t ∈ S.L, t.kind = 3 → t.at_ < t.to
 size : S.T.size ≤ 4096
 len : S.L.length ≤ 5000
 pos : 0 < S.L.length
 rng : ∀ t ∈ S.L, t.kind ≤ 5 ∧ t.at_ ≤ t.to ∧ t.to ≤ S.T.size
 fin : ∀ i (h : i < S.L.length), S.L[i].kind = 0 ↔ i + 1 = S.L.length
 mono : ∀ i j (hi : i < S.L.length) (hj : j < S.L.length), i < j → S.L[i].at_ < S.L[j].at_
 dlen : S.D.length ≤ 15000
def pcells (T : ByteArray) (tv lv : Value) (at_ : Nat) (la fo : Int) : Array Value := #[.string T, tv, .int .i64 at_, .int .i64 la, lv, .int .i64 fo]
structure PAt (w : World) (P : Nat) (tv lv : Value) (S : Src) (s : Ps) (la fo : Int) : Prop where
 box : w.heap[P]? = some (.cells (pcells S.T tv lv s.at_ la fo) 70 (0, 0))
 toks : TokIn w tv S.L
 far : ∀ b, tokBlock tv = some b → b ≠ P ∧ lv.ownBlock ≠ some b
 list : w.ownsRow 0 34 4 lv (S.list s).length (dgV (S.list s))
 apart : lv.ownBlock ≠ some P
 ok : TokOk S
 sok : PsOk S s
 lab : 0 ≤ la ∧ la ≤ 4096
 fob : -1 ≤ fo ∧ fo ≤ 4096
abbrev PIn (w : World) (P : Nat) (tv lv : Value) (S : Src) (s : Ps) : Prop := PAt w P tv lv S s (S.last s.at_) (S.found s)
section
variable {w w' : World} {P : Nat} {tv lv : Value} {S : Src} {s : Ps} {la fo : Int}
theorem PAt.rng (h : PAt w P tv lv S s la fo) : (S.tk s).kind ≤ 5 ∧ (S.tk s).at_ ≤ (S.tk s).to ∧ (S.tk s).to ≤ S.T.size ∧ S.T.size ≤ 4096 := by
 have h1 := h.ok.rng (S.tk s) (by rw [tok_mem h.sok.lt]; exact List.getElem_mem _)
 exact ⟨h1.1, h1.2.1, h1.2.2, h.ok.size⟩
theorem PAt.more (h : PAt w P tv lv S s la fo) (hk : (tok S.A s).kind ≠ 0) : s.at_ + 1 < S.L.length := by
 have h1 := h.ok.fin s.at_ h.sok.lt
 rw [tok_kind, tok_mem h.sok.lt] at hk
 have h2 := h.sok.lt
 have : s.at_ + 1 ≠ S.L.length := fun e => hk (h1.2 e)
 omega
theorem PAt.cell (h : PAt w P tv lv S s la fo) :
 w.cell? ⟨P, 0, none⟩ = some (.string S.T) ∧ w.cell? ⟨P, 1, none⟩ = some tv ∧ w.cell? ⟨P, 2, none⟩ = some (.int .i64 s.at_) ∧ w.cell? ⟨P, 3, none⟩ = some (.int .i64 la) ∧ w.cell? ⟨P, 5, none⟩ = some (.int .i64 fo) ∧ w.cell? ⟨P, 4, none⟩ = some lv ∧ ∀ i, w.frozen? ⟨P, i, none⟩ = false := by
 refine ⟨?_, ?_, ?_, ?_, ?_, ?_, fun i => ?_⟩ <;> simp [World.cell?, World.frozen?, h.box, pcells]
theorem PAt.lt (h : PAt w P tv lv S s la fo) : ∀ b, pfoot P lv b → b < w.heap.size := by
 rintro b (rfl | e)
 ·exact lt_of_block h.box
 ·exact (h.list.lt b e).2
theorem PAt.same (h : PAt w P tv lv S s la fo) {F : Nat → Prop} (hk : Kept F w w') (hF : ∀ b, F b → ¬ pfoot P lv b ∧ tokBlock tv ≠ some b) : PAt w' P tv lv S s la fo :=
 ⟨(hk.block P (lt_of_block h.box) (fun e => (hF P e).1 (.inl rfl))).trans h.box, h.toks.same (fun b hb => hk.block b (h.toks.lt b hb) (fun e => (hF b e).2 hb)) hk.size, h.far, ownsRow_same h.list (fun k hk' => hk.block k (h.list.lt k hk').2 (fun e => (hF k e).1 (.inr hk'))), h.apart, h.ok, h.sok, h.lab, h.fob⟩
theorem PAt.below (h : PAt w P tv lv S s la fo) (hb : Below w.heap.size w w') : PAt w' P tv lv S s la fo :=
 h.same (F := fun _ => False) (.of_below hb) (fun _ e => e.elim)
theorem PAt.put {s' : Ps} {la' fo' : Int} (h : PAt w P tv lv S s la fo) (hk : Kept (fun b => b = P) w w') (hbox : w'.heap[P]? = some (.cells (pcells S.T tv lv s'.at_ la' fo') 70 (0, 0))) (hl : s'.reps = s.reps) (hs : PsOk S s') (hla : 0 ≤ la' ∧ la' ≤ 4096) (hfo : -1 ≤ fo' ∧ fo' ≤ 4096) : PAt w' P tv lv S s' la' fo' :=
 ⟨hbox, h.toks.same (fun b hb => hk.block b (h.toks.lt b hb) (h.far b hb).1) hk.size, h.far, by
  have e : S.list s' = S.list s := by unfold Src.list; rw [hl]
  rw [e]
  exact ownsRow_same h.list (fun k hk' => hk.block k (h.list.lt k hk').2 (fun e => h.apart (e ▸ hk'))), h.apart, h.ok, hs, hla, hfo⟩
end
def SEnd (w : World) (P : Nat) (tv lv : Value) (S : Src) (s : Ps) (v : Value) (s' : Ps) (e : Ending) (w' : World) : Prop :=
 ∃ lv', e = .returned v ∧ PIn w' P tv lv' S s' ∧ Kept (pfoot P lv) w w' ∧ Fresh w lv lv' ∧ s.at_ ≤ s'.at_
def NEnd (w : World) (P : Nat) (tv lv : Value) (S : Src) (s : Ps) (r : PT × Ps) (e : Ending) (w' : World) : Prop :=
 ∃ lv' nk nt na ne nao ncap nks, e = .returned (.agg #[.int .i64 nk, .string nt, .int .i64 na, .int .i64 ne, .slice nao nks.length ncap]) ∧ (Nd.mk nk nt na ne (.slice nao nks.length ncap) nks).tr = S.tree r.1 ∧ NodeIn (fun b => w.heap.size ≤ b ∧ ¬ pfoot P lv' b) w' (Nd.mk nk nt na ne (.slice nao nks.length ncap) nks) ∧ PIn w' P tv lv' S r.2 ∧ Kept (pfoot P lv) w w' ∧ Fresh w lv lv' ∧ s.at_ ≤ r.2.at_
section
variable {w w' : World} {P : Nat} {tv lv : Value} {S : Src} {s : Ps} {la fo : Int}
theorem PAt.setLast (h : PAt w P tv lv S s la fo) (x : Int) (hx : 0 ≤ x ∧ x ≤ 4096) : PAt (w.setCell ⟨P, 3, none⟩ (.int .i64 x)) P tv lv S s x fo := by
 refine h.put (Kept.setCell (F := fun b => b = P) w (a := ⟨P, _, none⟩) rfl _) ?_ rfl h.sok hx h.fob
 rw [heap_setCell_same _ _ _ _ _ _ h.box]
 exact rfl
theorem PAt.setAt (h : PAt w P tv lv S s (S.tk s).to (S.found s)) (hk : (tok S.A s).kind ≠ 0) : PIn (w.setCell ⟨P, 2, none⟩ (.int .i64 ((s.at_ : Int) + 1))) P tv lv S (next S.A s).2 := by
 have e : S.last (s.at_ + 1) = ((S.tk s).to : Int) := by unfold Src.last Src.tk; rw [if_neg (by omega), Nat.add_sub_cancel]
 unfold PIn next
 simp only
 rw [e]
 refine h.put (s' := { s with at_ := s.at_ + 1 }) (Kept.setCell (F := fun b => b = P) w (a := ⟨P, _, none⟩) rfl _) ?_ rfl ⟨h.more hk, ?_, fun r hr => ⟨Nat.le_succ_of_le (h.sok.reps r hr).1, (h.sok.reps r hr).2⟩⟩ h.lab h.fob
 ·rw [heap_setCell_same _ _ _ _ _ _ h.box]
  exact rfl
 ·have := h.sok.cnt
  rw [told_next h.sok]
  simp only
  split at this <;> simp <;> omega
theorem PAt.drew' (h : PAt w P tv lv S s la fo) : PAt w.drew P tv lv S s la fo := h.below (Below.refl _ w).drew
theorem told_iff (hs : PsOk S s) (hT : TokOk S) : ((S.tk s).at_ : Int) = S.found s ↔ told s = true := by
 unfold Src.found told
 cases hl : s.reps.getLast? with
 | none => simp only; constructor <;> intro h <;> first | omega | cases h
 | some r =>
  have h1 := (hs.reps r (List.mem_of_getLast? hl)).1
  have h2 : r.idx < S.L.length := Nat.lt_of_le_of_lt h1 hs.lt
  have e1 : S.L.getD r.idx default = S.L[r.idx] := by rw [List.getD_eq_getElem?_getD, List.getElem?_eq_getElem h2]; rfl
  simp only
  rw [e1, tok_mem hs.lt, beq_iff_eq]
  constructor
  ·intro h
   by_cases he : r.idx = s.at_
   ·exact he
   ·have := hT.mono r.idx s.at_ h2 hs.lt (by omega)
    omega
  ·intro he
   simp only [he]
theorem list_len (hs : PsOk S s) (hT : TokOk S) : (S.list s).length ≤ 20001 := by
 unfold Src.list
 have h1 := hs.cnt
 have h2 := hT.dlen
 have h3 := hs.lt
 have h4 := hT.len
 rw [List.length_append, List.length_map]
 split at h1 <;> omega
end
end Go.Proofs.YthggagophcnkfaaGreatDoor.py
namespace Go.Proofs.YthggagophcnkfaaGreatDoor.py
open Go.RowKit Go.Proofs.YthggagophcnkfaaGreatDoor.agg Go.Proofs.YthggagophcnkfaaGreatDoor.sx Go.Proofs.YthggagophcnkfaaGreatDoor.px
set_option linter.unusedSimpArgs false
set_option linter.unusedVariables false
set_option maxHeartbeats 1000000 in
theorem token_lit {w : World} {P : Nat} {tv lv : Value} {S : Src} {s : Ps} {la fo : Int} (h : PAt w P tv lv S s la fo) :
 Calls Tryz.prog 46 #[.pointer (some ⟨P, 0, none⟩)] w fun e w' => e = .returned (.agg #[.int .i64 (tok S.A s).kind, .int .i64 (S.tk s).fr, .int .i64 (S.tk s).at_, .int .i64 (S.tk s).to]) ∧ Below w.heap.size w w' := by
 obtain ⟨c0, c1, c2, c3, c4, c5, c6⟩ := h.cell
 obtain ⟨b, o, cap, rfl, hb, hc⟩ := h.toks
 have hlt := h.sok.lt
 have ht := tok_mem hlt
 rw [tok_kind]
 have hcc := hc s.at_ hlt
 rw [← ht] at hcc
 clear hc ht
 generalize S.tk s = t at *
 have k0 : w.cell? ⟨b, o + s.at_ * 4, none⟩ = some (.int .i64 t.kind) := hcc 0 _ rfl
 have k1 : w.cell? ⟨b, o + s.at_ * 4 + 1, none⟩ = some (.int .i64 t.fr) := hcc 1 _ rfl
 have k2 : w.cell? ⟨b, o + s.at_ * 4 + 2, none⟩ = some (.int .i64 t.at_) := hcc 2 _ rfl
 have k3 : w.cell? ⟨b, o + s.at_ * 4 + 3, none⟩ = some (.int .i64 t.to) := hcc 3 _ rfl
 have hP := lt_of_block h.box
 clear h hcc c0 c3 c4 c5 c6
 generalize s.at_ = i at *
 go_enter Tryz.func46, Tryz.ntmps46
 go_upto_region 1 with fail
 go_region
 all_goals
  go_wp2
  refine bodyPost_ret (v := .agg #[.int .i64 t.kind, .int .i64 t.fr, .int .i64 t.at_, .int .i64 t.to]) (by simp [results, Tryz.results46, go_sem]) rfl ⟨rfl, ?_⟩
  repeat (first | exact Below.refl _ _ | apply Below.drew | refine Below.setCell ?_ (by simp) _ | refine Below.alloc ?_ (by simp) _)
section
variable (a b c d : Value) (w : World)
end
end Go.Proofs.YthggagophcnkfaaGreatDoor.py
namespace Go.Proofs.YthggagophcnkfaaGreatDoor.py
open Go.RowKit Go.Proofs.YthggagophcnkfaaGreatDoor.agg Go.Proofs.YthggagophcnkfaaGreatDoor.sx Go.Proofs.YthggagophcnkfaaGreatDoor.px
set_option linter.unusedSimpArgs false
set_option linter.unusedVariables false
set_option maxHeartbeats 1000000 in
theorem word_walk {w : World} {P : Nat} {tv lv : Value} {S : Src} {s : Ps} {la fo : Int} (h : PAt w P tv lv S s la fo) :
 Calls Tryz.prog 79 #[.pointer (some ⟨P, 0, none⟩)] w fun e w' => e = .returned (.string (word S.A s)) ∧ Below w.heap.size w w' := by
 obtain ⟨r1, r2, r3, r4⟩ := h.rng
 have hT : ∀ d os, Calls Tryz.prog 46 #[.pointer (some ⟨P, 0, none⟩)] (Sort.grow (redrawn w d) os) fun e w'' => e = .returned (.agg #[.int .i64 (tok S.A s).kind, .int .i64 (S.tk s).fr, .int .i64 (S.tk s).at_, .int .i64 (S.tk s).to]) ∧ ∃ p : Regrown, w'' = Sort.grow (redrawn w p.d) p.os := fun d os => Calls.regrown_of (token_lit (h.below (below_regrown w d os)))
 have k0 := cell_regrown h.cell.1
 have hP := lt_of_block h.box
 rw [tok_word h.sok.lt]
 clear h
 generalize (tok S.A s).kind = tk at *
 generalize S.tk s = t at *
 have q1 : ¬ (t.to : Int) < t.at_ := by omega
 have q2 : ¬ (S.T.size : Int) < t.to := by omega
 go_enter Tryz.func79, Tryz.ntmps79
 go_upto_region 1 with fail
 refine wp_region_quiet_below (by kernel_rfl) (by kernel_rfl) ?_
 repeat (go_big_quiet_step ((go_at_call 46; exact hT _ _)))
 refine wpQuiet_nil ?_
 intro _ hw'
 obtain ⟨⟨dq, osq⟩, hw''⟩ := hw'
 subst hw''
 have hbq := Lib.hid (below_regrown w dq osq)
 clear hT k0
 generalize Sort.grow (redrawn w dq) osq = u2 at *
 go_wp2_with fail
 go_ret
 exact ⟨rfl, hbq.out⟩
set_option maxHeartbeats 1000000 in
theorem kind_walk {w : World} {P : Nat} {tv lv : Value} {S : Src} {s : Ps} {la fo : Int} (h : PAt w P tv lv S s la fo) (k : Int) {b : Bool} (hb : (((tok S.A s).kind : Int) == k) = b) :
 Calls Tryz.prog 32 #[.pointer (some ⟨P, 0, none⟩), .int .i64 k] w fun e w' => e = .returned (.bool b) ∧ Below w.heap.size w w' := by
 have hT := Lib.hid (token_lit h)
 clear h
 generalize (tok S.A s).kind = tk at *
 generalize S.tk s = t at *
 go_enter Tryz.func32, Tryz.ntmps32
 go_wp2_with (go_at_call 46; refine hT.out.mono ?_; rintro e w1 ⟨rfl, hb1⟩)
 go_ret
 exact ⟨rfl, hb1⟩
set_option maxRecDepth 100000 in
set_option maxHeartbeats 1000000 in
theorem is_walk {w : World} {P : Nat} {tv lv : Value} {S : Src} {s : Ps} {la fo : Int} (h : PAt w P tv lv S s la fo) (v : Value) (ws : List ByteArray) (hv : StrsIn w v ws) (hl : ws.length < 1000) :
 Calls Tryz.prog 33 #[.pointer (some ⟨P, 0, none⟩), v] w fun e w' => e = .returned (.bool (isB S.A ws s)) ∧ Below w.heap.size w w' := by
 have hv' := Lib.hid hv
 obtain ⟨ao, cap, rfl, _⟩ := hv
 have h2 := Lib.hid (kind_walk h 2 rfl)
 have h4 := Lib.hid (fun (W : World) (hb : Below w.heap.size w W) => kind_walk (h.below hb) 4 rfl)
 have hW := Lib.hid (fun (W : World) (hb : Below w.heap.size w W) => word_walk (h.below hb))
 have hC := Lib.hid (fun (W : World) (hb : Below w.heap.size w W) => lx.rhas_walk W _ ws (word S.A s) (hv'.out.below hb) (by omega))
 have hr : Hid (isB S.A ws s = ((((tok S.A s).kind : Int) == 2 || ((tok S.A s).kind : Int) == 4) && hasS ws (word S.A s))) := by
  unfold isB Hid
  have e : ∀ (n m : Nat), ((n : Int) == (m : Int)) = (n == m) := fun n m => by
   rw [Bool.eq_iff_iff, beq_iff_eq, beq_iff_eq]
   omega
  rw [← e, ← e]
  rfl
 rw [hr.out]
 clear h hr
 generalize (((tok S.A s).kind : Int) == 2) = b2 at *
 generalize (((tok S.A s).kind : Int) == 4) = b4 at *
 generalize word S.A s = x at *
 generalize hasS ws x = r at *
 cases b2 with
 | true =>
  have e1 : ((true || b4) && r) = r := by simp
  rw [e1]
  go_enter Tryz.func33, Tryz.ntmps33
  go_wp2_with (first
   | (go_at_call 78; refine (hC.out _ hb3).mono ?_; rintro e _ ⟨rfl, rfl⟩)
   | (go_at_call 79; refine (hW.out _ hb1).mono ?_; rintro e w3 ⟨rfl, q3⟩; have hb3 := bel_then hb1 hb1.size q3)
   | (go_at_call 32; refine h2.out.mono ?_; rintro e w1 ⟨rfl, hb1⟩))
  go_ret
  exact ⟨rfl, hb3⟩
 | false =>
  cases b4 with
  | true =>
   have e1 : ((false || true) && r) = r := by simp
   rw [e1]
   go_enter Tryz.func33, Tryz.ntmps33
   go_wp2_with (first
    | (go_at_call 78; refine (hC.out _ hb3).mono ?_; rintro e _ ⟨rfl, rfl⟩)
    | (go_at_call 79; refine (hW.out _ hb2).mono ?_; rintro e w3 ⟨rfl, q3⟩; have hb3 := bel_then hb2 hb2.size q3)
    | (go_at_call 32; refine (h4.out _ hb1).mono ?_; rintro e w2 ⟨rfl, q2⟩; have hb2 := bel_then hb1 hb1.size q2)
    | (go_at_call 32; refine h2.out.mono ?_; rintro e w1 ⟨rfl, hb1⟩))
   go_ret
   exact ⟨rfl, hb3⟩
  | false =>
   have e1 : ((false || false) && r) = false := by simp
   rw [e1]
   go_enter Tryz.func33, Tryz.ntmps33
   go_wp2_with (first
    | (go_at_call 32; refine (h4.out _ hb1).mono ?_; rintro e w2 ⟨rfl, q2⟩; have hb2 := bel_then hb1 hb1.size q2)
    | (go_at_call 32; refine h2.out.mono ?_; rintro e w1 ⟨rfl, hb1⟩))
   go_ret
   exact ⟨rfl, hb2⟩
set_option maxRecDepth 100000 in
set_option maxHeartbeats 1000000 in
theorem read_walk {w : World} {P : Nat} {tv lv : Value} {S : Src} {s : Ps} (h : PIn w P tv lv S s) (hk : (tok S.A s).kind ≠ 0) :
 Calls Tryz.prog 37 #[.pointer (some ⟨P, 0, none⟩)] w (SEnd w P tv lv S s (.string (next S.A s).1) (next S.A s).2) := by
 obtain ⟨r1, r2, r3, r4⟩ := h.rng
 have hh := Lib.hid h
 have hW := Lib.hid (word_walk h)
 have hP := lt_of_block h.box
 have hT := Lib.hid (fun (W : World) (hb : Below w.heap.size w W) => token_lit (h.below hb))
 have e2 : (next S.A s).1 = word S.A s := rfl
 rw [e2]
 have hk0' := Lib.hid hk
 have hat : (s.at_ : Int) ≤ 5000 := by have h1 := h.sok.lt; have h2 := h.ok.len; omega
 clear e2 h hk
 obtain ⟨t, ht⟩ : ∃ t, t = S.tk s := ⟨_, rfl⟩
 have ht' := Lib.hid ht
 rw [← ht] at r1 r2 r3 hT
 clear ht
 generalize hx : word S.A s = x at *
 clear hx
 go_enter Tryz.func37, Tryz.ntmps37
 go_upto_region 3 with (first
  | (go_at_call 79; refine hW.out.mono ?_; rintro e w1 ⟨rfl, hb1⟩)
  | (go_at_call 46; refine (hT.out _ hb1).mono ?_; rintro e w2 ⟨rfl, hb2⟩; have hb12 := hb1.trans (hb2.mono hb1.size); have hp2 := Lib.hid (hh.out.below hb12); obtain ⟨_, _, _, c3, _, _, c6⟩ := hp2.out.cell))
 have hp3 := Lib.hid (hp2.out.setLast t.to (by omega))
 have hk3 := Lib.hid ((Kept.of_below (F := pfoot P lv) hb12).trans (kept_set (lv := lv) 3 (.int .i64 t.to)))
 clear hb1 hb2 hb12 hT hW c3 c6 hp2
 generalize w2.setCell ⟨P, 3, none⟩ _ = w3 at *
 obtain ⟨_, _, c2, _, _, _, c6⟩ := hp3.out.cell
 have hp5 : Hid (PIn (w3.setCell ⟨P, 2, none⟩ (.int .i64 ((s.at_ : Int) + 1))) P tv lv S (next S.A s).2) := by
  have h4 := hp3.out
  rw [ht'.out] at h4
  exact h4.setAt hk0'.out
 go_wp2
 go_ret
 exact ⟨lv, rfl, hp5.out, hk3.out.trans (kept_set 2 _), fresh_same _ _, Nat.le_succ _⟩
end Go.Proofs.YthggagophcnkfaaGreatDoor.py
namespace Go.Proofs.YthggagophcnkfaaGreatDoor.py
open Go.RowKit Go.Proofs.YthggagophcnkfaaGreatDoor.agg Go.Proofs.YthggagophcnkfaaGreatDoor.sx Go.Proofs.YthggagophcnkfaaGreatDoor.px
set_option linter.unusedSimpArgs false
set_option linter.unusedVariables false
theorem PAt.add {W W0 w' : World} {P : Nat} {tv lv : Value} {S : Src} {s : Ps} (h : PIn W P tv lv S s) (hb : Below W.heap.size W W0) (code : Int) (text : ByteArray) (hr : RpOk code text) {g' cap' : Nat} (hgrow : W0.grownBy w' lv.ownBlock)
 (hown : w'.ownsRow 0 34 4 (.slice (some ⟨g', 0, none⟩) ((S.list s).length + 1) cap') ((S.list s).length + 1) (dgV (S.list s) ++ (Dg.mk code (S.tk s).at_ (S.tk s).to text).cells.toList)) (hnew : lv.ownBlock = some g' ∨ g' = W0.heap.size) :
 ((w'.setCell ⟨P, 4, none⟩ (.slice (some ⟨g', 0, none⟩) ((S.list s).length + 1) cap')).cell? ⟨P, 5, none⟩ = some (.int .i64 (S.found s)) ∧ (w'.setCell ⟨P, 4, none⟩ (.slice (some ⟨g', 0, none⟩) ((S.list s).length + 1) cap')).frozen? ⟨P, 5, none⟩ = false) ∧
 Kept (pfoot P lv) W (w'.setCell ⟨P, 4, none⟩ (.slice (some ⟨g', 0, none⟩) ((S.list s).length + 1) cap')) ∧
 Fresh W lv (.slice (some ⟨g', 0, none⟩) ((S.list s).length + 1) cap') ∧
 (told s = false → PIn ((w'.setCell ⟨P, 4, none⟩ (.slice (some ⟨g', 0, none⟩) ((S.list s).length + 1) cap')).setCell ⟨P, 5, none⟩ (.int .i64 (S.tk s).at_)) P tv (.slice (some ⟨g', 0, none⟩) ((S.list s).length + 1) cap') S { s with reps := s.reps ++ [⟨code, s.at_, text⟩] }) := by
 have hP := lt_of_block h.box
 have hz := hb.size
 have hP0 : W0.heap[P]? = some (.cells (pcells S.T tv lv s.at_ (S.last s.at_) (S.found s)) 70 (0, 0)) := (hb.block P hP).trans h.box
 have hP1 : w'.heap[P]? = some (.cells (pcells S.T tv lv s.at_ (S.last s.at_) (S.found s)) 70 (0, 0)) := (hgrow.block P (lt_of_block hP0) (fun e => h.apart e.symm)).trans hP0
 have n1 : g' ≠ P := by
  rcases hnew with e | e
  ·exact fun e2 => h.apart (e2 ▸ e)
  ·omega
 have hbox : (w'.setCell ⟨P, 4, none⟩ (.slice (some ⟨g', 0, none⟩) ((S.list s).length + 1) cap')).heap[P]? = some (.cells (pcells S.T tv (.slice (some ⟨g', 0, none⟩) ((S.list s).length + 1) cap') s.at_ (S.last s.at_) (S.found s)) 70 (0, 0)) := by
  rw [heap_setCell_same _ _ _ _ _ _ hP1]
  exact rfl
 have hK : Kept (pfoot P lv) W (w'.setCell ⟨P, 4, none⟩ (.slice (some ⟨g', 0, none⟩) ((S.list s).length + 1) cap')) :=
  ((Kept.of_below hb).trans (Kept.grown hgrow (fun k hk => .inr hk))).trans (kept_set 4 _)
 have hF : Fresh W lv (.slice (some ⟨g', 0, none⟩) ((S.list s).length + 1) cap') := fun k hk => by
  have e : g' = k := by simpa [Value.ownBlock] using hk
  rcases hnew with e1 | e1
  ·exact .inl (e ▸ e1)
  ·exact .inr (by omega)
 refine ⟨⟨by simp only [World.cell?, hbox]; rfl, by simp only [World.frozen?, hbox]; rfl⟩, hK, hF, fun hne => ?_⟩
 obtain ⟨_, r2, r3, r4⟩ := h.rng
 have hgt : tokBlock tv ≠ some g' := fun e => by
  rcases hnew with e1 | e1
  ·exact (h.far g' e).2 e1
  ·have := h.toks.lt g' e; omega
 unfold PIn
 rw [found_last]
 refine ⟨?_, ?_, fun b hb' => ⟨(h.far b hb').1, fun e => ?_⟩, ?_, ?_, h.ok, ⟨h.sok.lt, ?_, ?_⟩, h.lab, ⟨by omega, by omega⟩⟩
 ·rw [heap_setCell_same _ _ _ _ _ _ hbox]
  exact rfl
 ·refine (h.toks.same (fun b hb' => hK.block b (h.toks.lt b hb') ?_) hK.size).same (fun b hb' => heap_setCell_other _ _ _ _ (fun e => (h.far b hb').1 e)) (by simp)
  rintro (e | e)
  ·exact (h.far b hb').1 e
  ·exact (h.far b hb').2 e
 ·have e2 : g' = b := by simpa [Value.ownBlock] using e
  exact hgt (e2 ▸ hb')
 ·rw [list_last, dgV_app, List.length_append]
  have e1 : dgV [⟨code, (S.tk s).at_, (S.tk s).to, text⟩] = (Dg.mk code (S.tk s).at_ (S.tk s).to text).cells.toList := by simp [dgV]
  rw [e1]
  have h1 := ownsRow_same (w' := w'.setCell ⟨P, 4, none⟩ (.slice (some ⟨g', 0, none⟩) ((S.list s).length + 1) cap')) hown (fun k hk => heap_setCell_other _ _ _ _ (fun e => by simp [Value.ownBlock] at hk; exact n1 (hk.trans e)))
  exact ownsRow_same h1 (fun k hk => heap_setCell_other _ _ _ _ (fun e => by simp [Value.ownBlock] at hk; exact n1 (hk.trans e)))
 ·simpa [Value.ownBlock] using n1
 ·have hc := h.sok.cnt
  rw [hne] at hc
  rw [told_last]
  simp only [List.length_append, List.length_cons, List.length_nil]
  simp at hc ⊢
  omega
 ·intro r hm
  rcases List.mem_append.1 hm with hm | hm
  ·exact h.sok.reps r hm
  ·rw [List.mem_singleton.1 hm]
   exact ⟨Nat.le_refl _, hr⟩
theorem PAt.grown {W W0 w' : World} {P : Nat} {tv lv : Value} {S : Src} {s : Ps} {la fo : Int} (h : PAt W P tv lv S s la fo) (hb : Below W.heap.size W W0) (hgrow : W0.grownBy w' lv.ownBlock) : w'.cell? ⟨P, 4, none⟩ = some lv ∧ w'.frozen? ⟨P, 4, none⟩ = false := by
 have h1 := grown_block hb hgrow h.box h.apart
 exact ⟨(cell_of_row _ _ _ _ _ _ h1).trans rfl, by simp [World.frozen?, h1]⟩
theorem PAt.setFound {w : World} {P : Nat} {tv lv : Value} {S : Src} {s : Ps} (h : PIn w P tv lv S s) (x : Int) (hx : x = S.found s) : PIn (w.setCell ⟨P, 5, none⟩ (.int .i64 x)) P tv lv S s := by
 subst hx
 refine h.put (Kept.setCell (F := fun b => b = P) w (a := ⟨P, _, none⟩) rfl _) ?_ rfl h.sok h.lab h.fob
 rw [heap_setCell_same _ _ _ _ _ _ h.box]
 exact rfl
set_option maxRecDepth 100000 in
set_option maxHeartbeats 1000000 in
theorem report_walk {w : World} {P : Nat} {tv lv : Value} {S : Src} {s : Ps} (h : PIn w P tv lv S s) (code : Int) (text : ByteArray) (hr : RpOk code text) :
 Calls Tryz.prog 36 #[.pointer (some ⟨P, 0, none⟩), .int .i64 code, .string text] w (SEnd w P tv lv S s (.tuple #[]) (report code text s)) := by
 obtain ⟨r1, r2, r3, r4⟩ := h.rng
 have hT := Lib.hid (token_lit h)
 have hh := Lib.hid h
 have hti := told_iff h.sok h.ok
 have hll := list_len h.sok h.ok
 have hadd := Lib.hid (fun (W W0 w' : World) (q : PIn W P tv lv S s) => PAt.add (W := W) (W0 := W0) (w' := w') q)
 obtain ⟨t, ht⟩ : ∃ t, t = S.tk s := ⟨_, rfl⟩
 have ht' := Lib.hid ht
 rw [← ht] at r1 r2 r3 hT hti hadd
 generalize (tok S.A s).kind = tk at *
 clear ht h
 go_enter Tryz.func36, Tryz.ntmps36
 go_upto_region 1 with (go_at_call 46; refine hT.out.mono ?_; rintro e w1 ⟨rfl, hb1⟩)
 have hbW := hb1.alloc hb1.size (.cells #[.int .i64 tk, .int .i64 t.fr, .int .i64 t.at_, .int .i64 t.to] 39)
 have hpW := Lib.hid (hh.out.below hbW)
 have hbx : (w1.alloc (.cells #[.int .i64 tk, .int .i64 t.fr, .int .i64 t.at_, .int .i64 t.to] 39)).heap[w1.heap.size]? = some (.cells #[.int .i64 tk, .int .i64 t.fr, .int .i64 t.at_, .int .i64 t.to] 39 (0, 0)) := heap_alloc_new _ _
 have hZ : w.heap.size ≤ w1.heap.size := hb1.size
 have hbx' := Lib.hid hbx
 have hbW' := Lib.hid hbW
 clear hT hb1 hbx hbW
 generalize w1.alloc _ = W at *
 generalize w1.heap.size = Z at *
 obtain ⟨_, _, _, _, d4, d5, d6⟩ := hpW.out.cell
 have y2 : W.cell? ⟨Z, 2, none⟩ = some (.int .i64 t.at_) := (cell_of_row _ _ _ _ _ _ hbx'.out).trans rfl
 have y3 : W.cell? ⟨Z, 3, none⟩ = some (.int .i64 t.to) := (cell_of_row _ _ _ _ _ _ hbx'.out).trans rfl
 by_cases hf : (t.at_ : Int) = S.found s
 ·have hse : Hid (report code text s = s) := by
   have := hti.1 hf
   unfold report
   rw [if_pos this]
   exact rfl
  have hff : ((t.at_ : Int) != S.found s) = false := by simpa using hf
  have hp2 : Hid (PIn (W.drew.setCell ⟨P, 5, none⟩ (.int .i64 t.at_)) P tv lv S s) := hpW.out.drew'.setFound _ hf
  clear hf hti d5 hadd
  go_region
  all_goals
   go_wp2
   go_end0
   rw [hse.out]
   exact ⟨lv, rfl, hp2.out, ((Kept.of_below hbW'.out).trans (.drew _)).trans (kept_set 5 _), fresh_same _ _, Nat.le_refl _⟩
 ·have hto : told s = false := by
   cases htt : told s with
   | false => rfl
   | true => exact absurd (hti.2 htt) hf
  have hse : Hid (report code text s = { s with reps := s.reps ++ [⟨code, s.at_, text⟩] }) := by
   unfold report
   rw [hto]
   rfl
  have hto' := Lib.hid hto
  have hff : ((t.at_ : Int) != S.found s) = true := by simpa using hf
  obtain ⟨i0, hi, hz0, hz1, hz2⟩ := info_parts info_dg
  have hown := hpW.out.list
  have hPW := lt_of_block hpW.out.box
  have hZW := lt_of_block hbx'.out
  have hZl : lv.ownBlock ≠ some Z := fun e => by have := (hh.out.list.lt Z e).2; omega
  have hap : lv.ownBlock ≠ some P := hpW.out.apart
  have d6' := d6 5
  clear hf hti hto d6
  go_region
  all_goals
   clear d4
   go_upto_region 2 with fail
   have hp1 := Lib.hid hpW.out.drew'
   have hownD : W.drew.ownsRow 0 34 4 lv (S.list s).length (dgV (S.list s)) := hown.drew
   go_region_law (refine step_append_mine rfl (.tmp 20) (.tmp 28) 26 rfl 0 34 i0 _ 4 40 Tryz.underlying26 hi hz0 hz1 hz2 (by decide) lv _ _ rfl (hownD.alloc _) ⟨W.drew.heap.size, 0, none⟩ 1 1 (Dg.mk code t.at_ t.to text).cells.toList rfl rfl (by omega) (cells_new W.drew (Dg.mk code t.at_ t.to text).cells _) (dg_one _) (by unfold maxLen; omega) (by omega) (Nat.zero_le _) ?_; intro g' cap' w' hown' hgrow hnew; obtain ⟨hc', hf'⟩ := hpW.out.grown (by (repeat (first | exact Below.refl _ _ | apply bl_drew | apply bl_alloc))) hgrow; have hbZ := grown_block (by (repeat (first | exact Below.refl _ _ | apply bl_drew | apply bl_alloc))) hgrow hbx'.out hZl; have yZ : w'.cell? ⟨Z, 2, none⟩ = some (.int .i64 t.at_) := (cell_of_row _ _ _ _ _ _ hbZ).trans rfl)
   all_goals
    obtain ⟨z1, z2, z3, z4⟩ := hadd.out _ _ _ hpW.out (by (repeat (first | exact Below.refl _ _ | apply bl_drew | apply bl_alloc))) code text hr hgrow hown' hnew
    have z4' := Lib.hid (z4 hto'.out)
    have z2' := Lib.hid z2
    have z3' := Lib.hid z3
    obtain ⟨c4, f4⟩ := z1
    have hPZ : P ≠ Z := by have := lt_of_block hh.out.box; omega
    have yZ2 : (w'.setCell ⟨P, 4, none⟩ (.slice (some ⟨g', 0, none⟩) ((S.list s).length + 1) cap')).cell? ⟨Z, 2, none⟩ = some (.int .i64 t.at_) := by
     refine (World.cell?_of_block (w := w') (a := ⟨Z, 2, none⟩) (heap_setCell_other _ _ _ _ (fun e => hPZ e.symm))).trans yZ
    clear z2 z3 z4 hown' hgrow hnew hbZ yZ hc' hf'
    generalize w'.setCell ⟨P, 4, none⟩ _ = w9 at *
    go_wp2
    go_end0
    rw [hse.out]
    exact ⟨_, rfl, z4'.out, ((Kept.of_below hbW'.out).trans z2'.out).trans (kept_set 5 _), fun k hk => by
     rcases z3'.out k hk with e | e
     ·exact .inl e
     ·exact .inr (Nat.le_trans hbW'.out.size e), Nat.le_refl _⟩
end Go.Proofs.YthggagophcnkfaaGreatDoor.py
namespace Go.Proofs.YthggagophcnkfaaGreatDoor.py
open Go.RowKit Go.Proofs.YthggagophcnkfaaGreatDoor.agg Go.Proofs.YthggagophcnkfaaGreatDoor.sx Go.Proofs.YthggagophcnkfaaGreatDoor.px
set_option linter.unusedSimpArgs false
set_option linter.unusedVariables false
theorem SEnd.behind {w W : World} {P : Nat} {tv lv : Value} {S : Src} {s : Ps} {v : Value} {s' : Ps} {e : Ending} {w' : World} (hb : Below w.heap.size w W) (h : SEnd W P tv lv S s v s' e w') : SEnd w P tv lv S s v s' e w' := by
 obtain ⟨lv', h1, h2, h3, h4, h5⟩ := h
 exact ⟨lv', h1, h2, (Kept.of_below hb).trans h3, fun k hk => by
  rcases h4 k hk with e | e
  ·exact .inl e
  ·exact .inr (Nat.le_trans hb.size e), h5⟩
theorem is_new {w W : World} {P : Nat} {tv lv : Value} {S : Src} {s : Ps} (h : PIn w P tv lv S s) (hb : Below w.heap.size w W) (ws : List ByteArray) (n : Nat) (hn : n = ws.length) (hl : n < 1000) :
 Calls Tryz.prog 33 #[.pointer (some ⟨P, 0, none⟩), .slice (some ⟨W.heap.size, 0, none⟩) n n] (W.alloc (.cells (ws.map Value.string).toArray 9)) fun e w' => e = .returned (.bool (isB S.A ws s)) ∧ Below w.heap.size w w' :=
 (is_walk ((h.below hb).below ((Below.refl _ W).alloc (Nat.le_refl _) _)) _ ws (strs_new W ws n hn) (by omega)).mono fun e w' hw => ⟨hw.1, (hb.alloc hb.size _).trans (hw.2.mono (hb.alloc hb.size _).size)⟩
theorem is_new1 {w W : World} {P : Nat} {tv lv : Value} {S : Src} {s : Ps} (h : PIn w P tv lv S s) (hb : Below w.heap.size w W) (a : ByteArray) :
 Calls Tryz.prog 33 #[.pointer (some ⟨P, 0, none⟩), .slice (some ⟨W.heap.size, 0, none⟩) 1 1] (W.alloc (.cells #[.string a] 9)) fun e w' => e = .returned (.bool (isB S.A [a] s)) ∧ Below w.heap.size w w' := is_new h hb [a] 1 rfl (by omega)
set_option maxRecDepth 100000 in
set_option maxHeartbeats 1000000 in
theorem optional_walk {w : World} {P : Nat} {tv lv : Value} {S : Src} {s : Ps} (h : PIn w P tv lv S s) (a : ByteArray) :
 Calls Tryz.prog 96 #[.pointer (some ⟨P, 0, none⟩), .string a] w (SEnd w P tv lv S s (.bool (optional S.A a s).1) (optional S.A a s).2) := by
 have hI := Lib.hid (is_new1 h (Below.refl _ w) a)
 have hN := Lib.hid (fun (W : World) (hb : Below w.heap.size w W) (hk : (tok S.A s).kind ≠ 0) => read_walk (h.below hb) hk)
 have hh := Lib.hid h
 unfold px.optional
 by_cases hi : isB S.A [a] s = true
 ·rw [if_pos hi]
  have hkn := Lib.hid (isB_kind hi)
  rw [hi] at hI
  clear hi h
  go_enter Tryz.func96, Tryz.ntmps96
  go_wp2_with (first
   | (go_at_call 33; refine hI.out.mono ?_; rintro e w1 ⟨rfl, hb1⟩)
   | (go_at_call 37; refine (hN.out _ hb1 hkn.out).mono ?_; rintro e w2 ⟨lv2, rfl, q1, q2, q3, q4⟩))
  go_ret
  exact SEnd.behind hb1 ⟨lv2, rfl, q1, q2, q3, q4⟩
 ·rw [if_neg hi]
  have hi2 : isB S.A [a] s = false := by simpa using hi
  rw [hi2] at hI
  clear hi hi2 h
  go_enter Tryz.func96, Tryz.ntmps96
  go_wp2_with (first
   | (go_at_call 33; refine hI.out.mono ?_; rintro e w1 ⟨rfl, hb1⟩))
  go_ret
  exact ⟨lv, rfl, hh.out.below hb1, .of_below hb1, fresh_same _ _, Nat.le_refl _⟩
set_option maxRecDepth 100000 in
set_option maxHeartbeats 1000000 in
theorem expect_walk {w : World} {P : Nat} {tv lv : Value} {S : Src} {s : Ps} (h : PIn w P tv lv S s) (a : ByteArray) (ha : a ≠ ⟨#[]⟩) :
 Calls Tryz.prog 83 #[.pointer (some ⟨P, 0, none⟩), .string a] w (SEnd w P tv lv S s (.tuple #[]) (demand S.A a s).2) := by
 have hT := optional_walk h a
 have hh := Lib.hid h
 have hR := Lib.hid (fun (W : World) (lv2 : Value) (q : PIn W P tv lv2 S s) => report_walk q 4 a (rp4 ha))
 unfold px.optional at hT
 unfold demand
 by_cases hi : isB S.A [a] s = true
 ·rw [if_pos hi] at hT ⊢
  have hT' := Lib.hid hT
  clear hi h hT hR
  go_enter Tryz.func83, Tryz.ntmps83
  go_wp2_with (go_at_call 96; refine hT'.out.mono ?_; rintro e w1 ⟨lv2, rfl, q1, q2, q3, q4⟩)
  go_end0
  exact ⟨lv2, rfl, q1, q2, q3, q4⟩
 ·rw [if_neg hi] at hT ⊢
  have hT' := Lib.hid hT
  clear hi h hT
  go_enter Tryz.func83, Tryz.ntmps83
  go_wp2_with (first
   | (go_at_call 96; refine hT'.out.mono ?_; rintro e w1 ⟨lv2, rfl, q1, q2, q3, q4⟩)
   | (go_at_call 36; refine (hR.out _ _ q1).mono ?_; rintro e w2 ⟨lv3, rfl, r1, r2, r3, r4⟩))
  go_end0
  exact ⟨lv3, rfl, r1, (step2 q2 q3 r2 r3).1, (step2 q2 q3 r2 r3).2, r4⟩
theorem kind_b {w : World} {P : Nat} {tv lv : Value} {S : Src} {s : Ps} {la fo : Int} (h : PAt w P tv lv S s la fo) (k : Nat) (ki : Int) (hki : ki = k) {b : Bool} (hb : decide ((tok S.A s).kind = k) = b) :
 Calls Tryz.prog 32 #[.pointer (some ⟨P, 0, none⟩), .int .i64 ki] w fun e w' => e = .returned (.bool b) ∧ Below w.heap.size w w' := by
 subst hki
 refine kind_walk h _ ?_
 rw [← hb, Bool.eq_iff_iff, beq_iff_eq, decide_eq_true_eq]
 omega
set_option maxRecDepth 100000 in
set_option maxHeartbeats 1000000 in
theorem name_walk {w : World} {P : Nat} {tv lv : Value} {S : Src} {s : Ps} (h : PIn w P tv lv S s) :
 Calls Tryz.prog 80 #[.pointer (some ⟨P, 0, none⟩)] w (SEnd w P tv lv S s (.string (name S.A s).1) (name S.A s).2) := by
 have hT := Lib.hid (kind_b h 1 1 rfl rfl)
 have hN := Lib.hid (fun (W : World) (hb : Below w.heap.size w W) (hk : (tok S.A s).kind ≠ 0) => read_walk (h.below hb) hk)
 have hR := Lib.hid (fun (W : World) (hb : Below w.heap.size w W) => report_walk (h.below hb) 4 (ByteArray.mk #[110, 97, 109, 101]) (rp4 (by decide)))
 unfold name
 by_cases hk : (tok S.A s).kind = 1
 ·rw [if_pos hk]
  have hkn : Hid ((tok S.A s).kind ≠ 0) := by rw [hk]; exact Lib.hid (by decide)
  rw [decide_eq_true hk] at hT
  clear hk h
  go_enter Tryz.func80, Tryz.ntmps80
  go_wp2_with (first
   | (go_at_call 32; refine hT.out.mono ?_; rintro e w1 ⟨rfl, hb1⟩)
   | (go_at_call 37; refine (hN.out _ hb1 hkn.out).mono ?_; rintro e w2 ⟨lv2, rfl, q1, q2, q3, q4⟩))
  go_ret
  exact SEnd.behind hb1 ⟨lv2, rfl, q1, q2, q3, q4⟩
 ·rw [if_neg hk]
  rw [decide_eq_false hk] at hT
  clear hk h
  go_enter Tryz.func80, Tryz.ntmps80
  go_wp2_with (first
   | (go_at_call 32; refine hT.out.mono ?_; rintro e w1 ⟨rfl, hb1⟩)
   | (go_at_call 36; refine (hR.out _ hb1).mono ?_; rintro e w2 ⟨lv2, rfl, q1, q2, q3, q4⟩))
  go_ret
  exact SEnd.behind hb1 ⟨lv2, rfl, q1, q2, q3, q4⟩
end Go.Proofs.YthggagophcnkfaaGreatDoor.py
namespace Go.Proofs.YthggagophcnkfaaGreatDoor.py
open Go.RowKit Go.Proofs.YthggagophcnkfaaGreatDoor.agg Go.Proofs.YthggagophcnkfaaGreatDoor.sx Go.Proofs.YthggagophcnkfaaGreatDoor.px
set_option linter.unusedSimpArgs false
set_option linter.unusedVariables false
def digF (x : ByteArray) : ByteArray := if dropZ x = ⟨#[]⟩ then (ByteArray.mk #[48]) else dropZ x
theorem digF_same {x y : ByteArray} (h : dropZ x = dropZ y) : digF x = digF y := by
 unfold digF
 rw [h]
theorem digF_end {c : ByteArray} (hc : 0 < c.size) (h : c.size = 1 ∨ c[0] ≠ 48) : digF c = c := by
 obtain ⟨⟨l⟩⟩ := c
 cases l with
 | nil => exact absurd hc (by decide)
 | cons a l =>
  by_cases ha : a = 48
  ·rcases h with h | h
   ·have hl : l = [] := by
     have : (a :: l).length = 1 := h
     exact List.eq_nil_of_length_eq_zero (by simpa using this)
    subst hl ha
    decide
   ·exact absurd ha h
  ·have e : dropZ ⟨⟨a :: l⟩⟩ = ⟨⟨a :: l⟩⟩ := dropZ_stop (.inr ⟨by simp [ByteArray.size], ha⟩)
   unfold digF
   rw [e, if_neg (by simp)]
def strSz (v : Value) : Nat := match v with | .string s => s.size | _ => 0
set_option maxRecDepth 100000 in
set_option maxHeartbeats 1000000 in
theorem digits_fn (w : World) (x : ByteArray) (h0 : 0 < x.size) (hm : x.size ≤ 5000) : Calls Tryz.prog 159 #[.string x] w fun e w' => e = .returned (.string (digF x)) ∧ w = w' := by
 go_enter Tryz.func159, Tryz.ntmps159
 go_wp2_with fail
 go_loopw [0] (fun v wr => ∃ c : ByteArray, v = .string c ∧ 0 < c.size ∧ c.size ≤ 5000 ∧ Hid (digF c = digF x) ∧ w = wr) (fun v _ => strSz v)
 case atStart => exact ⟨x, rfl, h0, hm, Lib.hid rfl, rfl⟩
 case round =>
  obtain ⟨c, rfl, hc, hc2, hd, rfl⟩ := hrel
  by_cases h1 : c.size = 1
  ·have he := digF_end hc (.inl h1)
   have hlt : ¬ (1 : Int) < c.size := by omega
   go_wp2_with fail
   go_ret
   exact ⟨by rw [← hd.out, he]; rfl, rfl⟩
  ·have hlt : (1 : Int) < c.size := by omega
   have hdc : decide ((1 : Int) < c.size) = true := decide_eq_true hlt
   by_cases hz : c[0] = 48
   ·have h48 : ((c[0].toNat : Int) == 48) = true := by rw [hz]; rfl
    have hx := dropZ_cons hc hz
    have hs : (c.extract 1 c.size).size = c.size - 1 := by rw [ByteArray.size_extract]; omega
    have hd2 := Lib.hid ((digF_same hx).trans hd.out)
    clear hd
    go_wp2_with fail
    go_roundw
    case rel => exact ⟨c.extract 1 c.size, rfl, by omega, by omega, hd2, trivial⟩
    case measure => show (c.extract 1 c.size).size < c.size; omega
   ·have h48 : ((c[0].toNat : Int) == 48) = false := by
     rw [beq_eq_false_iff_ne]
     intro e
     apply hz
     apply UInt8.toNat_inj.1
     have : c[0].toNat = 48 := by omega
     rw [this]
     rfl
    have he := digF_end hc (.inr hz)
    go_wp2_with fail
    go_ret
    exact ⟨by rw [← hd.out, he]; rfl, rfl⟩
theorem word_pos {w : World} {P : Nat} {tv lv : Value} {S : Src} {s : Ps} {la fo : Int} (h : PAt w P tv lv S s la fo) (hk : (tok S.A s).kind = 3) : 0 < (word S.A s).size ∧ (word S.A s).size ≤ 5000 := by
 have hm := tok_mem h.sok.lt
 rw [tok_kind] at hk
 have h1 := h.ok.num (S.tk s) (by rw [hm]; exact List.getElem_mem _) hk
 obtain ⟨_, r2, r3, r4⟩ := h.rng
 rw [tok_word h.sok.lt, ByteArray.size_extract]
 omega
set_option maxRecDepth 100000 in
set_option maxHeartbeats 1000000 in
theorem digits_walk {w : World} {P : Nat} {tv lv : Value} {S : Src} {s : Ps} (h : PIn w P tv lv S s) :
 Calls Tryz.prog 133 #[.pointer (some ⟨P, 0, none⟩)] w (SEnd w P tv lv S s (.string (digits S.A s).1) (digits S.A s).2) := by
 have hT := Lib.hid (kind_b h 3 3 rfl rfl)
 have hN := Lib.hid (fun (W : World) (hb : Below w.heap.size w W) (hk : (tok S.A s).kind ≠ 0) => read_walk (h.below hb) hk)
 have hR := Lib.hid (fun (W : World) (hb : Below w.heap.size w W) => report_walk (h.below hb) 4 (ByteArray.mk #[110, 117, 109, 98, 101, 114]) (rp4 (by decide)))
 unfold digits
 by_cases hk : (tok S.A s).kind = 3
 ·rw [if_pos hk]
  obtain ⟨h1, h2⟩ := word_pos h hk
  have hD := Lib.hid (fun (W : World) => digits_fn W (word S.A s) h1 h2)
  have hkn : Hid ((tok S.A s).kind ≠ 0) := by rw [hk]; exact Lib.hid (by decide)
  rw [decide_eq_true hk] at hT
  have hx : (if dropZ (word S.A s) = ⟨#[]⟩ then (ByteArray.mk #[48]) else dropZ (word S.A s), (next S.A s).2) = (digF (word S.A s), (next S.A s).2) := rfl
  rw [hx]
  have e2 : (next S.A s).1 = word S.A s := rfl
  rw [e2] at hN
  clear hk h h1 h2 hx e2
  generalize word S.A s = x at *
  go_enter Tryz.func133, Tryz.ntmps133
  go_wp2_with (first
   | (go_at_call 32; refine hT.out.mono ?_; rintro e w1 ⟨rfl, hb1⟩)
   | (go_at_call 37; refine (hN.out _ hb1 hkn.out).mono ?_; rintro e w2 ⟨lv2, rfl, q1, q2, q3, q4⟩)
   | (go_at_call 159; refine (hD.out _).mono ?_; rintro e _ ⟨rfl, rfl⟩))
  go_ret
  exact SEnd.behind hb1 ⟨lv2, rfl, q1, q2, q3, q4⟩
 ·rw [if_neg hk]
  rw [decide_eq_false hk] at hT
  clear hk h
  go_enter Tryz.func133, Tryz.ntmps133
  go_wp2_with (first
   | (go_at_call 32; refine hT.out.mono ?_; rintro e w1 ⟨rfl, hb1⟩)
   | (go_at_call 36; refine (hR.out _ hb1).mono ?_; rintro e w2 ⟨lv2, rfl, q1, q2, q3, q4⟩))
  go_ret
  exact SEnd.behind hb1 ⟨lv2, rfl, q1, q2, q3, q4⟩
set_option maxRecDepth 100000 in
set_option maxHeartbeats 1000000 in
theorem node_walk {w : World} {P : Nat} {tv lv : Value} {S : Src} {s : Ps} (h : PIn w P tv lv S s) (kind : Int) (first : Nat) (text : ByteArray) (ao : Option Addr) (len cap : Nat) (hf : first ≤ s.at_) :
 Calls Tryz.prog 38 #[.pointer (some ⟨P, 0, none⟩), .int .i64 kind, .string text, .int .i64 first, .int .i64 (S.last first), .slice ao len cap] w fun e w' => e = .returned (.agg #[.int .i64 kind, .string text, .int .i64 (S.at_ first s.at_), .int .i64 (S.last s.at_), .slice ao len cap]) ∧ Below w.heap.size w w' := by
 obtain ⟨c0, c1, c2, c3, c4, c5, c6⟩ := h.cell
 have hP := lt_of_block h.box
 have hat : s.at_ ≤ 5000 := by have h1 := h.sok.lt; have h2 := h.ok.len; omega
 obtain ⟨b, o, tcap, rfl, hb, hc⟩ := h.toks
 have hlt := h.sok.lt
 by_cases hfa : first < s.at_
 ·have hfL : first < S.L.length := by omega
  have k2 : w.cell? ⟨b, o + first * 4 + 2, none⟩ = some (.int .i64 S.L[first].at_) := hc first hfL 2 _ rfl
  have hna : S.at_ first s.at_ = (S.L[first].at_ : Int) := by
   unfold Src.at_
   rw [if_pos hfa, List.getD_eq_getElem?_getD, List.getElem?_eq_getElem hfL]
   rfl
  rw [hna]
  clear hna hc h c0 c4 c5 c6 hlt hf
  generalize S.L[first].at_ = fa at *
  generalize S.last s.at_ = la at *
  generalize S.last first = lf at *
  generalize s.at_ = i at *
  have hfi : (first : Int) < i := by omega
  have hd : decide (first < i) = true := decide_eq_true hfa
  have hdb : decide ((first : Int) < i) = true := decide_eq_true hfi
  go_enter Tryz.func38, Tryz.ntmps38
  go_upto_region 3 with fail
  go_region
  all_goals
   go_wp2
   refine bodyPost_ret (v := .agg #[.int .i64 kind, .string text, .int .i64 fa, .int .i64 la, .slice ao len cap]) (by simp [results, Tryz.results38, go_sem]) rfl ⟨rfl, ?_⟩
   repeat (first | exact Below.refl _ _ | apply Below.drew | refine Below.setCell ?_ (by simp) _ | refine Below.alloc ?_ (by simp) _)
 ·obtain rfl : first = s.at_ := by omega
  have hna : S.at_ s.at_ s.at_ = S.last s.at_ := by unfold Src.at_; rw [if_neg hfa]
  rw [hna]
  clear hna hc h c0 c1 c4 c5 c6
  generalize S.last s.at_ = la at *
  generalize s.at_ = i at *
  go_enter Tryz.func38, Tryz.ntmps38
  go_wp2_with fail
  refine bodyPost_ret (v := .agg #[.int .i64 kind, .string text, .int .i64 la, .int .i64 la, .slice ao len cap]) (by simp [results, Tryz.results38, go_sem]) rfl ⟨rfl, ?_⟩
  repeat (first | exact Below.refl _ _ | apply Below.drew | refine Below.setCell ?_ (by simp) _ | refine Below.alloc ?_ (by simp) _)
end Go.Proofs.YthggagophcnkfaaGreatDoor.py
