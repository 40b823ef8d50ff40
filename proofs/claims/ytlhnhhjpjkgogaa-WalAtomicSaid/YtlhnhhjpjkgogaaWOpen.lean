/- The walk of Open. -/
import Derived.Test.YtlhnhhjpjkgogaaWCreate
namespace Go.Proofs.Ytlhnhhjpjkgogaa.wl
open Go.RowKit Go.Proofs.Ytlhnhhjpjkgogaa.agg Go.Proofs.Ytlhnhhjpjkgogaa.dk
set_option linter.unusedSimpArgs false
set_option linter.unusedVariables false

/-- What Open's loop carries. -/
structure Op' where
  recs : List ByteArray
  epoch : Int
  part : ByteArray
  opn : Bool
  fin : Int
def begins (k : Int) : Bool := decide (k = 1) || decide (k = 3)
def ends (k : Int) : Bool := decide (k = 2) || decide (k = 3)
/-- Whether the loop breaks at position i. -/
def breaks (r : Option Fr) (i : Nat) (o : Op') : Bool :=
  match r with
  | none => true
  | some f => decide (f.pos ≠ i) || decide (f.epoch < o.epoch) || (begins f.kind == o.opn) || (o.opn && decide (f.epoch ≠ o.epoch))
def Op'.next (o : Op') (f : Fr) (i : Nat) : Op' :=
  if ends f.kind = true then ⟨o.recs ++ [o.part ++ f.data], f.epoch, ⟨#[]⟩, false, i + 1⟩ else ⟨o.recs, f.epoch, o.part ++ f.data, true, o.fin⟩
def openRun (m : List (Nat × Fr)) (pl : Nat → Int) : Nat → Nat → Op' → Op'
  | 0, _, o => o
  | t + 1, i, o => if breaks (getFr m (pl i)) i o = true then o else openRun m pl t (i + 1) (o.next ((getFr m (pl i)).getD Fr.none) i)
theorem openRun_break {m : List (Nat × Fr)} {pl : Nat → Int} {t i : Nat} {o : Op'} (h : breaks (getFr m (pl i)) i o = true) : openRun m pl (t + 1) i o = o := by rw [openRun, if_pos h]
theorem openRun_next {m : List (Nat × Fr)} {pl : Nat → Int} {t i : Nat} {o : Op'} (h : breaks (getFr m (pl i)) i o = false) : openRun m pl (t + 1) i o = openRun m pl t (i + 1) (o.next ((getFr m (pl i)).getD Fr.none) i) := by rw [openRun, if_neg (by simp [h])]

/-- The ways of a round. -/
theorem ways (fe fp fk oe : Int) (fd pt : ByteArray) (recs : List ByteArray) (opn : Bool) (fin : Int) (k : Nat) :
    (breaks (some ⟨fe, fp, fk, fd⟩) k ⟨recs, oe, pt, opn, fin⟩ = true ∧ (¬ fp = k ∨ (fp = k ∧ fe < oe) ∨ (fp = k ∧ ¬ fe < oe ∧ fk = 1 ∧ opn = true) ∨ (fp = k ∧ ¬ fe < oe ∧ fk = 3 ∧ opn = true) ∨ (fp = k ∧ ¬ fe < oe ∧ ¬ fk = 1 ∧ ¬ fk = 3 ∧ opn = false) ∨ (fp = k ∧ ¬ fe < oe ∧ ¬ fk = 1 ∧ ¬ fk = 3 ∧ opn = true ∧ ¬ fe = oe))) ∨
    (breaks (some ⟨fe, fp, fk, fd⟩) k ⟨recs, oe, pt, opn, fin⟩ = false ∧ fp = k ∧ ¬ fe < oe ∧ ((fk = 1 ∧ opn = false) ∨ (fk = 3 ∧ opn = false) ∨ (fk = 2 ∧ opn = true ∧ fe = oe) ∨ (¬ fk = 1 ∧ ¬ fk = 3 ∧ ¬ fk = 2 ∧ opn = true ∧ fe = oe))) := by
  unfold breaks begins
  simp only
  by_cases c1 : fp = k
  · by_cases c2 : fe < oe
    · exact .inl ⟨by simp [c2], .inr (.inl ⟨c1, c2⟩)⟩
    · by_cases c3 : fk = 1
      · cases opn
        · exact .inr ⟨by simp [c1, c2, c3], c1, c2, .inl ⟨c3, rfl⟩⟩
        · exact .inl ⟨by simp [c3], .inr (.inr (.inl ⟨c1, c2, c3, rfl⟩))⟩
      · by_cases c4 : fk = 3
        · cases opn
          · exact .inr ⟨by simp [c1, c2, c4], c1, c2, .inr (.inl ⟨c4, rfl⟩)⟩
          · exact .inl ⟨by simp [c4], .inr (.inr (.inr (.inl ⟨c1, c2, c4, rfl⟩)))⟩
        · cases opn
          · exact .inl ⟨by simp [c3, c4], .inr (.inr (.inr (.inr (.inl ⟨c1, c2, c3, c4, rfl⟩))))⟩
          · by_cases c5 : fe = oe
            · by_cases c6 : fk = 2
              · exact .inr ⟨by simp [c1, c5, c6], c1, c2, .inr (.inr (.inl ⟨c6, rfl, c5⟩))⟩
              · exact .inr ⟨by simp [c1, c3, c4, c5], c1, c2, .inr (.inr (.inr ⟨c3, c4, c6, rfl, c5⟩))⟩
            · exact .inl ⟨by simp [c5], .inr (.inr (.inr (.inr (.inr ⟨c1, c2, c3, c4, rfl, c5⟩))))⟩
  · exact .inl ⟨by simp [c1], .inl c1⟩
theorem parse_data (s : List Int) : (parseFr s).1.data.size ≤ 50 := by
  unfold parseFr
  split
  · simp [Fr.none, ByteArray.size]
  · rename_i h
    simp only [size_strOf]
    have : (List.take (s.getD 7 0).toNat (List.drop 8 s)).length ≤ (s.getD 7 0).toNat := by simp; omega
    omega
theorem scan_data (vis : Int → List Int) : ∀ k, ∀ x ∈ (scan vis k).m, x.2.data.size ≤ 50
  | 0, x, hx => by simp [scan, Sc.zero] at hx
  | k + 1, x, hx => by
    have ih := scan_data vis k
    simp only [scan, Sc.step] at hx
    split at hx
    · have hx' : x ∈ (scan vis k).m ++ [(k, (parseFr (vis k)).1)] := by
        split at hx <;> exact hx
      rcases List.mem_append.1 hx' with h | h
      · exact ih x h
      · simp at h; subst h; exact parse_data _
    · exact ih x hx
theorem getFr_mem {m : List (Nat × Fr)} {k : Int} {f : Fr} (h : getFr m k = some f) : ∃ x ∈ m, x.2 = f ∧ (x.1 : Int) = k := by
  unfold getFr at h
  cases hq : m.find? (fun x => (x.1 : Int) == k) with
  | none => rw [hq] at h; simp at h
  | some x =>
    rw [hq] at h
    refine ⟨x, List.mem_of_find?_eq_some hq, by simpa using h, by simpa using List.find?_some hq⟩
theorem exec_lookup {P : Program} {a : Act} {w : World} {dst : Option Tmp} {ty T : TypeId} {pos : String} {aft : Array Edge} {gd : Option (Nat × Bool)} {x y : Operand} {c : Bool} {o : Oper} (ho : o = ⟨dst, .lookup T x y c, ty, pos, aft, gd⟩) {v : Value} (h : (Instr.lookup T (a.eval x) (a.eval y) c).run P w = .ok v w) :
    (execOp a.eval o).run P w = .ok (.value v) w := by
  subst ho
  unfold execOp
  simp [h]
/-- How Open ends. -/
def OpenEnd (w : World) (D g : Nat) (pv : Value) (st' : St) (l : Lg) (recs : List ByteArray) (e : Ending) (w' : World) : Prop :=
  ∃ L rv, e = .returned (.tuple #[.pointer (some ⟨L, 0, none⟩), rv, .int .i64 0]) ∧ LogIn w' L D g pv st' l ∧ w'.ownsRow w.heap.size 9 1 rv recs.length (recs.map Value.string) ∧ Kept (foot D g pv) w w' ∧ w.heap.size ≤ L ∧ rv.ownBlock ≠ some L
/-- The memory in Open's loop. -/
structure OpAt (w : World) (D g : Nat) (pv : Value) (s1 : St) (gr bl ar : Int) (m : List (Nat × Fr)) (L b X : Nat) (o : Op') (rv : Value) (wr : World) : Prop where
  log : LogIn wr L D g pv s1 ⟨gr + 1, bl, ar, o.fin, 0⟩
  map : MapIn wr b m
  box : wr.heap[X]? = some (.cells #[.map (some b), .int .i64 gr, .int .i64 bl, .int .i64 ar] 81 (0, 0))
  own : wr.ownsRow w.heap.size 9 1 rv o.recs.length (o.recs.map Value.string)
  kept : Kept (foot D g pv) w wr
  apart : ∀ q, rv.ownBlock = some q → q ≠ L ∧ q ≠ b ∧ q ≠ X
theorem OpAt.below {w : World} {D g : Nat} {pv : Value} {s1 : St} {gr bl ar : Int} {m : List (Nat × Fr)} {L b X : Nat} {o : Op'} {rv : Value} {wr u : World} (h : OpAt w D g pv s1 gr bl ar m L b X o rv wr) (hb : Below wr.heap.size wr u) : OpAt w D g pv s1 gr bl ar m L b X o rv u :=
  ⟨h.log.below hb, h.map.same (hb.block _ h.map.lt), (hb.block _ (lt_of_block h.box)).trans h.box, ownsRow_same h.own (fun k hk => hb.block _ (h.own.lt k hk).2), h.kept.trans (Kept.of_below hb), h.apart⟩

theorem info_str : (Try.prog.info? 9).map (fun i => (i.zero, i.size, i.bytes)) = some (some (.string ⟨#[]⟩), 1, 16) := by kernel_rfl
theorem OpAt.append {w : World} {D g : Nat} {pv : Value} {st s1 : St} {gr bl ar : Int} {m : List (Nat × Fr)} {b X : Nat} {o : Op'} {rv : Value} {W9 w' : World} (h : OpAt w D g pv s1 gr bl ar m (X + 1) b X o rv W9) (h0 : DiskIn w D g pv st) (hbX : w.heap.size ≤ b ∧ w.heap.size ≤ X ∧ b < X)
    {ob : Obj} {g' cap' : Nat} {p : ByteArray} (hown' : w'.ownsRow w.heap.size 9 1 (.slice (some ⟨g', 0, none⟩) (o.recs.length + 1) cap') (o.recs.length + 1) (o.recs.map Value.string ++ [.string p])) (hgrow : (W9.alloc ob).grownBy w' rv.ownBlock) (hnew : rv.ownBlock = some g' ∨ g' = (W9.alloc ob).heap.size) :
    LogIn w' (X + 1) D g pv s1 ⟨gr + 1, bl, ar, o.fin, 0⟩ ∧ ∀ o' : Op', o'.recs = o.recs ++ [p] → OpAt w D g pv s1 gr bl ar m (X + 1) b X o' (.slice (some ⟨g', 0, none⟩) (o.recs.length + 1) cap') (w'.setCell ⟨X + 1, 4, none⟩ (.int .i64 o'.fin)) := by
  have hk : Kept (fun q => rv.ownBlock = some q) W9 w' := (Kept.alloc (F := fun q => rv.ownBlock = some q) W9 ob).trans' (Kept.grown hgrow (fun q hq => hq)) (fun _ _ e => e)
  have hL : LogIn w' (X + 1) D g pv s1 ⟨gr + 1, bl, ar, o.fin, 0⟩ := h.log.kept hk (fun q hq e => by
    have h1 := h.own.lt q e
    rcases hq with hq | hq
    · exact (h.apart q e).1 hq
    · have := h0.lt q hq; omega)
  have hgX : g' ≠ X + 1 ∧ g' ≠ b ∧ g' ≠ X := by
    rcases hnew with e | e
    · exact h.apart g' e
    · have h1 := lt_of_block h.log.log
      have h2 := lt_of_block h.box
      have h3 := h.map.lt
      simp at e
      omega
  have hnb : ∀ q, q < W9.heap.size → (q = X + 1 ∨ q = b ∨ q = X) → w'.heap[q]? = W9.heap[q]? := fun q hq hh => hk.block q hq (fun e => by
    have := h.apart q e
    omega)
  refine ⟨hL, fun o' ho => ⟨hL.put 4 (.int .i64 o'.fin) rfl, ?_, ?_, ?_, ?_, ?_⟩⟩
  · exact h.map.same ((heap_setCell_other _ _ _ _ (by simp; omega)).trans (hnb b h.map.lt (.inr (.inl rfl))))
  · exact (heap_setCell_other _ _ _ _ (by simp)).trans ((hnb X (lt_of_block h.box) (.inr (.inr rfl))).trans h.box)
  · have e1 : o'.recs.length = o.recs.length + 1 := by rw [ho]; simp
    rw [e1, ho, List.map_append]
    refine ownsRow_same hown' (fun q hq => heap_setCell_other _ _ _ _ ?_)
    simp [Value.ownBlock] at hq
    subst hq
    exact hgX.1
  · have h1 : Kept (fun q => w.heap.size ≤ q) W9 (w'.setCell ⟨X + 1, 4, none⟩ (.int .i64 o'.fin)) := (hk.mono (fun q _ e => (h.own.lt q e).1)).trans (Kept.setCell w' (a := ⟨X + 1, 4, none⟩) (F := fun q => w.heap.size ≤ q) (by simp; omega) _)
    exact h.kept.trans' h1 (fun i hi e => by omega)
  · intro q hq
    simp [Value.ownBlock] at hq
    subst hq
    exact hgX
attribute [local go_sem ↓] load_fr store_fr
attribute [local go_sem] size_fr one_fr over_fr field_fr cut_fr fr_0 fr_0'
set_option maxRecDepth 100000 in
set_option maxHeartbeats 4000000 in
theorem open_walk {w : World} {D g : Nat} {pv : Value} {st : St} (h : DiskIn w D g pv st) (h8 : 8 ≤ st.dur.length) (hf : st.failed = false) (hsec : ∀ i : Nat, i < st.dur.length → IsSec (st.visible i)) (hpl : st.pend.length < 900000)
    (hbl : 0 ≤ (scan st.visible st.dur.length).block) (hgr : 0 ≤ (scan st.visible st.dur.length).greatest ∧ (scan st.visible st.dur.length).greatest < 4294967295) (har : (scan st.visible st.dur.length).area = 0 ∨ (scan st.visible st.dur.length).area = 1)
    (R : Op') (hR : openRun (scan st.visible st.dur.length).m (fun i => placeOf st (scan st.visible st.dur.length).area i) (sizeOf' st).toNat 0 ⟨[], ((getFr (scan st.visible st.dur.length).m (scan st.visible st.dur.length).block).getD Fr.none).epoch, ⟨#[]⟩, false, 0⟩ = R) :
    Calls Try.prog 12 #[.pointer (some ⟨D, 0, none⟩)] w (OpenEnd w D g pv (reads st st.dur.length) ⟨(scan st.visible st.dur.length).greatest + 1, (scan st.visible st.dur.length).block, (scan st.visible st.dur.length).area, R.fin, 0⟩ R.recs) := by
  have hlook := look_walk h h8 hf hsec (by omega)
  have hlook' := Lib.hid hlook
  have hh := Lib.hid h
  have hs1 : sizeOf' (reads st st.dur.length) = sizeOf' st := sizeOf_dur rfl
  have hp1 : ∀ i : Nat, placeOf (reads st st.dur.length) (scan st.visible st.dur.length).area i = placeOf st (scan st.visible st.dur.length).area i := fun i => placeOf_dur rfl _ _
  obtain ⟨z1, z2⟩ := size_rng h
  have hz3 : 0 ≤ sizeOf' st := by
    unfold sizeOf'
    rw [Int.tdiv_eq_ediv_of_nonneg (by omega)]
    omega
  have hdata := scan_data st.visible st.dur.length
  clear h h8 hf hsec hlook hpl
  generalize hst : reads st st.dur.length = s1 at *
  generalize scan st.visible st.dur.length = x at *
  obtain ⟨m, gr, bl, ar⟩ := x
  simp only at hbl hgr har hR hp1 hdata
  have hdata' := Lib.hid hdata
  clear hdata
  generalize hpl0 : (fun i : Nat => placeOf st ar (i : Int)) = pl at hR
  have hpl : ∀ i : Nat, pl i = placeOf s1 ar i := fun i => by rw [hp1 i, ← hpl0]
  have hsz : sizeOf' s1 = ((sizeOf' st).toNat : Nat) := by rw [hs1]; omega
  generalize hzn : (sizeOf' st).toNat = zn at *
  have hz4 : zn ≤ 1023 := by omega
  have hpl' := Lib.hid hpl
  have hsz' := Lib.hid hsz
  have hR' := Lib.hid hR
  clear hst hpl0 hp1 hs1 hzn hpl hsz hR z1 z2 hz3
  generalize hfr : (getFr m bl).getD Fr.none = fr0 at *
  have hfr' := Lib.hid hfr
  clear hfr
  go_enter Try.func12, Try.ntmps12
  go_wp2_with (first
    | (go_at_call 43; refine (hlook'.out).mono ?_; rintro e w1 ⟨b, rfl, hd1, hm1, hk1, hb1⟩; rw [show Sc.cells b ⟨m, gr, bl, ar⟩ = #[.map (some b), .int .i64 gr, .int .i64 bl, .int .i64 ar] from rfl]; have hbb : Below w1.heap.size w1 ((w1.alloc (.cells #[.map (some b), .int .i64 gr, .int .i64 bl, .int .i64 ar] 81)).alloc (.cells #[.pointer (some ⟨D, 0, none⟩), .int .i64 (gr + 1), .int .i64 bl, .int .i64 ar, .int .i64 0, .int .i64 0] 85)) := (((Below.refl _ _).alloc (Nat.le_refl _) _).alloc (by simp) _); have hlk := run_lookup_own (hm1.same (hbb.block _ hm1.lt)) bl false; rw [hfr'.out] at hlk)
    | (go_at_call 44; have hlg : LogIn ((w1.alloc (.cells #[.map (some b), .int .i64 gr, .int .i64 bl, .int .i64 ar] 81)).alloc (.cells #[.pointer (some ⟨D, 0, none⟩), .int .i64 (gr + 1), .int .i64 bl, .int .i64 ar, .int .i64 0, .int .i64 0] 85)) (w1.heap.size + 1) D g pv s1 ⟨gr + 1, bl, ar, 0, 0⟩ := ⟨hd1.kept (Kept.of_below (F := fun _ => False) hbb) (fun _ _ => id), heap_alloc2_new w1 _ _, foot_lt hd1 (by omega)⟩; refine (size_any hlg).mono ?_; rintro e w2 ⟨rfl, rfl⟩; rw [hsz'.out]))
  have hA0 : OpAt w D g pv s1 gr bl ar m (w1.heap.size + 1) b w1.heap.size ⟨[], fr0.epoch, ⟨#[]⟩, false, 0⟩ (.slice none 0 0) ((w1.alloc (.cells #[.map (some b), .int .i64 gr, .int .i64 bl, .int .i64 ar] 81)).alloc (.cells #[.pointer (some ⟨D, 0, none⟩), .int .i64 (gr + 1), .int .i64 bl, .int .i64 ar, .int .i64 0, .int .i64 0] 85)) :=
    ⟨hlg, hm1.same (hbb.block _ hm1.lt), heap_alloc2_old w1 _ _, World.ownsRow_nil _ _ _ _, hk1.trans (Kept.of_below hbb), fun q hq => by simp [Value.ownBlock] at hq⟩
  have hA0' := Lib.hid hA0
  have hbw : Hid (w.heap.size ≤ b ∧ w.heap.size ≤ w1.heap.size ∧ b < w1.heap.size) := ⟨hb1, hk1.size, hm1.lt⟩
  clear hA0 hlg hlk hbb hd1 hm1 hk1 hb1
  generalize (w1.alloc _).alloc _ = W0 at *
  generalize w1.heap.size = X at *
  go_loopw [8, 9, 10, 11, 51] (fun v ep pt on i wr => ∃ (k : Nat) (o : Op'), k ≤ zn ∧ i = .int .i64 k ∧ ep = .int .i64 o.epoch ∧ pt = .string o.part ∧ on = .bool o.opn ∧ o.part.size ≤ 50 * k ∧ o.recs.length ≤ k ∧ openRun m pl (zn - k) k o = R ∧ OpAt w D g pv s1 gr bl ar m (X + 1) b X o v wr) (fun _ _ _ _ i _ => zn - (intOf i).toNat)
  case atStart => exact ⟨0, _, Nat.zero_le _, rfl, rfl, rfl, rfl, Nat.zero_le _, Nat.zero_le _, hR'.out, hA0'.out⟩
  case round =>
    obtain ⟨k, o, hk, rfl, rfl, rfl, rfl, hpt, hrl, hrun, hA⟩ := hrel
    by_cases hlt : k < zn
    · obtain ⟨zt, hzt⟩ : ∃ zt, zn - k = zt + 1 := ⟨zn - k - 1, by omega⟩
      rw [hzt] at hrun
      have hrun' := Lib.hid hrun
      have hA' := Lib.hid hA
      have hzt' := Lib.hid hzt
      obtain ⟨x0, x1, x2, x3, xf, xl⟩ := scan_facts hA.box
      clear hrun hA hzt
      go_wp2_with fail
      generalize hff : (getFr m (pl k)).getD Fr.none = ff
      generalize hok : (getFr m (pl k)).isSome = ok
      have hff' := Lib.hid hff
      have hok' := Lib.hid hok
      have hk01 : Hid (0 ≤ (k : Int) ∧ (k : Int) ≤ 1000000) := ⟨by omega, by omega⟩
      have hb7 : Below wr.heap.size wr (wr.alloc (.cells #[.int .i64 0, .int .i64 0, .int .i64 0, .string ⟨#[]⟩] 87)).drew := ((Below.refl _ _).alloc (Nat.le_refl _) _).drew
      have hb8 : Below wr.heap.size wr (wr.alloc (.cells ff.cells 87)).drew := ((Below.refl _ _).alloc (Nat.le_refl _) _).drew
      have hL7 := hA'.out.log.below hb7
      have hL8 := hA'.out.log.below hb8
      have hM7 := hA'.out.map.same (hb7.block _ hA'.out.map.lt)
      have hM8 := hA'.out.map.same (hb8.block _ hA'.out.map.lt)
      have hX7 := (scan_facts ((hb7.block _ (lt_of_block hA'.out.box)).trans hA'.out.box)).1
      have hX8 := (scan_facts ((hb8.block _ (lt_of_block hA'.out.box)).trans hA'.out.box)).1
      have hW6 : Hid ((wr.alloc (.cells #[.int .i64 0, .int .i64 0, .int .i64 0, .string ⟨#[]⟩] 87)).drew.setRow wr.heap.size (overrow (rowOf (wr.alloc (.cells #[.int .i64 0, .int .i64 0, .int .i64 0, .string ⟨#[]⟩] 87)).drew wr.heap.size) 0 ff.cells) = (wr.alloc (.cells ff.cells 87)).drew) := by
        rw [rowOf_drew, rowOf_alloc_at _ _ _ rfl, over_fr, setRow_drew, setRow_alloc_at _ _ _ _ rfl]
        exact rfl
      have hL7' := Lib.hid hL7
      clear hff hok x0 x1 x2 x3 xf
      apply once
      case r =>
        intro H
        refine wp_region_held_drew (S := fun u => MapIn u b m ∧ u.cell? ⟨X + 1, 3, none⟩ = some (.int .i64 ar) ∧ u.cell? ⟨X, 0, none⟩ = some (.map (some b))) (by kernel_rfl) ?hS (fun hHeld => ?_)
        case hS => exact ⟨hA'.out.map, hA'.out.log.cell.2.2.2.1, (scan_facts hA'.out.box).1⟩
        refine wpAnyH_take (i := 0) (v := .pointer (some ⟨X, 0, none⟩)) rfl (by kernel_rfl) (by kernel_rfl) (by kernel_rfl) (fun _ _ _ h => h) (Or.inl ⟨by rfl, by intro u hu; (try dsimp only at hu); go_simp⟩) hHeld ?_
        try simp only [Act.put, List.getElem_toArray, List.getElem_cons_zero, List.getElem_cons_succ, List.setIfInBounds_toArray, List.set_cons_zero, List.set_cons_succ]
        refine wpAnyH_take (i := 1) (v := .map (some b)) rfl (by kernel_rfl) (by kernel_rfl) (by kernel_rfl) (fun _ _ _ h => h) (Or.inl ⟨by rfl, by intro u hu; (try dsimp only at hu); go_simp⟩) hHeld ?_
        try simp only [Act.put, List.getElem_toArray, List.getElem_cons_zero, List.getElem_cons_succ, List.setIfInBounds_toArray, List.set_cons_zero, List.set_cons_succ]
        refine wpAnyH_take (i := 2) (v := .pointer (some ⟨X + 1, 0, none⟩)) rfl (by kernel_rfl) (by kernel_rfl) (by kernel_rfl) (fun _ _ _ h => h) (Or.inl ⟨by rfl, by intro u hu; (try dsimp only at hu); go_simp⟩) hHeld ?_
        try simp only [Act.put, List.getElem_toArray, List.getElem_cons_zero, List.getElem_cons_succ, List.setIfInBounds_toArray, List.set_cons_zero, List.set_cons_succ]
        refine wpAnyH_take (i := 3) (v := .pointer (some ⟨X + 1, 0, none⟩)) rfl (by kernel_rfl) (by kernel_rfl) (by kernel_rfl) (fun _ _ _ h => h) (Or.inl ⟨by rfl, by intro u hu; (try dsimp only at hu); go_simp⟩) hHeld ?_
        try simp only [Act.put, List.getElem_toArray, List.getElem_cons_zero, List.getElem_cons_succ, List.setIfInBounds_toArray, List.set_cons_zero, List.set_cons_succ]
        refine wpAnyH_take (i := 4) (v := .pointer (some ⟨X + 1, 0, none⟩)) rfl (by kernel_rfl) (by kernel_rfl) (by kernel_rfl) (fun _ _ _ h => h) (Or.inl ⟨by rfl, by intro u hu; (try dsimp only at hu); go_simp⟩) hHeld ?_
        try simp only [Act.put, List.getElem_toArray, List.getElem_cons_zero, List.getElem_cons_succ, List.setIfInBounds_toArray, List.set_cons_zero, List.set_cons_succ]
        refine wpAnyH_take (i := 5) (v := .pointer (some ⟨X + 1, 3, none⟩)) rfl (by kernel_rfl) (by kernel_rfl) (by kernel_rfl) (fun _ _ _ h => h) (Or.inl ⟨by rfl, by intro u hu; (try dsimp only at hu); go_simp⟩) hHeld ?_
        try simp only [Act.put, List.getElem_toArray, List.getElem_cons_zero, List.getElem_cons_succ, List.setIfInBounds_toArray, List.set_cons_zero, List.set_cons_succ]
        refine wpAnyH_take (i := 6) (v := .int .i64 ar) rfl (by kernel_rfl) (by kernel_rfl) (by kernel_rfl) (fun _ _ _ h => h) (Or.inl ⟨by rfl, by intro u hu; (try dsimp only at hu); go_simp⟩) hHeld ?_
        try simp only [Act.put, List.getElem_toArray, List.getElem_cons_zero, List.getElem_cons_succ, List.setIfInBounds_toArray, List.set_cons_zero, List.set_cons_succ]
        refine wpAnyH_take (i := 7) (v := .int .i64 (k : Nat)) rfl (by kernel_rfl) (by kernel_rfl) (by kernel_rfl) (fun _ _ _ h => h) (Or.inl ⟨by rfl, by intro u hu; (try dsimp only at hu); go_simp⟩) hHeld ?_
        try simp only [Act.put, List.getElem_toArray, List.getElem_cons_zero, List.getElem_cons_succ, List.setIfInBounds_toArray, List.set_cons_zero, List.set_cons_succ]
        refine wpAnyH_ready (rs := [8, 13]) (by kernel_rfl) (by simp) ?_
        refine AllReadyH.cons rfl (fun K hK => ?_) (AllReadyH.cons rfl (fun K hK => ?_) AllReadyH.nil)
        all_goals rw [if_pos (by rfl)]
        · skip
          go_simp
          go_at_call 45
          refine (place_any (hA'.out.log.drew) ar k har hk01.out).mono ?_
          rintro e2 _ ⟨rfl, rfl⟩
          rw [← hpl'.out k]
          refine hK.out _ _ hHeld (fun hHeld => ?_)
          clear hK K
          try simp only [Act.put, List.getElem_toArray, List.getElem_cons_zero, List.getElem_cons_succ, List.setIfInBounds_toArray, List.set_cons_zero, List.set_cons_succ]
          refine wpAnyH_take (i := 9) (v := .tuple #[.agg ff.cells, .bool ok]) rfl (by kernel_rfl) (by kernel_rfl) (by kernel_rfl) (fun _ _ _ h => h) (Or.inl ⟨by rfl, fun u hu => by have hq := run_lookup_own hu.1 (pl k) true; rw [hff'.out, hok'.out] at hq; exact exec_lookup rfl hq⟩) hHeld ?_
          try simp only [Act.put, List.getElem_toArray, List.getElem_cons_zero, List.getElem_cons_succ, List.setIfInBounds_toArray, List.set_cons_zero, List.set_cons_succ]
          refine wpAnyH_take (i := 10) (v := .tuple #[.agg ff.cells, .bool ok]) rfl (by kernel_rfl) (by kernel_rfl) (by kernel_rfl) (fun _ _ _ h => h) (Or.inl ⟨by rfl, by intro u hu; (try dsimp only at hu); go_simp⟩) hHeld ?_
          try simp only [Act.put, List.getElem_toArray, List.getElem_cons_zero, List.getElem_cons_succ, List.setIfInBounds_toArray, List.set_cons_zero, List.set_cons_succ]
          refine wpAnyH_take (i := 11) (v := .agg ff.cells) rfl (by kernel_rfl) (by kernel_rfl) (by kernel_rfl) (fun _ _ _ h => h) (Or.inl ⟨by rfl, by intro u hu; (try dsimp only at hu); go_simp⟩) hHeld ?_
          try simp only [Act.put, List.getElem_toArray, List.getElem_cons_zero, List.getElem_cons_succ, List.setIfInBounds_toArray, List.set_cons_zero, List.set_cons_succ]
          refine wpAnyH_take (i := 12) (v := .bool ok) rfl (by kernel_rfl) (by kernel_rfl) (by kernel_rfl) (fun _ _ _ h => h) (Or.inl ⟨by rfl, by intro u hu; (try dsimp only at hu); go_simp⟩) hHeld ?_
          try simp only [Act.put, List.getElem_toArray, List.getElem_cons_zero, List.getElem_cons_succ, List.setIfInBounds_toArray, List.set_cons_zero, List.set_cons_succ]
          refine wpAnyH_ready (rs := [13]) (by kernel_rfl) (by simp) ?_
          refine AllReadyH.cons rfl (fun K hK => ?_) AllReadyH.nil
          rw [if_pos (by rfl)]
          go_simp
          refine hK.out _ _ ⟨hM7, hL7.cell.2.2.2.1, hX7⟩ (fun hHeld => ?_)
          clear hK K
          try simp only [Act.put, List.getElem_toArray, List.getElem_cons_zero, List.getElem_cons_succ, List.setIfInBounds_toArray, List.set_cons_zero, List.set_cons_succ]
          refine wpAnyH_ready (rs := [14]) (by kernel_rfl) (by simp) ?_
          refine AllReadyH.cons rfl (fun K hK => ?_) AllReadyH.nil
          rw [if_pos (by rfl)]
          refine Eq.mpr (store_fr (.tmp 13) (.tmp 65) ?h1 ?h2) ?_
          case h1 =>
            show decide (0 + 4 ≤ (rowOf (wr.alloc (.cells #[.int .i64 0, .int .i64 0, .int .i64 0, .string ⟨#[]⟩] 87)).drew wr.heap.size).size ∧ 0 < 4) = true
            rw [rowOf_drew, rowOf_alloc_at _ _ _ rfl]
            rfl
          case h2 => rfl
          refine hK.out _ ((wr.alloc (.cells #[.int .i64 0, .int .i64 0, .int .i64 0, .string ⟨#[]⟩] 87)).drew.setRow wr.heap.size (overrow (rowOf (wr.alloc (.cells #[.int .i64 0, .int .i64 0, .int .i64 0, .string ⟨#[]⟩] 87)).drew wr.heap.size) 0 ff.cells)) ?_ ?_
          · rw [hW6.out]
            exact ⟨hM8, hL8.cell.2.2.2.1, hX8⟩
          rw [hW6.out]
          intro hHeld
          clear hK K
          try simp only [Act.put, List.getElem_toArray, List.getElem_cons_zero, List.getElem_cons_succ, List.setIfInBounds_toArray, List.set_cons_zero, List.set_cons_succ]
          refine wpAnyH_take (i := 15) (v := .bool ok) rfl (by kernel_rfl) (by kernel_rfl) (by kernel_rfl) (fun _ _ _ h => h) (Or.inl ⟨by rfl, by intro u hu; (try dsimp only at hu); go_simp⟩) hHeld ?_
          try simp only [Act.put, List.getElem_toArray, List.getElem_cons_zero, List.getElem_cons_succ, List.setIfInBounds_toArray, List.set_cons_zero, List.set_cons_succ]
          refine wpAnyH_done (by kernel_rfl) ?_ _
          exact H
        · skip
          go_simp
          refine hK.out _ _ ⟨hM7, hL7.cell.2.2.2.1, hX7⟩ (fun hHeld => ?_)
          clear hK K
          try simp only [Act.put, List.getElem_toArray, List.getElem_cons_zero, List.getElem_cons_succ, List.setIfInBounds_toArray, List.set_cons_zero, List.set_cons_succ]
          refine wpAnyH_ready (rs := [8]) (by kernel_rfl) (by simp) ?_
          refine AllReadyH.cons rfl (fun K hK => ?_) AllReadyH.nil
          rw [if_pos (by rfl)]
          go_simp
          go_at_call 45
          refine (place_any (hL7'.out) ar k har hk01.out).mono ?_
          rintro e2 _ ⟨rfl, rfl⟩
          rw [← hpl'.out k]
          refine hK.out _ _ hHeld (fun hHeld => ?_)
          clear hK K
          try simp only [Act.put, List.getElem_toArray, List.getElem_cons_zero, List.getElem_cons_succ, List.setIfInBounds_toArray, List.set_cons_zero, List.set_cons_succ]
          refine wpAnyH_take (i := 9) (v := .tuple #[.agg ff.cells, .bool ok]) rfl (by kernel_rfl) (by kernel_rfl) (by kernel_rfl) (fun _ _ _ h => h) (Or.inl ⟨by rfl, fun u hu => by have hq := run_lookup_own hu.1 (pl k) true; rw [hff'.out, hok'.out] at hq; exact exec_lookup rfl hq⟩) hHeld ?_
          try simp only [Act.put, List.getElem_toArray, List.getElem_cons_zero, List.getElem_cons_succ, List.setIfInBounds_toArray, List.set_cons_zero, List.set_cons_succ]
          refine wpAnyH_take (i := 10) (v := .tuple #[.agg ff.cells, .bool ok]) rfl (by kernel_rfl) (by kernel_rfl) (by kernel_rfl) (fun _ _ _ h => h) (Or.inl ⟨by rfl, by intro u hu; (try dsimp only at hu); go_simp⟩) hHeld ?_
          try simp only [Act.put, List.getElem_toArray, List.getElem_cons_zero, List.getElem_cons_succ, List.setIfInBounds_toArray, List.set_cons_zero, List.set_cons_succ]
          refine wpAnyH_take (i := 11) (v := .agg ff.cells) rfl (by kernel_rfl) (by kernel_rfl) (by kernel_rfl) (fun _ _ _ h => h) (Or.inl ⟨by rfl, by intro u hu; (try dsimp only at hu); go_simp⟩) hHeld ?_
          try simp only [Act.put, List.getElem_toArray, List.getElem_cons_zero, List.getElem_cons_succ, List.setIfInBounds_toArray, List.set_cons_zero, List.set_cons_succ]
          refine wpAnyH_take (i := 12) (v := .bool ok) rfl (by kernel_rfl) (by kernel_rfl) (by kernel_rfl) (fun _ _ _ h => h) (Or.inl ⟨by rfl, by intro u hu; (try dsimp only at hu); go_simp⟩) hHeld ?_
          try simp only [Act.put, List.getElem_toArray, List.getElem_cons_zero, List.getElem_cons_succ, List.setIfInBounds_toArray, List.set_cons_zero, List.set_cons_succ]
          refine wpAnyH_ready (rs := [14]) (by kernel_rfl) (by simp) ?_
          refine AllReadyH.cons rfl (fun K hK => ?_) AllReadyH.nil
          rw [if_pos (by rfl)]
          refine Eq.mpr (store_fr (.tmp 13) (.tmp 65) ?h1 ?h2) ?_
          case h1 =>
            show decide (0 + 4 ≤ (rowOf (wr.alloc (.cells #[.int .i64 0, .int .i64 0, .int .i64 0, .string ⟨#[]⟩] 87)).drew wr.heap.size).size ∧ 0 < 4) = true
            rw [rowOf_drew, rowOf_alloc_at _ _ _ rfl]
            rfl
          case h2 => rfl
          refine hK.out _ ((wr.alloc (.cells #[.int .i64 0, .int .i64 0, .int .i64 0, .string ⟨#[]⟩] 87)).drew.setRow wr.heap.size (overrow (rowOf (wr.alloc (.cells #[.int .i64 0, .int .i64 0, .int .i64 0, .string ⟨#[]⟩] 87)).drew wr.heap.size) 0 ff.cells)) ?_ ?_
          · rw [hW6.out]
            exact ⟨hM8, hL8.cell.2.2.2.1, hX8⟩
          rw [hW6.out]
          intro hHeld
          clear hK K
          try simp only [Act.put, List.getElem_toArray, List.getElem_cons_zero, List.getElem_cons_succ, List.setIfInBounds_toArray, List.set_cons_zero, List.set_cons_succ]
          refine wpAnyH_take (i := 15) (v := .bool ok) rfl (by kernel_rfl) (by kernel_rfl) (by kernel_rfl) (fun _ _ _ h => h) (Or.inl ⟨by rfl, by intro u hu; (try dsimp only at hu); go_simp⟩) hHeld ?_
          try simp only [Act.put, List.getElem_toArray, List.getElem_cons_zero, List.getElem_cons_succ, List.setIfInBounds_toArray, List.set_cons_zero, List.set_cons_succ]
          refine wpAnyH_done (by kernel_rfl) ?_ _
          exact H
      have hA8 := hA'.out.below hb8
      have hfb : (wr.alloc (.cells ff.cells 87)).drew.heap[wr.heap.size]? = some (.cells ff.cells 87 (0, 0)) := heap_alloc_new wr _
      have hA8' := Lib.hid hA8
      clear hL7 hL8 hM7 hM8 hX7 hX8 hb7 hW6 hL7' hA8 hA' hb8
      generalize (wr.alloc _).drew = W8 at *
      generalize wr.heap.size = B at *
      obtain ⟨recs, oe, pt, opn, ofin⟩ := o
      have hoks := hok'.out
      have hffs := hff'.out
      cases hg : getFr m (pl k) with
      | none =>
        rw [hg] at hoks
        subst hoks
        have hRo : (⟨recs, oe, pt, opn, ofin⟩ : Op') = R := (openRun_break (by rw [hg]; rfl)).symm.trans hrun'.out
        subst hRo
        rw [hg] at hffs
        simp only [Option.getD_none] at hffs
        subst hffs
        have y0 : W8.cell? ⟨B, 0, none⟩ = some (.int .i64 0) := by simp [World.cell?, hfb, Fr.cells, Fr.none]
        have y1 : W8.cell? ⟨B, 1, none⟩ = some (.int .i64 0) := by simp [World.cell?, hfb, Fr.cells, Fr.none]
        have y2 : W8.cell? ⟨B, 2, none⟩ = some (.int .i64 0) := by simp [World.cell?, hfb, Fr.cells, Fr.none]
        clear hfb hok' hg hff'
        go_wp2_with fail
        go_ret3
        exact ⟨X + 1, _, rfl, hA8'.out.log, hA8'.out.own, hA8'.out.kept, by have := hbw.out; omega, fun e => (hA8'.out.apart _ e).1 rfl⟩
      | some f =>
        rw [hg] at hoks hffs
        simp only [Option.isSome_some] at hoks
        simp only [Option.getD_some] at hffs
        subst hoks hffs
        obtain ⟨fe, fp, fk, fd⟩ := f
        have hfc : Fr.cells ⟨fe, fp, fk, fd⟩ = #[.int .i64 fe, .int .i64 fp, .int .i64 fk, .string fd] := rfl
        rw [hfc] at hfb
        have y0 : W8.cell? ⟨B, 0, none⟩ = some (.int .i64 fe) := by simp [World.cell?, hfb]
        have y1 : W8.cell? ⟨B, 1, none⟩ = some (.int .i64 fp) := by simp [World.cell?, hfb]
        have y2 : W8.cell? ⟨B, 2, none⟩ = some (.int .i64 fk) := by simp [World.cell?, hfb]
        have y3 : W8.cell? ⟨B, 3, none⟩ = some (.string fd) := by simp [World.cell?, hfb]
        have hg' := Lib.hid hg
        clear hg hfc hfb hok' hff'
        rcases ways fe fp fk oe fd pt recs opn ofin k with ⟨hbr, hw⟩ | ⟨hbr, hfp, hlt2, hw⟩
        · have hRo : (⟨recs, oe, pt, opn, ofin⟩ : Op') = R := (openRun_break (by rw [hg'.out]; exact hbr)).symm.trans hrun'.out
          subst hRo
          clear hrun' hR' hbr
          rcases hw with h1 | ⟨h1, h2⟩ | ⟨h1, h2, h3, h4⟩ | ⟨h1, h2, h3, h4⟩ | ⟨h1, h2, h3, h5, h4⟩ | ⟨h1, h2, h3, h5, h4, h6⟩
          case' inr.inr.inr.inr.inl => have e1 : (fk == 1) = false := by simpa using h3
          case' inr.inr.inr.inr.inl => have e3 : (fk == 3) = false := by simpa using h5
          case' inr.inr.inr.inr.inr => have e1 : (fk == 1) = false := by simpa using h3
          case' inr.inr.inr.inr.inr => have e3 : (fk == 3) = false := by simpa using h5
          case' inr.inr.inr.inr.inr => have h7 : (fe != oe) = true := by simpa using h6
          all_goals
            go_wp2_with fail
          all_goals
            go_ret3
            exact ⟨X + 1, _, rfl, hA8'.out.log, hA8'.out.own, hA8'.out.kept, by have := hbw.out; omega, fun e => (hA8'.out.apart _ e).1 rfl⟩
        · have hbr' := Lib.hid hbr
          have hfd : fd.size ≤ 50 := by
            obtain ⟨x, hx, e1, _⟩ := getFr_mem hg'.out
            have := hdata'.out x hx
            rw [e1] at this
            exact this
          have hnx : Hid (openRun m pl zt (k + 1) (Op'.next ⟨recs, oe, pt, opn, ofin⟩ ⟨fe, fp, fk, fd⟩ k) = R) := by
            have h1 := (openRun_next (m := m) (pl := pl) (t := zt) (i := k) (o := ⟨recs, oe, pt, opn, ofin⟩) (by rw [hg'.out]; exact hbr'.out)).symm.trans hrun'.out
            rw [hg'.out] at h1
            exact h1
          clear hrun'
          rcases hw with ⟨h3, h4⟩ | ⟨h3, h4⟩ | ⟨h3, h4, h5⟩ | ⟨h3, h6, h7, h4, h5⟩
          case' inr.inr.inr => have e1 : (fk == 1) = false := by simpa using h3
          case' inr.inr.inr => have e3 : (fk == 3) = false := by simpa using h6
          case' inr.inr.inr => have e2 : (fk == 2) = false := by simpa using h7
          all_goals
            go_wp2_with fail
          all_goals
            go_quiet (fail)
            have hA9 := Lib.hid (hA8'.out.below (below_drewN (Below.refl _ _) nq))
            have y5 : (W8.drewN nq).cell? ⟨B, 2, none⟩ = some (.int .i64 fk) := by simpa using y2
            clear y0 y1 y2 y3
            generalize W8.drewN nq = W9 at *
            obtain ⟨ao, cap, rfl⟩ := own_form hA9.out.own
            obtain ⟨i0, hi, hz0, hz1, hz2⟩ := info_parts info_str
            go_wp2_with (at_builtin; refine wpList_append_mine rfl (.tmp 118) (.tmp 120) 35 rfl w.heap.size 9 i0 _ 1 16 Try.underlying35 hi hz0 hz1 hz2 (by decide) _ recs.length _ rfl (hA9.out.own.alloc _) ⟨W9.heap.size, 0, none⟩ 1 1 [.string (pt ++ fd)] (by rfl) (by rfl) (by omega) (cells_new W9 #[.string (pt ++ fd)] _) (by simp [Value.oneCell']) (by unfold maxLen; omega) (by omega) (by have := hA9.out.kept.size; simp; omega) ?_; intro g' cap' w' hown' hgrow hnew; have hAp := Lib.hid (hA9.out.append hh.out hbw.out hown' hgrow hnew); have d4 := hAp.out.1.cell.2.2.2.2.1; have df4 := hAp.out.1.free 4; clear hown' hgrow hnew)
          all_goals
            first
              | (have hno : Op'.next ⟨recs, oe, pt, opn, ofin⟩ ⟨fe, fp, fk, fd⟩ k = ⟨recs, fe, pt ++ fd, true, ofin⟩ := (by unfold Op'.next ends; rw [if_neg (by simp; omega)])
                 have hq := hnx.out
                 rw [hno] at hq
                 exact ⟨⟨k + 1, ⟨recs, fe, pt ++ fd, true, ofin⟩, by omega, by go_num, by first | rfl | rw [h5], rfl, rfl, by show (pt ++ fd).size ≤ _; rw [ByteArray.size_append]; omega, by show recs.length ≤ k + 1; omega, by rw [show zn - (k + 1) = zt by have := hzt'.out; omega]; exact hq, ⟨hA9.out.log, hA9.out.map, hA9.out.box, hA9.out.own, hA9.out.kept, hA9.out.apart⟩⟩, by simp [intOf]; omega⟩)
              | (have hno : Op'.next ⟨recs, oe, pt, opn, ofin⟩ ⟨fe, fp, fk, fd⟩ k = ⟨recs ++ [pt ++ fd], fe, ⟨#[]⟩, false, k + 1⟩ := (by unfold Op'.next ends; rw [if_pos (by simp; omega)])
                 have hq := hnx.out
                 rw [hno] at hq
                 exact ⟨⟨k + 1, ⟨recs ++ [pt ++ fd], fe, ⟨#[]⟩, false, k + 1⟩, by omega, by go_num, by first | rfl | rw [h5], rfl, rfl, by show (0 : Nat) ≤ _; omega, by show (recs ++ [pt ++ fd]).length ≤ k + 1; simp; omega, by rw [show zn - (k + 1) = zt by have := hzt'.out; omega]; exact hq, hAp.out.2 ⟨recs ++ [pt ++ fd], fe, ⟨#[]⟩, false, k + 1⟩ rfl⟩, by simp [intOf]; omega⟩)
    · obtain rfl : k = zn := by omega
      rw [Nat.sub_self] at hrun
      have hRo : o = R := hrun
      subst hRo
      have hA8' := Lib.hid hA
      clear hrun hR' hA
      go_wp2_with fail
      go_ret3
      exact ⟨X + 1, _, rfl, hA8'.out.log, hA8'.out.own, hA8'.out.kept, by have := hbw.out; omega, fun e => (hA8'.out.apart _ e).1 rfl⟩
end Go.Proofs.Ytlhnhhjpjkgogaa.wl
