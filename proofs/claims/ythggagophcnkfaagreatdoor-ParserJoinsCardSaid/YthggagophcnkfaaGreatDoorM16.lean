/- The walks of syntax.Equal and of slices.EqualFunc, where the trees are equal. Nodes that are read are appended onto a row; the walk of slices.Clone of nodes. Two programs joined: the row of the declarations of both, in its box. No function of the program is walked here. -/
import Derived.Test.YthggagophcnkfaaGreatDoorM15
import Derived.Test.YthggagophcnkfaaGreatDoorNstW
import Derived.Test.YthggagophcnkfaaGreatDoorRowApp
import Derived.Test.YthggagophcnkfaaGreatDoorM1
namespace Go.Proofs.YthggagophcnkfaaGreatDoor.px
open Go.RowKit Go.Proofs.YthggagophcnkfaaGreatDoor.agg Go.Proofs.YthggagophcnkfaaGreatDoor.sx Go.Proofs.YthggagophcnkfaaGreatDoor.lx Go.Proofs.YthggagophcnkfaaGreatDoor.so
set_option linter.unusedSimpArgs false
set_option linter.unusedVariables false

theorem trEr_kids {t u : Tr} (h : trEr t = trEr u) : t.kind = u.kind ∧ t.text = u.text ∧ trErs t.kids = trErs u.kids := by
  cases t
  cases u
  simp only [trEr, Tr.mk.injEq] at h
  exact ⟨h.1, h.2.1, h.2.2.2.2⟩
theorem trErs_len {l m : List Tr} (h : trErs l = trErs m) : l.length = m.length := by
  have := congrArg List.length h
  rw [trErs_map, trErs_map, List.length_map, List.length_map] at this
  exact this
theorem trErs_get {l m : List Tr} (h : trErs l = trErs m) (i : Nat) (hl : i < l.length) (hm : i < m.length) : trEr l[i] = trEr m[i] := by
  rw [trErs_map, trErs_map] at h
  have h2 : (l.map trEr)[i]? = (m.map trEr)[i]? := by rw [h]
  rw [List.getElem?_map, List.getElem?_map, List.getElem?_eq_getElem hl, List.getElem?_eq_getElem hm] at h2
  simpa using h2
/-- syntax.Equal, for the trees below a size. -/
def EqOk (n : Nat) : Prop := ∀ (W : World) (t u : Tr) (ao bo : Option Addr) (cap cap2 : Nat), t.count ≤ n → trEr t = trEr u → TreesIn W (.slice ao t.kids.length cap) t.kids → TreesIn W (.slice bo u.kids.length cap2) u.kids → Calls Tryz.prog 19 #[tagg t (.slice ao t.kids.length cap), tagg u (.slice bo u.kids.length cap2)] W fun e w' => e = .returned (.bool true) ∧ Below W.heap.size W w'
set_option maxRecDepth 100000 in
set_option maxHeartbeats 4000000 in
theorem eqfunc_step {n : Nat} (ih : EqOk n) (w : World) (ks us : List Tr) (ao bo : Option Addr) (cap cap2 : Nat) (hc : ∀ x ∈ ks, x.count ≤ n) (he : trErs ks = trErs us) (hT : TreesIn w (.slice ao ks.length cap) ks) (hU : TreesIn w (.slice bo us.length cap2) us) :
    Calls Tryz.prog 47 #[.slice ao ks.length cap, .slice bo us.length cap2, .func (.func 19) #[] #[]] w fun e w' => e = .returned (.bool true) ∧ Below w.heap.size w w' := by
  have hk := Lib.hid hc
  have hT' := Lib.hid hT
  have hU' := Lib.hid hU
  have ih' := Lib.hid ih
  have he' := Lib.hid (fun i hl hm => trErs_get he i hl hm)
  have hl := trErs_len he
  have hlen : ks.length ≤ 140737488355328 := by
    obtain ⟨_, _, _, h, _⟩ := hT.at_
    exact h
  clear hT hU ih hc he
  obtain ⟨m, hm⟩ : ∃ m, us.length = m := ⟨_, rfl⟩
  have hm' := Lib.hid hm
  rw [hm] at hl ⊢
  rw [hm] at hU'
  clear hm
  obtain rfl : m = ks.length := hl.symm
  clear hl
  go_enter Tryz.func47, Tryz.ntmps47
  go_wp2_with fail
  have hb0 : Hid (Below w.heap.size w w) := Lib.hid (Below.refl _ _)
  go_loopw [17] (fun i wr => ∃ j : Nat, j ≤ ks.length ∧ i = .int .i64 j ∧ Hid (Below w.heap.size w wr)) (fun i _ => ks.length - (intOf i).toNat)
  case atStart => exact ⟨0, Nat.zero_le _, rfl, hb0⟩
  case round =>
    clear hb0
    obtain ⟨j, hj, rfl, hb⟩ := hrel
    by_cases hlt : j < ks.length
    · have hlt2 : j < us.length := by rw [hm'.out]; exact hlt
      obtain ⟨ao3, cp3, e0, _, hc⟩ := (hT'.out.below hb.out).at_
      obtain ⟨rfl, rfl⟩ : ao = ao3 ∧ cap = cp3 := by simpa using e0
      obtain ⟨b, o, kv, rfl, hbl, r1, T1⟩ := hc j hlt
      obtain ⟨ak, ck, rfl, _, _⟩ := T1.at_
      obtain ⟨bo3, cp4, e1, _, hc2⟩ := (((show TreesIn w (.slice bo us.length cap2) us by rw [hm'.out]; exact hU'.out)).below hb.out).at_
      obtain ⟨rfl, rfl⟩ : bo = bo3 ∧ cap2 = cp4 := by simpa using e1
      obtain ⟨b2, o2, kv2, rfl, hbl2, r2, T2⟩ := hc2 j hlt2
      obtain ⟨au, cu, rfl, _, _⟩ := T2.at_
      have hmem := hk.out _ (List.getElem_mem hlt)
      have hee := he'.out j hlt hlt2
      have T1' := Lib.hid T1
      have T2' := Lib.hid T2
      have q0 : wr.cell? ⟨b, o + j * 5, none⟩ = some (.int .i64 ks[j].kind) := range_cell r1 0 rfl
      have q1 : wr.cell? ⟨b, o + j * 5 + 1, none⟩ = some (.string ks[j].text) := range_cell r1 1 rfl
      have q2 : wr.cell? ⟨b, o + j * 5 + 2, none⟩ = some (.int .i64 ks[j].fr) := range_cell r1 2 rfl
      have q3 : wr.cell? ⟨b, o + j * 5 + 3, none⟩ = some (.int .i64 ks[j].to) := range_cell r1 3 rfl
      have q4 : wr.cell? ⟨b, o + j * 5 + 4, none⟩ = some (.slice ak ks[j].kids.length ck) := range_cell r1 4 rfl
      have p0 : wr.cell? ⟨b2, o2 + j * 5, none⟩ = some (.int .i64 us[j].kind) := range_cell r2 0 rfl
      have p1 : wr.cell? ⟨b2, o2 + j * 5 + 1, none⟩ = some (.string us[j].text) := range_cell r2 1 rfl
      have p2 : wr.cell? ⟨b2, o2 + j * 5 + 2, none⟩ = some (.int .i64 us[j].fr) := range_cell r2 2 rfl
      have p3 : wr.cell? ⟨b2, o2 + j * 5 + 3, none⟩ = some (.int .i64 us[j].to) := range_cell r2 3 rfl
      have p4 : wr.cell? ⟨b2, o2 + j * 5 + 4, none⟩ = some (.slice au us[j].kids.length cu) := range_cell r2 4 rfl
      have hC := Lib.hid (fun (W : World) (h : TreesIn W (.slice ak ks[j].kids.length ck) ks[j].kids) (h2 : TreesIn W (.slice au us[j].kids.length cu) us[j].kids) => ih'.out W ks[j] us[j] ak au ck cu hmem hee h h2)
      unfold tagg at hC
      clear e0 e1 hc hc2 r1 r2 T1 T2 hmem hee
      generalize ks[j] = k at *
      generalize k.kids = kk at *
      generalize k.fr = kf at *
      generalize k.to = kt at *
      generalize k.kind = kkd at *
      generalize k.text = ktx at *
      generalize us[j] = v at *
      generalize v.kids = vk at *
      generalize v.fr = vf at *
      generalize v.to = vt at *
      generalize v.kind = vkd at *
      generalize v.text = vtx at *
      have z0 := fun (o : Obj) => (Below.heap_alloc wr o b2 hbl2)
      have c2 : ∀ (o : Obj) i, (wr.alloc o).cell? ⟨b2, i, none⟩ = wr.cell? ⟨b2, i, none⟩ := fun o i => ((Below.refl _ wr).alloc (Nat.le_refl _) o).cell (p := ⟨b2, i, none⟩) hbl2
      have hbA := Lib.hid (fun (o o2 : Obj) => (hb.out.alloc hb.out.size o).alloc (hb.out.alloc hb.out.size o).size o2)
      have hTA := Lib.hid (fun (o o2 : Obj) => T1'.out.below (((Below.refl _ wr).alloc (Nat.le_refl _) o).alloc ((Below.refl _ wr).alloc (Nat.le_refl _) o).size o2))
      have hUA := Lib.hid (fun (o o2 : Obj) => T2'.out.below (((Below.refl _ wr).alloc (Nat.le_refl _) o).alloc ((Below.refl _ wr).alloc (Nat.le_refl _) o).size o2))
      clear hb T1' T2' z0
      go_wp2_with (go_at_call 19; refine (hC.out _ (hTA.out _ _) (hUA.out _ _)).mono ?_; rintro e w4 ⟨rfl, b4⟩; have b4' := Lib.hid b4; clear b4)
      go_roundw
      case rel => exact ⟨j + 1, by omega, by go_num, Lib.hid (bel_then (hbA.out _ _) (hbA.out _ _).size b4'.out)⟩
      case measure => simp [intOf]; omega
    · obtain rfl : j = ks.length := by omega
      go_wp2_with fail
      go_ret
      exact ⟨rfl, hb.out⟩
set_option maxRecDepth 100000 in
set_option maxHeartbeats 4000000 in
theorem equal_step {n : Nat} (ih : EqOk n) : EqOk (n + 1) := by
  intro w t u ao bo cap cap2 hc he hT hU
  obtain ⟨e1, e2, e3⟩ := trEr_kids he
  have hk : ∀ x ∈ t.kids, x.count ≤ n := fun x hx => by have := Tr.count_kid hx; omega
  have hC := Lib.hid (fun (W : World) (hb : Below w.heap.size w W) => eqfunc_step ih W t.kids u.kids ao bo cap cap2 hk e3 (hT.below hb) (hU.below hb))
  clear ih hk hc he hT hU e3
  unfold tagg
  rw [← e1, ← e2]
  clear e1 e2
  generalize t.kids.length = tl at *
  generalize u.kids.length = ul at *
  generalize t.fr = tf at *
  generalize t.to = te at *
  generalize t.kind = tk at *
  generalize t.text = tt at *
  generalize u.fr = uf at *
  generalize u.to = ue at *
  have hbA := Lib.hid (fun (o o2 : Obj) => ((Below.refl _ w).alloc (Nat.le_refl _) o).alloc ((Below.refl _ w).alloc (Nat.le_refl _) o).size o2)
  go_enter Tryz.func19, Tryz.ntmps19
  go_wp2_with (go_at_call 47; refine (hC.out _ (hbA.out _ _)).mono ?_; rintro e w4 ⟨rfl, b4⟩; have b4' := Lib.hid b4; clear b4)
  go_ret
  exact ⟨rfl, bel_then (hbA.out _ _) (hbA.out _ _).size b4'.out⟩
theorem eq_ok : ∀ n, EqOk n := by
  intro n
  induction n with
  | zero =>
    intro W t u ao bo cap cap2 hc
    have := Tr.count_pos t
    omega
  | succ n ih => exact equal_step ih
theorem equal_walk (W : World) (t u : Tr) (ao bo : Option Addr) (cap cap2 : Nat) (he : trEr t = trEr u) (h : TreesIn W (.slice ao t.kids.length cap) t.kids) (h2 : TreesIn W (.slice bo u.kids.length cap2) u.kids) : Calls Tryz.prog 19 #[tagg t (.slice ao t.kids.length cap), tagg u (.slice bo u.kids.length cap2)] W fun e w' => e = .returned (.bool true) ∧ Below W.heap.size W w' :=
  eq_ok t.count W t u ao bo cap cap2 (Nat.le_refl _) he h h2
end Go.Proofs.YthggagophcnkfaaGreatDoor.px
namespace Go.Proofs.YthggagophcnkfaaGreatDoor.agg
open Go.RowKit
set_option linter.unusedSimpArgs false
set_option linter.unusedVariables false

/-- The slice src has m elements; its cells are read. -/
def ReadsAt (w : World) (src : Value) (m : Nat) (news : List Value) : Prop :=
  ∃ so sc, src = .slice so m sc ∧ (0 < m → ∃ b o, so = some ⟨b, o, none⟩ ∧ b < w.heap.size ∧ ∀ j u, news[j]? = some u → w.cell? ((⟨b, o, none⟩ : Addr).add j) = some u)
theorem ReadsAt.below {w w' : World} {src : Value} {m : Nat} {news : List Value} (h : ReadsAt w src m news) (hb : Below w.heap.size w w') : ReadsAt w' src m news := by
  obtain ⟨so, sc, rfl, hc⟩ := h
  refine ⟨so, sc, rfl, fun hm => ?_⟩
  obtain ⟨b, o, rfl, hlt, hcj⟩ := hc hm
  exact ⟨b, o, rfl, Nat.lt_of_lt_of_le hlt hb.size, fun j u hu => by
    have h2 := hcj j u hu
    rw [Addr.add_lit] at h2 ⊢
    exact (hb.cell (p := ⟨b, o + j, none⟩) hlt).trans h2⟩
/-- The block of what comes back is the old one's, or new. -/
def Own2 (w w' : World) (v v' : Value) : Prop := ∀ k, v'.ownBlock = some k → v.ownBlock = some k ∨ (w.heap.size ≤ k ∧ k < w'.heap.size)
theorem own2_row {w w' : World} {v : Value} {B : Nat} {e : TypeId} {size g cap n : Nat} {xs : List Value} (ho : w'.ownsRow B e size (.slice (some ⟨g, 0, none⟩) n cap) n xs) (h : v.ownBlock = some g ∨ g = w.heap.size) : Own2 w w' v (.slice (some ⟨g, 0, none⟩) n cap) := by
  intro k hk
  have h2 := (ho.lt k hk).2
  obtain rfl : g = k := by injection hk
  rcases h with h | h
  · exact .inl h
  · exact .inr ⟨by omega, h2⟩
theorem own2_new (w : World) (v : Value) (o : Obj) (n : Nat) {c : Nat} : Own2 w (w.drew.alloc o) v (.slice (some ⟨w.heap.size, 0, none⟩) n c) := by
  intro k hk
  obtain rfl : w.heap.size = k := by injection hk
  exact .inr ⟨Nat.le_refl _, by simp⟩
section
variable {P : Program} {w : World} {a : Act} {K : Act → World → Prop} {Q : Exit → Act → World → Prop} {ops : Array Oper}
theorem append_reads {B : Nat} {t ty e : TypeId} {i : TypeInfo} {z : Value} {size bytes : Nat} (ht : P.underlying t = some (.slice e)) (hi : P.info? e = some i) (hz : i.zero = some z)
    (hsize : i.size = size) (hby : i.bytes = bytes) (hzs : z.cells.size = size)
    {v : Value} {n : Nat} {xs : List Value} (hown : RowB B w e size v n xs) {src : Value} {m : Nat} {news : List Value} (hsrc : ReadsAt w src m news) (hl : news.length = m * size) (h1 : ∀ u ∈ news, u.oneCell' = true)
    (h63 : n + m ≤ maxLen) (hbytes : (n + m) * bytes ≤ 140737488355328) (hbase : B ≤ w.heap.size) :
    ∃ ao c w', (Builtin.append_ #[t, t] ty #[v, src]).run P w = .ok (.slice ao (n + m) c) w' ∧ RowB B w' e size (.slice ao (n + m) c) (n + m) (xs ++ news) ∧ Below B w w' ∧ sx.Kept (fun k => v.ownBlock = some k) w w' ∧ Own2 w w' v (.slice ao (n + m) c) := by
  obtain ⟨so, sc, rfl, hcs⟩ := hsrc
  by_cases hm : m = 0
  · subst hm
    have hn0 : news = [] := List.eq_nil_of_length_eq_zero (by simpa using hl)
    subst hn0
    have hv : ∃ ao c, v = .slice ao n c ∧ n ≤ c := by
      rcases hown with ⟨rfl, _, rfl | ⟨k, rfl⟩⟩ | h
      · exact ⟨_, _, rfl, Nat.le_refl _⟩
      · exact ⟨_, _, rfl, Nat.le_refl _⟩
      · exact own_shape h
    obtain ⟨ao, c, rfl, hc⟩ := hv
    have hs : Src P i.size t (.slice so 0 sc) 0 [] w :=
      { kind := .inl ⟨e, ht⟩, len := fun w' => by simp [Builtin.lenOf], cells := by cases so with | none => exact run_firstCells_none _ _ _ _ _ | some b => exact run_firstCells_some _ _ _ b _ _ [] (by simp) (by simp), cellsD := by cases so with | none => exact run_firstCells_none _ _ _ _ _ | some b => exact run_firstCells_some _ _ _ b _ _ [] (by simp) (by simp), newsLen := by simp, one := by simp }
    refine ⟨ao, c, w, run_append_nothing w t t ty e i ht hi ao n c hc _ hs, ?_, Below.refl _ _, sx.Kept.refl _ _, fun k hk => .inl hk⟩
    rw [List.append_nil]
    exact hown
  · obtain ⟨b, o, rfl, hlt, hc⟩ := hcs (by omega)
    rcases hown with ⟨rfl, rfl, hv⟩ | hown
    · rcases hv with rfl | ⟨k, rfl⟩
      · obtain ⟨g', c', w', hr, ho, hg, h9⟩ := append_own (P := P) (ty := ty) (c := sc) ht hi hz hsize hby hzs (World.ownsRow_nil w B e size) hl (by omega) hc h1 h63 hbytes hbase
        exact ⟨_, c', w', hr, .inr ho, below_ofGrown hg hbase (fun k hk => by cases hk), sx.Kept.grown hg (fun k hk => hk), own2_row ho h9⟩
      · subst hsize
        subst hby
        have hr := run_append_grow (P := P) (w := w) t ty e i z ht hi hz ⟨k, 0, none⟩ 0 0 [] (by simp) (by simp) ⟨b, o, none⟩ m sc news hl hc (by omega) (by simp only [maxLen] at h63; omega) (growslice_fits (by omega) (by omega))
        refine ⟨_, _, _, hr, .inr ⟨by rw [List.nil_append, Nat.zero_add]; exact hl, .inr ⟨w.heap.size, _, _, rfl, hbase, heap_alloc_new w.drew _, grownCap_ge w _ _ _, grownCap_le_maxLen w _ _ _ h63, ?_, ?_⟩⟩, ?_, .of_below ((Below.refl _ w).drew.alloc (Nat.le_refl _) _), own2_new _ _ _ _⟩
        · simp only [Array.size_append, List.size_toArray, size_zeroCells, hzs, hl, List.length_nil, Nat.zero_add]
          rw [← Nat.add_mul]
          congr 1
          have := grownCap_ge w (0 + m) 0 e
          simp only [Nat.zero_add] at this
          omega
        · simp only [Array.toList_append, List.append_assoc, Nat.zero_add, List.nil_append]
          rw [← hl]
          exact List.take_left
        · exact (Below.refl _ w).drew.alloc hbase _
    · obtain ⟨g', c', w', hr, ho, hg, h9⟩ := append_own (P := P) (ty := ty) (c := sc) ht hi hz hsize hby hzs hown hl (by omega) hc h1 h63 hbytes hbase
      refine ⟨_, c', w', hr, .inr ho, below_ofGrown hg hbase (fun k hk => (hown.lt k hk).1), sx.Kept.grown hg (fun k hk => hk), own2_row ho h9⟩
theorem wp_append_reads {o : Oper} (s x : Operand) (t : TypeId) (ho : o.op = .call { callee := .builtin .append, args := #[s, x], argTypes := #[t, t] })
    (B : Nat) (e : TypeId) (i : TypeInfo) (z : Value) (size bytes : Nat) (ht : P.underlying t = some (.slice e)) (hi : P.info? e = some i) (hz : i.zero = some z) (hsize : i.size = size) (hby : i.bytes = bytes) (hzs : z.cells.size = size)
    (v : Value) (n : Nat) (xs : List Value) (hs : a.eval s = v) (hown : RowB B w e size v n xs) (src : Value) (m : Nat) (news : List Value) (hx : a.eval x = src) (hsrc : ReadsAt w src m news) (hl : news.length = m * size) (h1 : ∀ u ∈ news, u.oneCell' = true)
    (h63 : n + m ≤ maxLen) (hbytes : (n + m) * bytes ≤ 140737488355328) (hbase : B ≤ w.heap.size)
    (h : ∀ ao c w', RowB B w' e size (.slice ao (n + m) c) (n + m) (xs ++ news) → Below B w w' → sx.Kept (fun k => v.ownBlock = some k) w w' → Own2 w w' v (.slice ao (n + m) c) → K (a.put o.dst (.slice ao (n + m) c)) w') :
    o.wp P a w K Q := by
  obtain ⟨ao, c, w', hr, h2, h3, h4, h5⟩ := append_reads (P := P) (ty := o.type) ht hi hz hsize hby hzs hown hsrc hl h1 h63 hbytes hbase
  unfold Oper.wp execOp
  simp only [ho, resolve, invoke, builtin, Sem.run_bind, Sem.run_pure, Result.andThen_ok, List.map_toArray, List.map_cons, List.map_nil, hs, hx, hr]
  exact h ao c w' h2 h3 h4 h5
theorem step_append_reads {o : Oper} {E' : Prop} (hg : o.guard = none) (s x : Operand) (t : TypeId) (ho : o.op = .call { callee := .builtin .append, args := #[s, x], argTypes := #[t, t] })
    (B : Nat) (e : TypeId) (i : TypeInfo) (z : Value) (size bytes : Nat) (ht : P.underlying t = some (.slice e)) (hi : P.info? e = some i) (hz : i.zero = some z) (hsize : i.size = size) (hby : i.bytes = bytes) (hzs : z.cells.size = size)
    (v : Value) (n : Nat) (xs : List Value) (hs : a.eval s = v) (hown : RowB B w e size v n xs) (src : Value) (m : Nat) (news : List Value) (hx : a.eval x = src) (hsrc : ReadsAt w src m news) (hl : news.length = m * size) (h1 : ∀ u ∈ news, u.oneCell' = true)
    (h63 : n + m ≤ maxLen) (hbytes : (n + m) * bytes ≤ 140737488355328) (hbase : B ≤ w.heap.size)
    (h : ∀ ao c w', RowB B w' e size (.slice ao (n + m) c) (n + m) (xs ++ news) → Below B w w' → sx.Kept (fun k => v.ownBlock = some k) w w' → Own2 w w' v (.slice ao (n + m) c) → K (a.put o.dst (.slice ao (n + m) c)) w') :
    if Region.wanted o (yielded ops a.tmps) = true then Oper.wp P o a w K Q else E' := by
  have hw : Region.wanted o (yielded ops a.tmps) = true := by simp [Region.wanted, hg]
  rw [if_pos hw]
  exact wp_append_reads s x t ho B e i z size bytes ht hi hz hsize hby hzs v n xs hs hown src m news hx hsrc hl h1 h63 hbytes hbase h
theorem wpList_append_reads {o : Oper} {rest : List Oper} (hg : o.guard = none) (s x : Operand) (t : TypeId) (ho : o.op = .call { callee := .builtin .append, args := #[s, x], argTypes := #[t, t] })
    (B : Nat) (e : TypeId) (i : TypeInfo) (z : Value) (size bytes : Nat) (ht : P.underlying t = some (.slice e)) (hi : P.info? e = some i) (hz : i.zero = some z) (hsize : i.size = size) (hby : i.bytes = bytes) (hzs : z.cells.size = size)
    (v : Value) (n : Nat) (xs : List Value) (hs : a.eval s = v) (hown : RowB B w e size v n xs) (src : Value) (m : Nat) (news : List Value) (hx : a.eval x = src) (hsrc : ReadsAt w src m news) (hl : news.length = m * size) (h1 : ∀ u ∈ news, u.oneCell' = true)
    (h63 : n + m ≤ maxLen) (hbytes : (n + m) * bytes ≤ 140737488355328) (hbase : B ≤ w.heap.size)
    (h : ∀ ao c w', RowB B w' e size (.slice ao (n + m) c) (n + m) (xs ++ news) → Below B w w' → sx.Kept (fun k => v.ownBlock = some k) w w' → Own2 w w' v (.slice ao (n + m) c) → wpList P ops Q rest (a.put o.dst (.slice ao (n + m) c)) w') :
    wpList P ops Q (o :: rest) a w :=
  wpList_plain hg fun _ hK => wp_append_reads s x t ho B e i z size bytes ht hi hz hsize hby hzs v n xs hs hown src m news hx hsrc hl h1 h63 hbytes hbase fun ao c w' h2 h3 h4 h5 => hK _ _ (h ao c w' h2 h3 h4 h5)
end
end Go.Proofs.YthggagophcnkfaaGreatDoor.agg
namespace Go.Proofs.YthggagophcnkfaaGreatDoor.px
open Go.RowKit Go.Proofs.YthggagophcnkfaaGreatDoor.agg Go.Proofs.YthggagophcnkfaaGreatDoor.sx Go.Proofs.YthggagophcnkfaaGreatDoor.lx Go.Proofs.YthggagophcnkfaaGreatDoor.so
/-- The cells of nodes. -/
def ndV (ks : List Nd) : List Value := ks.flatMap fun n => n.cells.toList
theorem ndV_len (ks : List Nd) : (ndV ks).length = ks.length * 5 := by
  induction ks with
  | nil => rfl
  | cons x l ih =>
    have : ndV (x :: l) = x.cells.toList ++ ndV l := rfl
    rw [this, List.length_append, ih, List.length_cons]
    show 5 + _ = _
    omega
theorem ndV_app (a b : List Nd) : ndV (a ++ b) = ndV a ++ ndV b := List.flatMap_append
theorem ndV_get : ∀ (ks : List Nd) (j : Nat) (u : Value), (ndV ks)[j]? = some u → ∃ i, ∃ h : i < ks.length, ∃ k, j = i * 5 + k ∧ (ks[i].cells).toList[k]? = some u
  | [], j, u, h => by simp [ndV] at h
  | x :: l, j, u, h => by
    have e : ndV (x :: l) = x.cells.toList ++ ndV l := rfl
    have hx : x.cells.toList.length = 5 := rfl
    rw [e] at h
    by_cases hj : j < 5
    · rw [List.getElem?_append_left (by omega)] at h
      exact ⟨0, by simp, j, by omega, h⟩
    · rw [List.getElem?_append_right (by omega)] at h
      obtain ⟨i, hi, k, e1, h2⟩ := ndV_get l _ u h
      exact ⟨i + 1, by simpa using hi, k, by rw [hx] at e1; omega, by simpa using h2⟩
theorem ndV_at : ∀ (ks : List Nd) (i : Nat) (h : i < ks.length) (k : Nat) (u : Value), (ks[i].cells).toList[k]? = some u → (ndV ks)[i * 5 + k]? = some u
  | [], i, h, k, u, hu => by simp at h
  | x :: l, 0, h, k, u, hu => by
    have e : ndV (x :: l) = x.cells.toList ++ ndV l := rfl
    have hx : x.cells.toList.length = 5 := rfl
    have hk : k < 5 := by
      rcases Nat.lt_or_ge k 5 with h1 | h1
      · exact h1
      · rw [List.getElem?_eq_none (show ((x :: l)[0]'h).cells.toList.length ≤ k from h1)] at hu
        cases hu
    rw [e, List.getElem?_append_left (by omega)]
    simpa using hu
  | x :: l, i + 1, h, k, u, hu => by
    have e : ndV (x :: l) = x.cells.toList ++ ndV l := rfl
    have hx : x.cells.toList.length = 5 := rfl
    rw [e, List.getElem?_append_right (by omega), hx, show (i + 1) * 5 + k - 5 = i * 5 + k by omega]
    exact ndV_at l i (by simpa using h) k u (by simpa using hu)
theorem kids_reads {G : Nat → Prop} {w : World} {kv : Value} {ks : List Nd} (h : KidsAt G w kv ks) : ReadsAt w kv ks.length (ndV ks) := by
  obtain ⟨ao, cap, rfl, _, hc⟩ := h
  refine ⟨ao, cap, rfl, fun hm => ?_⟩
  obtain ⟨b, o, rfl, _, hlt, hcj⟩ := hc hm
  refine ⟨b, o, rfl, hlt, fun j u hu => ?_⟩
  obtain ⟨i, hi, k, rfl, h2⟩ := ndV_get ks j u hu
  have := hcj i hi k u h2
  rwa [Addr.add_lit, ← Nat.add_assoc]
theorem ndV_one {G : Nat → Prop} {w : World} {ks : List Nd} (h : ∀ n ∈ ks, NodeIn G w n) : ∀ u ∈ ndV ks, u.oneCell' = true := by
  intro u hu
  obtain ⟨n, hn, hu⟩ := List.mem_flatMap.1 hu
  cases h n hn with
  | mk h1 _ =>
    obtain ⟨ao, cap, rfl, _⟩ := h1
    simp only [Nd.cells, List.mem_cons, List.not_mem_nil, or_false] at hu
    rcases hu with rfl | rfl | rfl | rfl | rfl <;> rfl
theorem eql_nodes_nil (w : World) (ao : Option Addr) (n cap : Nat) : (binOp .eql 23 (.slice ao n cap) (.slice none 0 0)).run Tryz.prog w = .ok (.bool ao.isNone) w := by
  cases ao with
  | none => simp [binOp, run_equal_slice_nil w 23 25 none n cap Tryz.underlying23]
  | some a => simp [binOp, run_equal_slice_nil w 23 25 (some a) n cap Tryz.underlying23]
set_option maxRecDepth 100000 in
set_option maxHeartbeats 400000 in
theorem cloneNode_walk (w : World) (kv : Value) (ks : List Nd) (hm : ks.length ≤ 1000000) (hs : ReadsAt w kv ks.length (ndV ks)) (h1 : ∀ u ∈ ndV ks, u.oneCell' = true) :
    Calls Tryz.prog 18 #[kv] w fun e w' => ∃ ao c, e = .returned (.slice ao ks.length c) ∧ RowB w.heap.size w' 25 5 (.slice ao ks.length c) ks.length (ndV ks) ∧ Below w.heap.size w w' ∧ (∀ k, (Value.slice ao ks.length c).ownBlock = some k → w.heap.size ≤ k ∧ k < w'.heap.size) := by
  obtain ⟨i0, hi, hz0, hz1, hz2⟩ := info_parts info_nd
  have hl := ndV_len ks
  obtain ⟨so, sc, rfl, hc⟩ := id hs
  cases so with
  | none =>
    have h0 : ks.length = 0 := by
      rcases Nat.eq_zero_or_pos ks.length with h | h
      · exact h
      · obtain ⟨b, o, e, _⟩ := hc h
        cases e
    obtain rfl := List.eq_nil_of_length_eq_zero h0
    clear hc hs hl
    have he : ∀ w, (binOp .eql 23 (.slice none 0 sc) (.slice none 0 0)).run Tryz.prog w = .ok (.bool true) w := fun w => eql_nodes_nil w none 0 sc
    simp only [List.length_nil]
    go_enter Tryz.func18, Tryz.ntmps18
    go_wp2
    go_ret
    exact ⟨none, 0, rfl, .inl ⟨rfl, rfl, .inl rfl⟩, Below.refl _ _, fun k hk => by cases hk⟩
  | some ad =>
    have hB : Below w.heap.size w (w.alloc (.cells #[] 25)) := (Below.refl _ w).alloc (Nat.le_refl _) _
    have hs' := hs.below hB
    clear hc hs
    have he : ∀ w, (binOp .eql 23 (.slice (some ad) ks.length sc) (.slice none 0 0)).run Tryz.prog w = .ok (.bool false) w := fun w => eql_nodes_nil w (some ad) ks.length sc
    go_enter Tryz.func18, Tryz.ntmps18
    go_wp2_with (at_builtin; refine wpList_append_reads rfl (.tmp 5) (.tmp 6) 23 rfl w.heap.size 25 i0 _ 5 64 Tryz.underlying23 hi hz0 hz1 hz2 (by decide) (.slice (some ⟨w.heap.size, 0, none⟩) 0 0) 0 [] rfl (.inl ⟨rfl, rfl, .inr ⟨_, rfl⟩⟩) (.slice (some ad) ks.length sc) ks.length (ndV ks) rfl hs' hl h1 (by unfold maxLen; omega) (by omega) (by simp) ?_; intro ao c w' hown hb _ hown2; rw [Nat.zero_add, List.nil_append] at hown; rw [Nat.zero_add] at hown2 ⊢)
    go_ret
    refine ⟨ao, c, rfl, hown, hB.trans hb, fun k hk => ?_⟩
    have h8 := hb.size
    simp at h8
    rcases hown2 k hk with h | h
    · obtain rfl : w.heap.size = k := by injection h
      omega
    · simp at h
      omega
end Go.Proofs.YthggagophcnkfaaGreatDoor.px
namespace Go.Proofs.YthggagophcnkfaaGreatDoor.px
open Go.RowKit Go.Proofs.YthggagophcnkfaaGreatDoor.agg Go.Proofs.YthggagophcnkfaaGreatDoor.sx Go.Proofs.YthggagophcnkfaaGreatDoor.lx Go.Proofs.YthggagophcnkfaaGreatDoor.so
set_option linter.unusedSimpArgs false
set_option linter.unusedVariables false

theorem joined_bytes (a b : ByteArray) : (a ++ ⟨#[10]⟩ ++ b).data.toList = a.data.toList ++ 10 :: b.data.toList := by
  simp
theorem joined_size (a b : ByteArray) : (a ++ ⟨#[10]⟩ ++ b).size = a.size + 1 + b.size := by
  simp [ByteArray.size_append]
  rfl
/-- The nodes that lie where a tree's kids are read. -/
theorem TreesIn.nodes {w : World} {kv : Value} {ts : List Tr} (h : TreesIn w kv ts) : ∃ ks : List Nd, ks.length = ts.length ∧ ReadsAt w kv ks.length (ndV ks) ∧ (∀ u ∈ ndV ks, u.oneCell' = true) ∧ trs ks = ts ∧ ∃ G, ∀ n ∈ ks, NodeIn G w n := by
  obtain ⟨G, ks, h1, h2, rfl⟩ := h
  exact ⟨ks, by rw [trs_map, List.length_map], kids_reads h1, ndV_one h2, rfl, G, h2⟩
/-- A row of nodes is read as trees. -/
theorem trees_row {B : Nat} {w : World} {ao : Option Addr} {c n : Nat} {ks : List Nd} (h : RowB B w 25 5 (.slice ao n c) n (ndV ks)) (hn : n = ks.length) (hm : n ≤ 140737488355328) (hk : ∀ x ∈ ks, ∃ G, NodeIn G w x) : TreesIn w (.slice ao n c) (trs ks) := by
  subst hn
  refine ⟨fun _ => True, ks, ⟨ao, c, rfl, hm, fun h0 => ?_⟩, fun x hx => by obtain ⟨G, hG⟩ := hk x hx; exact hG.mono (fun _ _ _ => trivial), rfl⟩
  have ho := h.owns h0
  rcases ho.2 with ⟨_, e⟩ | ⟨g, cap, cur, e, hg, hb, _⟩
  · omega
  · injection e with e1 _ _
    subst e1
    refine ⟨g, 0, rfl, trivial, lt_of_block hb, fun i hi j u hu => ?_⟩
    have := ho.cells (g := g) rfl (i * 5 + j) _ (ndV_at ks i hi j u hu)
    simpa [Addr.add_lit] using this
theorem RowB_base {B B2 : Nat} {w : World} {e : TypeId} {size : Nat} {v : Value} {n : Nat} {xs : List Value} (h : RowB B2 w e size v n xs) (hB : B ≤ B2) : RowB B w e size v n xs := by
  rcases h with h | h
  · exact .inl h
  · refine .inr ⟨h.1, ?_⟩
    rcases h.2 with hn | ⟨g, cap, cur, rfl, hg, r⟩
    · exact .inl hn
    · exact .inr ⟨g, cap, cur, rfl, Nat.le_trans hB hg, r⟩
theorem box5 {w : World} {N : Nat} {a b c d e : Value} (h : w.heap[N]? = some (.cells #[a, b, c, d, e] 25 (0, 0))) : (w.cell? ⟨N, 0, none⟩ = some a ∧ w.cell? ⟨N, 1, none⟩ = some b ∧ w.cell? ⟨N, 2, none⟩ = some c ∧ w.cell? ⟨N, 3, none⟩ = some d ∧ w.cell? ⟨N, 4, none⟩ = some e) ∧ w.frozen? ⟨N, 0, none⟩ = false ∧ w.frozen? ⟨N, 1, none⟩ = false ∧ w.frozen? ⟨N, 2, none⟩ = false ∧ w.frozen? ⟨N, 3, none⟩ = false ∧ w.frozen? ⟨N, 4, none⟩ = false := by
  simp [World.cell?, World.frozen?, h]
/-- The box of a program with these declarations. -/
def JEnd (W : World) (ks : List Tr) (n : Nat) (p : Value) (wx : World) : Prop :=
  ∃ (N : Nat) (aa : Option Addr) (ca : Nat), p = .pointer (some ⟨N, 0, none⟩) ∧ wx.heap[N]? = some (.cells #[.int .i64 2, .string ⟨#[]⟩, .int .i64 0, .int .i64 0, .slice aa n ca] 25 (0, 0)) ∧ TreesIn wx (.slice aa n ca) ks ∧ Below W.heap.size W wx
theorem join_trees {W F : World} {n : Nat} {aa : Option Addr} {ca : Nat} {kx ky : List Nd} (hb : Below W.heap.size W F) (hrow : RowB W.heap.size F 25 5 (.slice aa n ca) n (ndV kx ++ ndV ky)) (hn : n = kx.length + ky.length) (hm : n ≤ 140737488355328) {Gx Gy : Nat → Prop} (gx : ∀ x ∈ kx, NodeIn Gx W x) (gy : ∀ x ∈ ky, NodeIn Gy W x) : TreesIn F (.slice aa n ca) (trs kx ++ trs ky) := by
  rw [← ndV_app] at hrow
  have h := trees_row hrow (by rw [List.length_append]; exact hn) hm (fun x hx => by
    rcases List.mem_append.1 hx with hx | hx
    · exact ⟨Gx, (gx x hx).later hb⟩
    · exact ⟨Gy, (gy x hx).later hb⟩)
  rw [trs_map, List.map_append, ← trs_map, ← trs_map] at h
  exact h
theorem jend_alloc {W v2 : World} {n : Nat} {aa : Option Addr} {ca : Nat} {kx ky : List Nd} {ks : List Tr} (hb : Below W.heap.size W v2) (hrow : RowB W.heap.size v2 25 5 (.slice aa n ca) n (ndV kx ++ ndV ky)) (hn : n = kx.length + ky.length) (hm : n ≤ 140737488355328) {Gx Gy : Nat → Prop} (gx : ∀ x ∈ kx, NodeIn Gx W x) (gy : ∀ x ∈ ky, NodeIn Gy W x) (hks : trs kx ++ trs ky = ks) :
    JEnd W ks n (.pointer (some ⟨v2.heap.size, 0, none⟩)) (v2.alloc (.cells #[.int .i64 2, .string ⟨#[]⟩, .int .i64 0, .int .i64 0, .slice aa n ca] 25)) := by
  subst hks
  have hF := hb.alloc hb.size (.cells #[.int .i64 2, .string ⟨#[]⟩, .int .i64 0, .int .i64 0, .slice aa n ca] 25)
  exact ⟨_, aa, ca, rfl, block_new _ _ _, join_trees hF (hrow.below ((Below.refl _ _).alloc (Nat.le_refl _) _)) hn hm gx gy, hF⟩
theorem jend_set {W v2 : World} {N : Nat} {a b c d e : Value} {n : Nat} {aa : Option Addr} {ca : Nat} {kx ky : List Nd} {ks : List Tr} (hbox : v2.heap[N]? = some (.cells #[a, b, c, d, e] 25 (0, 0))) (hN : W.heap.size ≤ N) (hne : ∀ k, (Value.slice aa n ca).ownBlock = some k → k ≠ N)
    (hb : Below W.heap.size W v2) (hrow : RowB W.heap.size v2 25 5 (.slice aa n ca) n (ndV kx ++ ndV ky)) (hn : n = kx.length + ky.length) (hm : n ≤ 140737488355328) {Gx Gy : Nat → Prop} (gx : ∀ x ∈ kx, NodeIn Gx W x) (gy : ∀ x ∈ ky, NodeIn Gy W x) (hks : trs kx ++ trs ky = ks) :
    JEnd W ks n (.pointer (some ⟨N, 0, none⟩)) (((((v2.setCell ⟨N, 0, none⟩ (.int .i64 2)).setCell ⟨N, 1, none⟩ (.string ⟨#[]⟩)).setCell ⟨N, 2, none⟩ (.int .i64 0)).setCell ⟨N, 3, none⟩ (.int .i64 0)).setCell ⟨N, 4, none⟩ (.slice aa n ca)) := by
  subst hks
  have hF : Below W.heap.size W (((((v2.setCell ⟨N, 0, none⟩ (.int .i64 2)).setCell ⟨N, 1, none⟩ (.string ⟨#[]⟩)).setCell ⟨N, 2, none⟩ (.int .i64 0)).setCell ⟨N, 3, none⟩ (.int .i64 0)).setCell ⟨N, 4, none⟩ (.slice aa n ca)) :=
    ((((hb.setCell (p := ⟨N, 0, none⟩) hN _).setCell (p := ⟨N, 1, none⟩) hN _).setCell (p := ⟨N, 2, none⟩) hN _).setCell (p := ⟨N, 3, none⟩) hN _).setCell (p := ⟨N, 4, none⟩) hN _
  have ho : ∀ k, k ≠ N → (((((v2.setCell ⟨N, 0, none⟩ (.int .i64 2)).setCell ⟨N, 1, none⟩ (.string ⟨#[]⟩)).setCell ⟨N, 2, none⟩ (.int .i64 0)).setCell ⟨N, 3, none⟩ (.int .i64 0)).setCell ⟨N, 4, none⟩ (.slice aa n ca)).heap[k]? = v2.heap[k]? := fun k hk => by
    rw [heap_setCell_other _ _ _ _ hk, heap_setCell_other _ _ _ _ hk, heap_setCell_other _ _ _ _ hk, heap_setCell_other _ _ _ _ hk, heap_setCell_other _ _ _ _ hk]
  have hr : RowB W.heap.size (((((v2.setCell ⟨N, 0, none⟩ (.int .i64 2)).setCell ⟨N, 1, none⟩ (.string ⟨#[]⟩)).setCell ⟨N, 2, none⟩ (.int .i64 0)).setCell ⟨N, 3, none⟩ (.int .i64 0)).setCell ⟨N, 4, none⟩ (.slice aa n ca)) 25 5 (.slice aa n ca) n (ndV kx ++ ndV ky) := by
    rcases hrow with h | h
    · exact .inl h
    · exact .inr (ownsRow_same h fun k hk => ho k (hne k hk))
  refine ⟨N, aa, ca, rfl, ?_, join_trees hF hr hn hm gx gy, hF⟩
  rw [heap_setCell_same _ _ _ _ _ _ (heap_setCell_same _ _ _ _ _ _ (heap_setCell_same _ _ _ _ _ _ (heap_setCell_same _ _ _ _ _ _ (heap_setCell_same _ _ _ _ _ _ hbox))))]
  exact rfl
theorem join_er {t : Tr} {ks : List Tr} (hk : t.kind = 2) (hx : t.text = ⟨#[]⟩) (he : trErs t.kids = trErs ks) : trEr t = trEr (.mk 2 ⟨#[]⟩ 0 0 ks) := by
  cases t with
  | mk k x f e l =>
    have h1 : k = 2 := hk
    have h2 : x = ⟨#[]⟩ := hx
    have h3 : trErs l = trErs ks := he
    rw [trEr, trEr, h1, h2, h3]
theorem join_equal {W : World} {t : Tr} {ks : List Tr} {n : Nat} {az aa : Option Addr} {cz ca : Nat} (hk : t.kind = 2) (hx : t.text = ⟨#[]⟩) (he : trErs t.kids = trErs ks) (h : TreesIn W (.slice az t.kids.length cz) t.kids) (h2 : TreesIn W (.slice aa n ca) ks) (hn : n = ks.length) :
    Calls Tryz.prog 19 #[.agg #[.int .i64 t.kind, .string t.text, .int .i64 t.fr, .int .i64 t.to, .slice az t.kids.length cz], .agg #[.int .i64 2, .string ⟨#[]⟩, .int .i64 0, .int .i64 0, .slice aa n ca]] W fun e w' => e = .returned (.bool true) ∧ Below W.heap.size W w' := by
  subst hn
  exact equal_walk W t (.mk 2 ⟨#[]⟩ 0 0 ks) az aa cz ca (join_er hk hx he) h h2
end Go.Proofs.YthggagophcnkfaaGreatDoor.px
