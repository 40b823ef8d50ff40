/- The walk of ParserReports. -/
import Derived.Test.YthggagophcnkfaaGreatDoorAwk
import Derived.Test.YthggagophcnkfaaGreatDoorDgs2
import Derived.Test.YthggagophcnkfaaGreatDoorQScan
namespace Go.Proofs.YthggagophcnkfaaGreatDoor.px
open Go.RowKit Go.Proofs.YthggagophcnkfaaGreatDoor.agg Go.Proofs.YthggagophcnkfaaGreatDoor.sx Go.Proofs.YthggagophcnkfaaGreatDoor.lx Go.Proofs.YthggagophcnkfaaGreatDoor.so
set_option linter.unusedSimpArgs false
set_option linter.unusedVariables false

/-- A slice of tokens that is read. -/
def TksIn (w : World) (v : Value) (l : List Tok) : Prop :=
  ∃ ao cap, v = .slice ao l.length cap ∧ ∀ i (h : i < l.length), ∃ b o, ao = some ⟨b, o, none⟩ ∧ b < w.heap.size ∧ w.rangeAt b (o + i * 4) l[i].cells.toList
theorem TksIn.below {w w' : World} {v : Value} {l : List Tok} (h : TksIn w v l) (hb : Below w.heap.size w w') : TksIn w' v l := by
  obtain ⟨ao, cap, rfl, hc⟩ := h
  refine ⟨ao, cap, rfl, fun j hj => ?_⟩
  obtain ⟨b, o, e, hlt, hcj⟩ := hc j hj
  exact ⟨b, o, e, Nat.lt_of_lt_of_le hlt hb.size, fun k u hk => (hb.cell (p := ⟨b, _, none⟩) hlt).trans (hcj k u hk)⟩
theorem TksIn.of_row {w : World} {B : Nat} {v : Value} {l : List Tok} (h : w.ownsRow B 39 4 v l.length (tokV l)) : TksIn w v l := by
  rcases h.2 with ⟨rfl, h0⟩ | ⟨g, cap, cur, rfl, hg, hb, _⟩
  · obtain rfl := List.eq_nil_of_length_eq_zero h0
    exact ⟨none, 0, rfl, fun i hi => by simp at hi⟩
  · refine ⟨_, cap, rfl, fun i hi => ⟨g, 0, rfl, lt_of_block hb, fun j u hu => ?_⟩⟩
    have := h.cells (g := g) rfl (i * 4 + j) _ (tokV_get l hi hu)
    simpa [Addr.add_lit] using this
theorem wrong_in {T : ByteArray} {t : Tok} (ht : t ∈ toks T) (h5 : t.kind = 5) : (⟨1, t.at_, t.to, ⟨#[]⟩⟩ : Dg) ∈ (parse T).2 := by
  unfold parse
  simp only
  refine (sortD_like _).mem (List.mem_append_left _ (List.mem_flatMap.2 ⟨t, ht, ?_⟩))
  unfold lexDg
  rw [if_pos h5]
  exact List.mem_singleton.2 rfl
theorem ba_nil {x : ByteArray} (h : x.toList = []) : x = ⟨#[]⟩ := by
  obtain ⟨⟨z⟩⟩ := x
  rw [ByteArray.toList_eq] at h
  have h2 : z = [] := h
  rw [h2]
theorem parse_srt (T : ByteArray) : Srt (parse T).2 := sortD_srt _
set_option maxRecDepth 100000 in
set_option maxHeartbeats 4000000 in
theorem reports_walk (w : World) (hT : TabIn w) (T : ByteArray) (hm : T.size ≤ maxLen) : Calls Tryz.prog 4 #[.string T] w fun e w' => e = .returned (.bool true) ∧ Below w.heap.size w w' := by
  unfold maxLen at hm
  have hA := Lib.hid (awake_walk w hT)
  by_cases h300 : 300 < T.size
  · clear hT
    go_enter Tryz.func4, Tryz.ntmps4
    go_wp2_with (go_at_call 9; refine hA.out.mono ?_; rintro e w1 ⟨rfl, b1⟩)
    go_ret
    exact ⟨rfl, b1⟩
  · have hP := Lib.hid (fun (W : World) (hb : Below w.heap.size w W) => parse_readOk W (hT.below hb) T (by omega))
    have hS := Lib.hid (fun (W : World) => rscan_walk W T (by omega))
    have hsrt := Lib.hid (parse_srt T)
    have hwr := Lib.hid (fun (t : Tok) (ht : t ∈ toks T) (h5 : t.kind = 5) => wrong_in ht h5)
    have htl := toks_len' T
    unfold ScanEnd2 at hS
    generalize toks T = ts at *
    generalize parse T = m at *
    obtain ⟨tr, l⟩ := m
    clear hT
    go_enter Tryz.func4, Tryz.ntmps4
    go_wp2_with (first
      | (go_at_call 9; refine hA.out.mono ?_; rintro e w1 ⟨rfl, b1⟩; have b1' := Lib.hid b1; clear b1)
      | (go_at_call 10; refine (hP.out _ b1'.out).mono ?_; rintro e w2 ⟨⟨ao, cp, lv, rfl, t2, d2, b2⟩, o2, _⟩; have t2' := Lib.hid t2; have d2' := Lib.hid d2; have b2' := Lib.hid b2; have o2' := Lib.hid o2; obtain ⟨al, cl, rfl, _⟩ := d2; clear t2 b2 o2))
    have hb0 : Hid (Below w.heap.size w (w2.alloc (.cells #[.int .i64 tr.kind, .string tr.text, .int .i64 tr.fr, .int .i64 tr.to, .slice ao tr.kids.length cp] 25))) := Lib.hid (((bel_then b1'.out b1'.out.size b2'.out)).alloc (bel_then b1'.out b1'.out.size b2'.out).size _)
    have hd0 : Hid (DgsIn (w2.alloc (.cells #[.int .i64 tr.kind, .string tr.text, .int .i64 tr.fr, .int .i64 tr.to, .slice ao tr.kids.length cp] 25)) (.slice al l.length cl) l) := Lib.hid (d2'.out.below ((Below.refl _ _).alloc (Nat.le_refl _) _))
    have hll : l.length ≤ 20001 := o2'.out.2
    go_loopw [27] (fun i wr => ∃ j : Nat, j ≤ l.length ∧ i = .int .i64 j ∧ Hid (Below w.heap.size w wr) ∧ Hid (DgsIn wr (.slice al l.length cl) l)) (fun i _ => l.length - (intOf i).toNat)
    case atStart => exact ⟨0, Nat.zero_le _, rfl, hb0, hd0⟩
    case round =>
      clear hb0 hd0
      obtain ⟨j, hj, rfl, hb, hd⟩ := hrel
      by_cases hlt : j < l.length
      · obtain ⟨ao3, cp3, e0, hc⟩ := hd.out
        obtain ⟨rfl, rfl⟩ : al = ao3 ∧ cl = cp3 := by simpa using e0
        obtain ⟨b, o, rfl, hbl, r1⟩ := hc j hlt
        have hok : DgOk T l[j] := o2'.out.1 _ (List.getElem_mem hlt)
        have hprev : Hid (∀ h0 : 0 < j, ∃ x : Int, wr.cell? ⟨b, o + (j - 1) * 4 + 1, none⟩ = some (.int .i64 x) ∧ x ≤ l[j].at_) := fun h0 => by
          obtain ⟨b', o', e1, _, r2⟩ := hc (j - 1) (by omega)
          obtain ⟨rfl, rfl⟩ : b = b' ∧ o = o' := by simpa using e1
          exact ⟨l[j-1].at_, range_cell r2 1 rfl, srt_get hsrt.out (by omega) hlt (by omega)⟩
        have q0 : wr.cell? ⟨b, o + j * 4, none⟩ = some (.int .i64 l[j].code) := range_cell r1 0 rfl
        have q1 : wr.cell? ⟨b, o + j * 4 + 1, none⟩ = some (.int .i64 l[j].at_) := range_cell r1 1 rfl
        have q2 : wr.cell? ⟨b, o + j * 4 + 2, none⟩ = some (.int .i64 l[j].to) := range_cell r1 2 rfl
        have q3 : wr.cell? ⟨b, o + j * 4 + 3, none⟩ = some (.string l[j].text) := range_cell r1 3 rfl
        clear e0 hc r1
        generalize l[j] = d at *
        obtain ⟨k1, k2, k3, k4, k5, k6⟩ := hok
        go_upto_region 11 with fail
        obtain ⟨W, hW⟩ : ∃ W, wr.alloc (.cells #[.int .i64 d.code, .int .i64 d.at_, .int .i64 d.to, .string d.text] 34) = W := ⟨_, rfl⟩
        rw [hW]
        have hkW : Below wr.heap.size wr W := by rw [← hW]; exact (Below.refl _ _).alloc (Nat.le_refl _) _
        have hbW := Lib.hid (bel_then hb.out hb.out.size hkW)
        have hdW := Lib.hid (hd.out.below hkW)
        have hx : W.heap[wr.heap.size]? = some (.cells #[.int .i64 d.code, .int .i64 d.at_, .int .i64 d.to, .string d.text] 34 (0, 0)) := by rw [← hW]; exact block_new _ _ _
        have x0 : W.cell? ⟨wr.heap.size, 0, none⟩ = some (.int .i64 d.code) := (cell_of_row _ _ _ _ _ _ hx).trans rfl
        have x1 : W.cell? ⟨wr.heap.size, 1, none⟩ = some (.int .i64 d.at_) := (cell_of_row _ _ _ _ _ _ hx).trans rfl
        have x2 : W.cell? ⟨wr.heap.size, 2, none⟩ = some (.int .i64 d.to) := (cell_of_row _ _ _ _ _ _ hx).trans rfl
        have x3 : W.cell? ⟨wr.heap.size, 3, none⟩ = some (.string d.text) := (cell_of_row _ _ _ _ _ _ hx).trans rfl
        have hprev2 : Hid (∀ h0 : 0 < j, ∃ x : Int, W.cell? ⟨b, o + (j - 1) * 4 + 1, none⟩ = some (.int .i64 x) ∧ x ≤ d.at_) := fun h0 => by
          obtain ⟨x, y1, y2⟩ := hprev.out h0
          exact ⟨x, (hkW.cell (p := ⟨b, _, none⟩) hbl).trans y1, y2⟩
        have f1 : decide (d.at_ < 0) = false := decide_eq_false (by omega)
        have f2 : decide (d.to < d.at_) = false := decide_eq_false (by omega)
        have f3 : decide ((T.size : Int) < d.to) = false := decide_eq_false (by omega)
        have f6 : decide (d.code < 1) = false := decide_eq_false (by omega)
        have f7 : decide (7 < d.code) = false := decide_eq_false (by omega)
        clear hW hkW hx q0 q1 q2 q3 hprev hb hd hbl
        generalize wr.heap.size = D at *
        have hfin : Hid (d.code = 4 ∨ (d.code ≠ 4 ∧ d.text = ⟨#[]⟩)) := by
          unfold Hid
          by_cases h4 : d.code = 4
          · exact .inl h4
          · refine .inr ⟨h4, ?_⟩
            by_cases ht : d.text = ⟨#[]⟩
            · exact ht
            · exact absurd (k6.1 ht) h4
        have hk6 := Lib.hid k6
        clear k6
        by_cases h0 : 0 < j
        · obtain ⟨x, y1, y2⟩ := hprev2.out h0
          have g1 : decide (0 < (j : Int)) = true := decide_eq_true (by omega)
          have g2 : decide (d.at_ < x) = false := decide_eq_false (by omega)
          have s1 : IntKind.i64.wrap ((j : Int) - 1) = (j : Int) - 1 := IntWalk.i64_in _ (by omega)
          have s2 : (0 : Int) ≤ (j : Int) - 1 := by omega
          have s2b : (1 : Int) ≤ j := by omega
          have s3 : ((j : Int) - 1).toNat = j - 1 := by omega
          have s4 : (j : Int) - 1 < l.length := by omega
          clear hprev2
          rcases hfin.out with h4 | ⟨h4, ht⟩
          · have e4 : (d.code == 4) = true := by simpa using h4
            have htn : d.text.toList ≠ [] := fun e => (hk6.out.2 h4) (ba_nil e)
            have htn2 : d.text.toList.isEmpty = false := by simpa using htn
            clear h4 k1 k2 k3 k4 k5 y2
            go_quiet (fail)
            go_wp2
            go_roundw
            case rel => exact ⟨j + 1, by omega, by go_num, bl_drewN hbW.out _, hdW.out.below (bl_drewN (Below.refl _ _) _)⟩
            case measure => simp [intOf]; omega
          · have e4 : (d.code == 4) = false := by simpa using h4
            have htn : d.text.toList = [] := by rw [ht]; decide +kernel
            have htn2 : d.text.toList.isEmpty = true := by rw [htn]; rfl
            clear h4 ht k1 k2 k3 k4 k5 y2
            go_quiet (fail)
            go_wp2
            go_roundw
            case rel => exact ⟨j + 1, by omega, by go_num, bl_drewN hbW.out _, hdW.out.below (bl_drewN (Below.refl _ _) _)⟩
            case measure => simp [intOf]; omega
        · have g1 : decide (0 < (j : Int)) = false := decide_eq_false (by omega)
          clear hprev2
          rcases hfin.out with h4 | ⟨h4, ht⟩
          · have e4 : (d.code == 4) = true := by simpa using h4
            have htn : d.text.toList ≠ [] := fun e => (hk6.out.2 h4) (ba_nil e)
            have htn2 : d.text.toList.isEmpty = false := by simpa using htn
            clear h4 k1 k2 k3 k4 k5
            go_quiet (fail)
            go_wp2
            go_roundw
            case rel => exact ⟨j + 1, by omega, by go_num, bl_drewN hbW.out _, hdW.out.below (bl_drewN (Below.refl _ _) _)⟩
            case measure => simp [intOf]; omega
          · have e4 : (d.code == 4) = false := by simpa using h4
            have htn : d.text.toList = [] := by rw [ht]; decide +kernel
            have htn2 : d.text.toList.isEmpty = true := by rw [htn]; rfl
            clear h4 ht k1 k2 k3 k4 k5
            go_quiet (fail)
            go_wp2
            go_roundw
            case rel => exact ⟨j + 1, by omega, by go_num, bl_drewN hbW.out _, hdW.out.below (bl_drewN (Below.refl _ _) _)⟩
            case measure => simp [intOf]; omega
      · obtain rfl : j = l.length := by omega
        clear hsrt hP hA
        go_wp2_with (go_at_call 14; refine (hS.out _).mono ?_; rintro e w3 ⟨v, rfl, r3, b3⟩; have T3 := Lib.hid (TksIn.of_row r3); obtain ⟨a3, c3, rfl, _⟩ := TksIn.of_row r3; have b3' := Lib.hid b3; clear r3 b3)
        have hb3 := Lib.hid (bel_then hb.out hb.out.size b3'.out)
        have hd3 := Lib.hid (hd.out.below b3'.out)
        clear hb hd b3'
        go_loopw [91] (fun i wr => ∃ k : Nat, k ≤ ts.length ∧ i = .int .i64 k ∧ Hid (Below w.heap.size w wr) ∧ Hid (DgsIn wr (.slice al l.length cl) l) ∧ Hid (TksIn wr (.slice a3 ts.length c3) ts)) (fun i _ => ts.length - (intOf i).toNat)
        case atStart => exact ⟨0, Nat.zero_le _, rfl, hb3, hd3, T3⟩
        case round =>
          clear hb3 hd3 T3
          obtain ⟨k, hk, rfl, hb, hd, ht⟩ := hrel
          by_cases hlk : k < ts.length
          · obtain ⟨ao5, cp5, e0, hc⟩ := ht.out
            obtain ⟨rfl, rfl⟩ : a3 = ao5 ∧ c3 = cp5 := by simpa using e0
            obtain ⟨b, o, rfl, hbl, r1⟩ := hc k hlk
            have hw5 := Lib.hid (hwr.out ts[k] (List.getElem_mem hlk))
            have q0 : wr.cell? ⟨b, o + k * 4, none⟩ = some (.int .i64 ts[k].kind) := range_cell r1 0 rfl
            have q1 : wr.cell? ⟨b, o + k * 4 + 1, none⟩ = some (.int .i64 ts[k].fr) := range_cell r1 1 rfl
            have q2 : wr.cell? ⟨b, o + k * 4 + 2, none⟩ = some (.int .i64 ts[k].at_) := range_cell r1 2 rfl
            have q3 : wr.cell? ⟨b, o + k * 4 + 3, none⟩ = some (.int .i64 ts[k].to) := range_cell r1 3 rfl
            clear e0 hc r1
            generalize ts[k] = t at *
            have hbA := Lib.hid (fun (o : Obj) => hb.out.alloc hb.out.size o)
            have hdA := Lib.hid (fun (o : Obj) => hd.out.below ((Below.refl _ wr).alloc (Nat.le_refl _) o))
            have htA := Lib.hid (fun (o : Obj) => ht.out.below ((Below.refl _ wr).alloc (Nat.le_refl _) o))
            clear hb hd ht
            by_cases h5 : t.kind = 5
            · have e5 : ((t.kind : Int) == 5) = true := by rw [h5]; rfl
              have hCo := Lib.hid (fun (W : World) (h : DgsIn W (.slice al l.length cl) l) => containsDg_walk W (.slice al l.length cl) l ⟨1, t.at_, t.to, ⟨#[]⟩⟩ h (by omega) (hw5.out h5))
              clear h5 hw5
              go_wp2_with (go_at_call 15; refine (hCo.out _ (hdA.out _)).mono ?_; rintro e w4 ⟨rfl, b4⟩; have b4' := Lib.hid b4; clear b4)
              go_roundw
              case rel => exact ⟨k + 1, by omega, by go_num, Lib.hid (bel_then (hbA.out _) (hbA.out _).size b4'.out), Lib.hid ((hdA.out _).below b4'.out), Lib.hid ((htA.out _).below b4'.out)⟩
              case measure => simp [intOf]; omega
            · have e5 : ((t.kind : Int) == 5) = false := by simp; omega
              clear h5 hw5
              go_wp2_with fail
              go_roundw
              case rel => exact ⟨k + 1, by omega, by go_num, Lib.hid (hbA.out _), Lib.hid (hdA.out _), Lib.hid (htA.out _)⟩
              case measure => simp [intOf]; omega
          · obtain rfl : k = ts.length := by omega
            go_wp2_with fail
            go_ret
            exact ⟨rfl, hb.out⟩
end Go.Proofs.YthggagophcnkfaaGreatDoor.px
