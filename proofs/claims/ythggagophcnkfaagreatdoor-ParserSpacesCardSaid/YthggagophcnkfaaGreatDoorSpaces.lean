/- The walk of ParserSpaces. -/
import Derived.Test.YthggagophcnkfaaGreatDoorM18
import Derived.Test.YthggagophcnkfaaGreatDoorM16
import Derived.Test.YthggagophcnkfaaGreatDoorAwk
import Derived.OwnWalk
namespace Go.Proofs.YthggagophcnkfaaGreatDoor.px
open Go.RowKit Go.Proofs.YthggagophcnkfaaGreatDoor.agg Go.Proofs.YthggagophcnkfaaGreatDoor.sx Go.Proofs.YthggagophcnkfaaGreatDoor.lx Go.Proofs.YthggagophcnkfaaGreatDoor.so
set_option linter.unusedSimpArgs false
set_option linter.unusedVariables false

theorem word_cells {w : World} {B n cap : Nat} {ao : Option Addr} {ws : List ByteArray} (h : w.ownsRow B 9 1 (.slice ao n cap) ws.length (strV ws)) : ∀ j, (hj : j < ws.length) → ∃ g, ao = some ⟨g, 0, none⟩ ∧ g < w.heap.size ∧ w.cell? ⟨g, j, none⟩ = some (.string ws[j]) := by
  intro j hj
  rcases row_strs h with ⟨h0, _⟩ | ⟨g, cap2, hv, _, hlt, _, hc⟩
  · rw [h0] at hj
    simp at hj
  · injection hv with hv1 _ _
    exact ⟨g, hv1, hlt, hc j hj⟩
set_option maxRecDepth 100000 in
set_option maxHeartbeats 4000000 in
theorem spaces_walk (w : World) (hT : TabIn w) (T : ByteArray) (hma : T.size ≤ maxLen) (wv : Value) (hw : BytesU w wv) : Calls Tryz.prog 8 #[.string T, wv] w fun e w' => e = .returned (.bool true) ∧ Below w.heap.size w w' := by
  unfold maxLen at hma
  have hA := Lib.hid (awake_walk w hT)
  by_cases h3 : 300 < T.size
  · clear hT hw
    go_enter Tryz.func8, Tryz.ntmps8
    go_wp2_with (go_at_call 9; refine hA.out.mono ?_; rintro e w1 ⟨rfl, b1⟩)
    go_ret
    exact ⟨rfl, b1⟩
  have hPa := Lib.hid (fun (W : World) (hb : Below w.heap.size w W) => parse_readOk W (hT.below hb) T (by omega))
  have hTb := Lib.hid (fun (W : World) (hb : Below w.heap.size w W) => hT.below hb)
  have hmt : ∃ m, parse T = m := ⟨_, rfl⟩
  obtain ⟨⟨t, l⟩, hmt⟩ := hmt
  rw [hmt] at hPa
  by_cases hl : 0 < l.length
  · have f1 : decide (0 < (l.length : Int)) = true := decide_eq_true (by omega)
    clear hT hw
    go_enter Tryz.func8, Tryz.ntmps8
    go_wp2_with (first
      | (go_at_call 9; refine hA.out.mono ?_; rintro e w1 ⟨rfl, b1⟩; have b1' := Lib.hid b1; clear b1)
      | (go_at_call 10; refine (hPa.out _ b1'.out).mono ?_; rintro e w2 ⟨⟨ax, cx, lvx, rfl, t2, d2, b2⟩, o2, f2⟩; have b2' := Lib.hid b2; obtain ⟨alx, clx, rfl, _⟩ := d2; clear t2 b2 o2 f2))
    go_ret
    exact ⟨rfl, (bel_then b1'.out b1'.out.size b2'.out).alloc (bel_then b1'.out b1'.out.size b2'.out).size _⟩
  · have hl0 : l = [] := List.eq_nil_of_length_eq_zero (by omega)
    subst hl0
    have hT2 : (parse T).2 = [] := by rw [hmt]
    have hSp := Lib.hid (fun (U : ByteArray) bs hl hb hU => spaced_plain (U := U) hT2 bs hl hb hU)
    have hCp := Lib.hid (fun (U : ByteArray) hU => compact_plain (U := U) hT2 hU)
    rw [hmt] at hSp hCp
    have hWd := Lib.hid (fun (W : World) (hb : Below w.heap.size w W) => words_walk W (hT.below hb) T (by omega))
    have hCm := Lib.hid (fun (W : World) (hb : Below w.heap.size w W) => compact_walk W (hT.below hb) T (by omega))
    have hPb := Lib.hid (fun (W : World) (hb : Below w.heap.size w W) (U : ByteArray) (hz : U.size ≤ 4096) => parse_readOk W (hT.below hb) U hz)
    have hcnt := wds_count T
    have hsum := text_sum T
    have hcl := compact_len (wdsOf T)
    unfold WordsEnd wordsOf at hWd
    simp only [List.length_map] at hWd
    generalize wdsOf T = ts at *
    clear hT hTb hT2 hmt
    obtain ⟨ao, cap, n, zs, rfl, hn, hz⟩ := id hw
    clear hz
    have hw' := Lib.hid hw
    clear hw
    go_enter Tryz.func8, Tryz.ntmps8
    go_wp2_with (first
      | (go_at_call 9; refine hA.out.mono ?_; rintro e w1 ⟨rfl, b1⟩; have b1' := Lib.hid b1; clear b1)
      | (go_at_call 25; refine (hWd.out _ ((b2a.out _).alloc (b2a.out _).size _)).mono ?_; rintro e w3 ⟨v, rfl, hr, hb⟩; obtain ⟨ag, cg, rfl, _⟩ := own_shape hr; have hr' := Lib.hid hr; have b3' := Lib.hid hb; clear hr hb)
      | (go_at_call 10; refine (hPa.out _ b1'.out).mono ?_; rintro e w2 ⟨⟨ax, cx, lvx, rfl, t2, d2, b2⟩, o2, f2⟩; have b2' := Lib.hid b2; have t2' := Lib.hid t2; have b2a := Lib.hid (fun o => (bel_then b1'.out b1'.out.size b2'.out).alloc (bel_then b1'.out b1'.out.size b2'.out).size o); obtain ⟨alx, clx, rfl, _⟩ := d2; clear t2 b2 o2 f2))
    have hXo : ((w2.alloc (.cells #[.int .i64 t.kind, .string t.text, .int .i64 t.fr, .int .i64 t.to, .slice ax t.kids.length cx] 25)).alloc (.cells #[.string ⟨#[32]⟩, .string ⟨#[10]⟩, .string ⟨#[9, 13, 10]⟩, .string ⟨#[32, 35, 32, 115, 111, 114, 116, 10]⟩] 9)).heap[w2.heap.size]? = some (.cells #[.int .i64 t.kind, .string t.text, .int .i64 t.fr, .int .i64 t.to, .slice ax t.kids.length cx] 25 (0, 0)) := (Below.heap_alloc _ _ _ (by simp)).trans (block_new _ _ _)
    have hx3 := Lib.hid ((b3'.out.block _ (lt_of_block hXo)).trans hXo)
    have hk3 : Hid (w3.heap[(w2.alloc (.cells #[.int .i64 t.kind, .string t.text, .int .i64 t.fr, .int .i64 t.to, .slice ax t.kids.length cx] 25)).heap.size]? = some (.cells #[.string ⟨#[32]⟩, .string ⟨#[10]⟩, .string ⟨#[9, 13, 10]⟩, .string ⟨#[32, 35, 32, 115, 111, 114, 116, 10]⟩] 9 (0, 0))) := (b3'.out.block _ (by simp)).trans (block_new _ _ _)
    rw [World.size_alloc] at hk3
    have hTt : Hid (TreesIn w3 (.slice ax t.kids.length cx) t.kids) := (t2'.out.below (((Below.refl _ _).alloc (Nat.le_refl _) _).alloc (by simp) _)).below b3'.out
    have hb3 : Hid (Below w.heap.size w w3) := bel_then ((b2a.out (.cells #[.int .i64 t.kind, .string t.text, .int .i64 t.fr, .int .i64 t.to, .slice ax t.kids.length cx] 25)).alloc (b2a.out _).size (.cells #[.string ⟨#[32]⟩, .string ⟨#[10]⟩, .string ⟨#[9, 13, 10]⟩, .string ⟨#[32, 35, 32, 115, 111, 114, 116, 10]⟩] 9)) ((b2a.out _).alloc (b2a.out _).size _).size b3'.out
    have hcw : Hid (∀ j, (hj : j < ts.length) → ∃ g, ag = some ⟨g, 0, none⟩ ∧ g < w3.heap.size ∧ w3.cell? ⟨g, j, none⟩ = some (.string ts[j].word)) := by
      intro j hj
      have hr2 := hr'.out
      rw [← List.length_map (f := Tk.word)] at hr2
      obtain ⟨g, h1, h2, h3⟩ := word_cells hr2 j (by simpa using hj)
      exact ⟨g, h1, h2, by simpa using h3⟩
    have hzs := Lib.hid (hw'.out.below hb3.out)
    clear hXo b1' b2' b3' b2a t2' hr' hPa hA hWd hw'
    generalize w2.heap.size = X at *
    have hbc : ∀ k, k < 4 → w3.cell? ⟨X + 1, k, none⟩ = some (.string (blanks4.getD k ⟨#[]⟩)) := fun k hk => by
      refine (cell_of_row _ _ _ _ _ _ hk3.out).trans ?_
      match k, hk with
      | 0, _ => rfl
      | 1, _ => rfl
      | 2, _ => rfl
      | 3, _ => rfl
    have hbc' := Lib.hid hbc
    clear hbc hk3
    go_loopw [9, 41] (fun sv i wr => ∃ (j : Nat) (s : ByteArray) (bs : List (List UInt8)), j ≤ ts.length ∧ sv = .string s ∧ i = .int .i64 j ∧ w3 = wr ∧ Hid (SpAt ts j s bs)) (fun _ i _ => ts.length - (intOf i).toNat)
    case atStart => exact ⟨0, ⟨#[]⟩, [], Nat.zero_le _, rfl, rfl, rfl, Lib.hid (SpAt.start ts)⟩
    case round =>
      obtain ⟨j, s, bs, hj, rfl, rfl, rfl, hat⟩ := hrel
      by_cases hlt : j < ts.length
      · obtain ⟨g, rfl, hgl, hcj⟩ := hcw.out j hlt
        have hnext := Lib.hid (fun (b : ByteArray) hb h8 => hat.out.next hlt (b := b) hb h8)
        have hsz := hat.out.size
        have hwt := wsum_take ts j
        have hwt2 := wsum_take ts (j + 1)
        have hwj : ts[j].word.size ≤ 400 := by
          rw [List.take_append_getElem hlt |>.symm, wsum_app] at hwt2
          simp only [wsum] at hwt2
          omega
        clear hwt2
        generalize ts[j].word = x at *
        by_cases hin : j < n
        · obtain ⟨ao2, cap2, n2, zs2, e0, _, hz⟩ := hzs.out
          obtain ⟨rfl, rfl, rfl⟩ : ao = ao2 ∧ n = n2 ∧ cap = cap2 := by simpa using e0
          obtain ⟨b, o, rfl, _, hz1, hz2⟩ := hz j hin
          have hk4 : zs2.getD j 0 % 4 < 4 := Nat.mod_lt _ (by decide)
          have hck := hbc'.out _ hk4
          obtain ⟨hbl, hb8⟩ := blanks_ok hk4
          have hn2 := Lib.hid (hnext.out _ hbl hb8)
          clear hz e0 hnext hbl
          generalize zs2.getD j 0 = z at *
          have hmod : (z : Int) % 4 = ((z % 4 : Nat) : Int) := by omega
          have htm : Int.tmod (z : Int) 4 = ((z % 4 : Nat) : Int) := by rw [Int.tmod_eq_emod_of_nonneg (by omega)]; exact hmod
          generalize z % 4 = k at *
          generalize blanks4.getD k ⟨#[]⟩ = bl at *
          go_wp2_with fail
          go_roundw
          case rel => exact ⟨j + 1, s ++ (bl ++ x), _, by omega, rfl, by go_num, trivial, hn2⟩
          case measure => simp [intOf]; omega
        · have hck := hbc'.out 0 (by decide)
          obtain ⟨hbl, hb8⟩ := blanks_ok (k := 0) (by decide)
          have hn2 := Lib.hid (hnext.out _ hbl hb8)
          clear hnext hbl
          generalize blanks4.getD 0 ⟨#[]⟩ = bl at *
          go_wp2_with fail
          go_roundw
          case rel => exact ⟨j + 1, s ++ (bl ++ x), _, by omega, rfl, by go_num, trivial, hn2⟩
          case measure => simp [intOf]; omega
      · obtain rfl : j = ts.length := by omega
        obtain ⟨hU, hUs⟩ := hat.out.done
        have hlen := hat.out.len
        have hsz := hat.out.size
        have hwt := wsum_take ts ts.length
        obtain ⟨hS1, hS2⟩ := hSp.out _ bs hlen hat.out.ok hU
        have hPu := Lib.hid (fun (W : World) (hb : Below w.heap.size w W) => hPb.out W hb (s ++ ⟨#[35]⟩) (by omega))
        obtain ⟨hC1, hC2⟩ := hCp.out ⟨(compactL ts).toArray⟩ (by simp)
        have hcz : (ByteArray.mk (compactL ts).toArray).size ≤ 4096 := by
          show (compactL ts).toArray.size ≤ 4096
          rw [List.size_toArray]
          omega
        have hPc := Lib.hid (fun (W : World) (hb : Below w.heap.size w W) => hPb.out W hb ⟨(compactL ts).toArray⟩ hcz)
        clear hSp hCp hPb hat hU hcw hzs hbc' hcl
        generalize parse (s ++ ⟨#[35]⟩) = mu at *
        generalize ByteArray.mk (compactL ts).toArray = C at *
        generalize parse C = mc at *
        obtain ⟨tu, lu⟩ := mu
        obtain ⟨tc, lc⟩ := mc
        simp only at hS1 hS2 hC1 hC2
        subst hS1 hC1
        have hS2' := Lib.hid hS2
        have hC2' := Lib.hid hC2
        clear hS2 hC2
        go_upto_region 20 with (first
          | (go_at_call 26; refine (hCm.out _ (bMa.out _)).mono ?_; rintro e w5 ⟨rfl, b5⟩; have b5' := Lib.hid b5; have b5a := Lib.hid (bel_then (bMa.out (.cells #[.int .i64 tu.kind, .string tu.text, .int .i64 tu.fr, .int .i64 tu.to, .slice au tu.kids.length cu] 25)) (bMa.out _).size b5); clear b5)
          | (go_at_call 10; refine (hPc.out _ b5a.out).mono ?_; rintro e w6 ⟨⟨ac, cc, lvc, rfl, t6, d6, b6⟩, o6, f6⟩; have b6' := Lib.hid b6; have t6' := Lib.hid t6; obtain ⟨alc, clc, rfl, _⟩ := d6; clear t6 b6 o6 f6)
          | (go_at_call 10; refine (hPu.out _ hb3.out).mono ?_; rintro e w4 ⟨⟨au, cu, lvu, rfl, t4, d4, b4⟩, o4, f4⟩; have b4' := Lib.hid b4; have t4' := Lib.hid t4; have bMa := Lib.hid (fun o => (bel_then hb3.out hb3.out.size b4'.out).alloc (bel_then hb3.out hb3.out.size b4'.out).size o); obtain ⟨alu, clu, rfl, _⟩ := d4; clear t4 b4 o4 f4))
        have k4 : Below w3.heap.size w3 w4 := b4'.out
        have k5 : Below w4.heap.size w4 w5 := bel_then ((Below.refl _ w4).alloc (Nat.le_refl _) _) ((Below.refl _ w4).alloc (Nat.le_refl _) _).size b5'.out
        have u5 : w5.heap[w4.heap.size]? = some (.cells #[.int .i64 tu.kind, .string tu.text, .int .i64 tu.fr, .int .i64 tu.to, .slice au tu.kids.length cu] 25 (0, 0)) := (b5'.out.block _ (by simp)).trans (block_new _ _ _)
        have k6 : Below w5.heap.size w5 w6 := b6'.out
        obtain ⟨W, hW⟩ : ∃ W, w6.alloc (.cells #[.int .i64 tc.kind, .string tc.text, .int .i64 tc.fr, .int .i64 tc.to, .slice ac tc.kids.length cc] 25) = W := ⟨_, rfl⟩
        rw [hW]
        have k7 : Below w6.heap.size w6 W := by rw [← hW]; exact (Below.refl _ _).alloc (Nat.le_refl _) _
        have hcW : W.heap[w6.heap.size]? = some (.cells #[.int .i64 tc.kind, .string tc.text, .int .i64 tc.fr, .int .i64 tc.to, .slice ac tc.kids.length cc] 25 (0, 0)) := by rw [← hW]; exact block_new _ _ _
        have hbW : Hid (Below w.heap.size w W) := by
          have h := bel_then b5a.out b5a.out.size b6'.out
          unfold Hid
          rw [← hW]
          exact h.alloc h.size _
        have x4 := (k4.block _ (lt_of_block hx3.out)).trans hx3.out
        have x5 := (k5.block _ (lt_of_block x4)).trans x4
        have x6 := (k6.block _ (lt_of_block x5)).trans x5
        have xW := (k7.block _ (lt_of_block x6)).trans x6
        have u6 := (k6.block _ (lt_of_block u5)).trans u5
        have uW := (k7.block _ (lt_of_block u6)).trans u6
        have hTX : TreesIn W (.slice ax t.kids.length cx) t.kids := (((hTt.out.below k4).below k5).below k6).below k7
        have hTU : TreesIn W (.slice au tu.kids.length cu) tu.kids := ((t4'.out.below k5).below k6).below k7
        have hTC : TreesIn W (.slice ac tc.kids.length cc) tc.kids := t6'.out.below k7
        clear hW k4 k5 k6 k7 x4 x5 x6 u5 u6 b4' b5' b6' t4' t6' bMa b5a hTt hx3
        generalize w4.heap.size = U at *
        generalize w6.heap.size = C6 at *
        obtain ⟨⟨x0, x1, x2, x3, x4⟩, xf0, xf1, xf2, xf3, xf4⟩ := box5 xW
        obtain ⟨⟨u0, u1, u2, u3, u4⟩, uf0, uf1, uf2, uf3, uf4⟩ := box5 uW
        obtain ⟨⟨c0, c1, c2, c3, c4⟩, cf0, cf1, cf2, cf3, cf4⟩ := box5 hcW
        have hE1 := Lib.hid (equal_walk W tu t au ax cu cx hS2'.out hTU hTX)
        have hE2 := Lib.hid (fun (V : World) (hb : Below W.heap.size W V) => equal_walk V tc t ac ax cc cx hC2'.out (hTC.below hb) (hTX.below hb))
        have hcx := Lib.hid (fun (V : World) (hb : Below W.heap.size W V) => (⟨box5 ((hb.block _ (lt_of_block xW)).trans xW), box5 ((hb.block _ (lt_of_block hcW)).trans hcW)⟩ : _ ∧ _))
        unfold tagg at hE1 hE2
        clear xW uW hcW hTX hTU hTC hS2' hC2' hPu hPc
        generalize tu.kids.length = tun at *
        generalize tu.kind = tuk at *
        generalize tu.text = tux at *
        generalize tu.fr = tuf at *
        generalize tu.to = tue at *
        generalize tc.kids.length = tcn at *
        generalize tc.kind = tck at *
        generalize tc.text = tcx at *
        generalize tc.fr = tcf at *
        generalize tc.to = tce at *
        generalize t.kids.length = tn at *
        generalize t.kind = tk at *
        generalize t.text = tx at *
        generalize t.fr = tf at *
        generalize t.to = te at *
        go_wp2_with (first
          | (go_at_call 19; refine (hE2.out _ b8'.out).mono ?_; rintro e w9 ⟨rfl, b9⟩; have b9' := Lib.hid b9; clear b9)
          | (go_at_call 19; refine hE1.out.mono ?_; rintro e w8 ⟨rfl, b8⟩; have b8' := Lib.hid b8; obtain ⟨⟨⟨y0, y1, y2, y3, y4⟩, yf0, yf1, yf2, yf3, yf4⟩, ⟨v0, v1, v2, v3, v4⟩, vf0, vf1, vf2, vf3, vf4⟩ := hcx.out _ b8; clear b8))
        go_ret
        exact ⟨rfl, bel_then (bel_then hbW.out hbW.out.size b8'.out) (bel_then hbW.out hbW.out.size b8'.out).size b9'.out⟩
end Go.Proofs.YthggagophcnkfaaGreatDoor.px
