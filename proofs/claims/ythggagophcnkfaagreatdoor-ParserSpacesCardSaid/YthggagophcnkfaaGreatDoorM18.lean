/- The words of a text whose words stand apart by blanks, or side by side where they need none. Plain laws: no function of the program is walked here. The walk of the lexer's Words. The library's strings.Builder (copyCheck, WriteByte, WriteString walked at this dump; String laid by the kit's lay-shelf.mjs and lay-plain.mjs) and slices.Equal at strings (laid; the numbers are this seat's). The walks of the lexer's Separate and Compact. Spaced and compact texts: their lengths; slices of bytes that come in. No function of the program is walked here. -/
import Derived.Test.YthggagophcnkfaaGreatDoorM15
import Derived.Test.YthggagophcnkfaaGreatDoorM17
import Derived.OwnWalk
import Derived.Shelf.Strings.Builder1
import Derived.Shelf.Slices.Equal
import Derived.Lib.OthersKept
import Derived.Test.YthggagophcnkfaaGreatDoorRowApp
namespace Go.Proofs.YthggagophcnkfaaGreatDoor.px
open Go.RowKit Go.Proofs.YthggagophcnkfaaGreatDoor.agg Go.Proofs.YthggagophcnkfaaGreatDoor.sx Go.Proofs.YthggagophcnkfaaGreatDoor.lx
set_option linter.unusedSimpArgs false
set_option linter.unusedVariables false

/-- These bytes are one right word of a kind. -/
structure Wd (a : List UInt8) (k : Nat) : Prop where
  ne : a ≠ []
  right : k ≠ 5
  tok : tokB a = (k, a.length)
/-- A byte behind a word that would be read as part of it. -/
def ext (a : List UInt8) (c : UInt8) : Bool :=
  match a with
  | [] => false
  | [x] => if letterB x then partB c else if digitB x then digitB c else two x c
  | x :: _ :: _ => if letterB x then partB c else if digitB x then digitB c else false
theorem cnt_stop {p : UInt8 → Bool} {c : UInt8} (r : List UInt8) (hc : p c = false) : ∀ (a : List UInt8), cntN p a = a.length → cntN p (a ++ c :: r) = a.length
  | [], _ => by simp [cntN, hc]
  | x :: a, h => by
    rw [cntN] at h
    rw [List.cons_append, cntN]
    split at h
    · rename_i hx
      rw [if_pos hx, cnt_stop r hc a (by simpa using h)]
      rfl
    · simp at h
theorem cnt_go {p : UInt8 → Bool} {c : UInt8} (r : List UInt8) (hc : p c = true) : ∀ (a : List UInt8), cntN p a = a.length → a.length < cntN p (a ++ c :: r)
  | [], _ => by simp [cntN, hc]
  | x :: a, h => by
    rw [cntN] at h
    rw [List.cons_append, cntN]
    split at h
    · rename_i hx
      have := cnt_go r hc a (by simpa using h)
      rw [if_pos hx, List.length_cons]
      omega
    · simp at h
theorem cnt_take (p : UInt8 → Bool) : ∀ (l : List UInt8), cntN p (l.take (cntN p l)) = cntN p l
  | [] => rfl
  | c :: l => by
    rw [cntN]
    by_cases hc : p c = true
    · rw [if_pos hc, List.take_succ_cons, cntN, if_pos hc, cnt_take p l]
    · rw [if_neg hc]
      rfl
theorem len_take_cnt (p : UInt8 → Bool) (l : List UInt8) : (l.take (cntN p l)).length = cntN p l := by
  rw [List.length_take]
  have := cntN_le p l
  omega
theorem tokB_letter {c : UInt8} {r : List UInt8} (h : letterB c = true) : tokB (c :: r) = (if keys.contains ((c :: r).take (cntN partB (c :: r))) then 2 else 1, cntN partB (c :: r)) := by
  unfold tokB
  simp only [h, if_true]
theorem tokB_digit {c : UInt8} {r : List UInt8} (h : letterB c = false) (h2 : digitB c = true) : tokB (c :: r) = (3, cntN digitB (c :: r)) := by
  unfold tokB
  simp only [h, h2, if_true, Bool.false_eq_true, if_false]
theorem tokB_sym {c : UInt8} {r : List UInt8} (h : letterB c = false) (h2 : digitB c = false) (h3 : 0 < symN (c :: r)) : tokB (c :: r) = (4, symN (c :: r)) := by
  unfold tokB
  simp only [h, h2, h3, if_true, Bool.false_eq_true, if_false]
theorem tokB_wrong {c : UInt8} {r : List UInt8} (h : letterB c = false) (h2 : digitB c = false) (h3 : ¬ 0 < symN (c :: r)) : tokB (c :: r) = (5, wrongN r + 1) := by
  unfold tokB
  simp only [h, h2, h3, if_true, Bool.false_eq_true, if_false]
/-- The front of a token is a word. -/
theorem tokB_wd {c : UInt8} {r : List UInt8} (h : (tokB (c :: r)).1 ≠ 5) : Wd ((c :: r).take (tokB (c :: r)).2) (tokB (c :: r)).1 := by
  have hp := tokB_pos (c := c) (r := r)
  have hl := tokB_len (c :: r)
  have hlen : ((c :: r).take (tokB (c :: r)).2).length = (tokB (c :: r)).2 := by rw [List.length_take]; omega
  refine ⟨fun e => by rw [e] at hlen; simp at hlen; omega, h, ?_⟩
  rw [hlen]
  obtain ⟨m, hm⟩ : ∃ m, (tokB (c :: r)).2 = m + 1 := ⟨(tokB (c :: r)).2 - 1, by omega⟩
  have htk : (c :: r).take (tokB (c :: r)).2 = c :: r.take m := by rw [hm, List.take_succ_cons]
  cases h1 : letterB c with
  | true =>
    have ht := tokB_letter (r := r) h1
    have e2 : (tokB (c :: r)).2 = cntN partB (c :: r) := by rw [ht]
    have e1 : (tokB (c :: r)).1 = if keys.contains ((c :: r).take (cntN partB (c :: r))) then 2 else 1 := by rw [ht]
    have hc := cnt_take partB (c :: r)
    rw [← e2, htk] at hc
    rw [htk, tokB_letter h1, hc, e1, ← e2, htk]
    have e3 : (c :: r.take m).take (tokB (c :: r)).2 = c :: r.take m := List.take_of_length_le (by rw [← htk, hlen]; exact Nat.le_refl _)
    rw [e3]
  | false =>
    cases h2 : digitB c with
    | true =>
      have ht := tokB_digit (r := r) h1 h2
      have e2 : (tokB (c :: r)).2 = cntN digitB (c :: r) := by rw [ht]
      have e1 : (tokB (c :: r)).1 = 3 := by rw [ht]
      have hc := cnt_take digitB (c :: r)
      rw [← e2, htk] at hc
      rw [htk, tokB_digit h1 h2, hc, e1]
    | false =>
      by_cases h3 : 0 < symN (c :: r)
      · have ht := tokB_sym (r := r) h1 h2 h3
        have e2 : (tokB (c :: r)).2 = symN (c :: r) := by rw [ht]
        have e1 : (tokB (c :: r)).1 = 4 := by rw [ht]
        have hs : symN ((c :: r).take (symN (c :: r))) = symN (c :: r) := by
          match r with
          | [] =>
            simp only [symN] at h3 ⊢
            split at h3
            · rename_i ho
              rw [if_pos ho]
              simp only [List.take_succ_cons, List.take_zero, symN, if_pos ho]
            · omega
          | b :: x =>
            simp only [symN] at h3 ⊢
            split at h3
            · rename_i ho
              rw [if_pos ho]
              simp only [List.take_succ_cons, List.take_zero, symN, if_pos ho]
            · rename_i ho
              split at h3
              · rename_i ho2
                rw [if_neg ho, if_pos ho2]
                simp only [List.take_succ_cons, List.take_zero, symN, if_pos ho2]
              · omega
        rw [← e2, htk] at hs
        rw [htk, tokB_sym h1 h2 (by rw [hs]; omega), hs, e1]
      · exact absurd (by rw [tokB_wrong h1 h2 h3]) h
theorem Wd.kinds {c : UInt8} {l : List UInt8} {k : Nat} (h : Wd (c :: l) k) : (letterB c = true ∧ cntN partB (c :: l) = (c :: l).length ∧ k = if keys.contains (c :: l) then 2 else 1) ∨ (letterB c = false ∧ digitB c = true ∧ cntN digitB (c :: l) = (c :: l).length ∧ k = 3) ∨ (letterB c = false ∧ digitB c = false ∧ symN (c :: l) = (c :: l).length ∧ k = 4) := by
  obtain ⟨_, hk, ht⟩ := h
  cases h1 : letterB c with
  | true =>
    rw [tokB_letter h1, Prod.mk.injEq] at ht
    refine .inl ⟨rfl, ht.2, ?_⟩
    rw [← ht.1, ht.2, List.take_length]
  | false =>
    cases h2 : digitB c with
    | true =>
      rw [tokB_digit h1 h2, Prod.mk.injEq] at ht
      exact .inr (.inl ⟨rfl, rfl, ht.2, ht.1.symm⟩)
    | false =>
      by_cases h3 : 0 < symN (c :: l)
      · rw [tokB_sym h1 h2 h3, Prod.mk.injEq] at ht
        exact .inr (.inr ⟨rfl, rfl, ht.2, ht.1.symm⟩)
      · rw [tokB_wrong h1 h2 h3, Prod.mk.injEq] at ht
        exact absurd ht.1.symm hk
/-- A word behind which nothing stands that is read as part of it. -/
theorem Wd.stand {a : List UInt8} {k : Nat} (h : Wd a k) {c : UInt8} (hc : ext a c = false) (r : List UInt8) : tokB (a ++ c :: r) = (k, a.length) := by
  obtain ⟨x, l, rfl⟩ := List.exists_cons_of_ne_nil h.ne
  rcases h.kinds with ⟨h1, h2, h3⟩ | ⟨h0, h1, h2, h3⟩ | ⟨h0, h1, h2, h3⟩
  · have hp : partB c = false := by
      cases l with
      | nil => simpa [ext, h1] using hc
      | cons y l => simpa [ext, h1] using hc
    have hn := cnt_stop r hp _ h2
    rw [List.cons_append] at hn ⊢
    rw [tokB_letter h1, hn, h3]
    have e : (x :: (l ++ c :: r)).take (x :: l).length = x :: l := by rw [← List.cons_append, List.take_left]
    rw [e]
  · have hp : digitB c = false := by
      cases l with
      | nil => simpa [ext, h0, h1] using hc
      | cons y l => simpa [ext, h0, h1] using hc
    have hn := cnt_stop r hp _ h2
    rw [List.cons_append] at hn ⊢
    rw [tokB_digit h0 h1, hn, h3]
  · have hs : symN (x :: (l ++ c :: r)) = (x :: l).length := by
      match l, hc, h2 with
      | [], hc, h2 =>
        have ht : two x c = false := by simpa [ext, h0, h1] using hc
        simp only [symN] at h2
        split at h2
        · rename_i ho
          simp only [List.nil_append, symN, ht, Bool.false_eq_true, if_false, if_pos ho, List.length_cons, List.length_nil]
        · simp at h2
      | [y], hc, h2 =>
        simp only [symN] at h2
        split at h2
        · rename_i ho
          simp only [List.cons_append, List.nil_append, symN, if_pos ho, List.length_cons, List.length_nil]
        · split at h2 <;> simp at h2
      | y :: z :: l, hc, h2 =>
        have := (symN_le (x :: y :: z :: l)).2
        rw [h2] at this
        simp at this
    rw [List.cons_append, tokB_sym h0 h1 (by rw [hs]; exact Nat.succ_pos _), hs, h3]
/-- Where the word before is read as it is, nothing stands behind it that is read as part of it. -/
theorem Wd.apart {a : List UInt8} {k : Nat} (h : Wd a k) {c : UInt8} {r : List UInt8} (ht : (tokB (a ++ c :: r)).2 = a.length) : ext a c = false := by
  obtain ⟨x, l, rfl⟩ := List.exists_cons_of_ne_nil h.ne
  rw [List.cons_append] at ht
  rcases h.kinds with ⟨h1, h2, h3⟩ | ⟨h0, h1, h2, h3⟩ | ⟨h0, h1, h2, h3⟩
  · cases hp : partB c with
    | false => cases l <;> simp [ext, h1, hp]
    | true =>
      have hn := cnt_go r hp _ h2
      rw [tokB_letter h1] at ht
      rw [List.cons_append] at hn
      simp only at ht
      omega
  · cases hp : digitB c with
    | false => cases l <;> simp [ext, h0, h1, hp]
    | true =>
      have hn := cnt_go r hp _ h2
      rw [tokB_digit h0 h1] at ht
      rw [List.cons_append] at hn
      simp only at ht
      omega
  · match l, h2, ht with
    | [], h2, ht =>
      cases hp : two x c with
      | false => simp [ext, h0, h1, hp]
      | true =>
        have hs : symN (x :: ([] ++ c :: r)) = 2 := by simp [symN, hp]
        rw [tokB_sym h0 h1 (by rw [hs]; decide), hs] at ht
        simp at ht
    | y :: l, h2, ht => simp [ext, h0, h1]
theorem Wd.skip {a : List UInt8} {k : Nat} (h : Wd a k) (r : List UInt8) : skipS false (a ++ r) = 0 := by
  obtain ⟨x, l, rfl⟩ := List.exists_cons_of_ne_nil h.ne
  have hx : whiteB x = false ∧ (x == 35) = false := by
    rcases h.kinds with ⟨h1, _, _⟩ | ⟨_, h1, _, _⟩ | ⟨_, _, h2, _⟩
    · unfold letterB at h1
      unfold whiteB
      simp only [Bool.and_eq_true, decide_eq_true_eq] at h1
      simp only [Bool.or_eq_false_iff, beq_eq_false_iff_ne, ne_eq]
      refine ⟨⟨⟨⟨?_, ?_⟩, ?_⟩, ?_⟩, ?_⟩ <;> (rintro rfl; simp at h1)
    · unfold digitB at h1
      unfold whiteB
      simp only [Bool.and_eq_true, decide_eq_true_eq] at h1
      simp only [Bool.or_eq_false_iff, beq_eq_false_iff_ne, ne_eq]
      refine ⟨⟨⟨⟨?_, ?_⟩, ?_⟩, ?_⟩, ?_⟩ <;> (rintro rfl; simp at h1)
    · have hz : ∀ z : UInt8, (z = 32 ∨ z = 9 ∨ z = 10 ∨ z = 13 ∨ z = 35) → symN (z :: l) = 0 := by
        rintro z hz
        have ho : ones.contains z = false := by rcases hz with rfl | rfl | rfl | rfl | rfl <;> decide
        have ht : ∀ b, two z b = false := by
          intro b
          unfold two
          rcases hz with rfl | rfl | rfl | rfl | rfl <;> simp
        cases l with
        | nil => simp only [symN, ho, Bool.false_eq_true, if_false]
        | cons y l => simp only [symN, ho, ht, Bool.false_eq_true, if_false]
      unfold whiteB
      simp only [Bool.or_eq_false_iff, beq_eq_false_iff_ne, ne_eq]
      refine ⟨⟨⟨⟨?_, ?_⟩, ?_⟩, ?_⟩, ?_⟩ <;> (rintro rfl; rw [hz _ (by simp)] at h2; simp at h2)
  rw [List.cons_append, skipS, hx.1, hx.2]
  rfl
/-- Bytes that are laid of words: each one behind something that is skipped. -/
inductive Lay : List UInt8 → List Tk → Prop where
  | nil {l : List UInt8} : skipS false l = l.length → Lay l []
  | cons {b a r : List UInt8} {k : Nat} {ts : List Tk} : skipS false (b ++ (a ++ r)) = b.length → Wd a k → (∀ c x, r = c :: x → ext a c = false) → Lay r ts → Lay (b ++ (a ++ r)) (⟨k, ⟨a.toArray⟩⟩ :: ts)
theorem Lay.wds {l : List UInt8} {ts : List Tk} (h : Lay l ts) : ∀ n, l.length < n → wds n l = ts := by
  induction h with
  | @nil l hs =>
    intro n hn
    obtain ⟨m, rfl⟩ : ∃ m, n = m + 1 := ⟨n - 1, by omega⟩
    exact wds_nil (by rw [hs, List.drop_length])
  | @cons b a r k ts hs hw he hr ih =>
    intro n hn
    obtain ⟨m, rfl⟩ : ∃ m, n = m + 1 := ⟨n - 1, by omega⟩
    have hd : (b ++ (a ++ r)).drop (skipS false (b ++ (a ++ r))) = a ++ r := by rw [hs, List.drop_left]
    have ht : tokB (a ++ r) = (k, a.length) := by
      cases r with
      | nil => rw [List.append_nil]; exact hw.tok
      | cons c x => exact hw.stand (he c x rfl) x
    have hne := List.length_pos_iff.2 hw.ne
    obtain ⟨x, l, hxl⟩ := List.exists_cons_of_ne_nil hw.ne
    have hcons : a ++ r = x :: (l ++ r) := by rw [hxl]; rfl
    simp only [List.length_append] at hn
    have h1 := wds_cons (n := m) (hd.trans hcons)
    rw [h1, ← hcons, ht]
    simp only
    rw [List.take_left, List.drop_left, ih m (by omega)]
/-- The same words: the same tree, and nothing to report. -/
theorem spaces_plain {T U : ByteArray} (hT : (parse T).2 = []) (hw : wdsOf U = wdsOf T) : (parse U).2 = [] ∧ trEr (parse U).1 = trEr (parse T).1 := by
  obtain ⟨dT, rT⟩ := parse_none hT
  have oT := (lexDgs_ok T).1 dT
  have dU := (lexDgs_ok U).2 (by rw [hw]; exact oT)
  have hA : (src U).A = (src T).A := by rw [src_wds, src_wds, hw]
  unfold parse
  simp only [hA]
  refine ⟨?_, ?_⟩
  · unfold Src.list
    rw [dU, rT]
    rfl
  · rw [trEr, trEr, trErs_map, trErs_map, List.map_map, List.map_map]
    congr 1
    refine List.map_congr_left fun t _ => ?_
    show trEr ((src U).tree t) = trEr ((src T).tree t)
    rw [tree_er, tree_er]
/-- The words of a text are words. -/
theorem wds_wd : ∀ (n : Nat) (l : List UInt8) (t : Tk), t ∈ wds n l → t.kind ≠ 5 → Wd t.word.data.toList t.kind
  | 0, l, t, h, _ => by simp [wds] at h
  | n + 1, l, t, h, hk => by
    cases hd : l.drop (skipS false l) with
    | nil => rw [wds_nil hd] at h; simp at h
    | cons c r =>
      rw [wds_cons hd] at h
      rcases List.mem_cons.1 h with rfl | h
      · exact tokB_wd hk
      · exact wds_wd n _ t h hk
theorem okTk_right {t : Tk} (h : okTk t = true) : t.kind ≠ 5 := by
  unfold okTk at h
  simp only [Bool.and_eq_true, bne_iff_ne, ne_eq] at h
  exact h.1.1
theorem tk_eta (t : Tk) : (⟨t.kind, ⟨t.word.data.toList.toArray⟩⟩ : Tk) = t := by
  cases t
  rfl
/-- White space or a comment that may stand between words. -/
structure Blank (b : List UInt8) : Prop where
  first : ∃ c x, b = c :: x ∧ ∀ a, ext a c = false
  skips : ∀ x, skipS false x = 0 → skipS false (b ++ x) = b.length
theorem ext_white {c : UInt8} (h : c = 32 ∨ c = 9 ∨ c = 10 ∨ c = 35) (a : List UInt8) : ext a c = false := by
  have h1 : partB c = false := by rcases h with rfl | rfl | rfl | rfl <;> decide
  have h2 : digitB c = false := by rcases h with rfl | rfl | rfl | rfl <;> decide
  have h3 : ∀ x, two x c = false := by
    intro x
    unfold two
    rcases h with rfl | rfl | rfl | rfl <;> simp
  match a with
  | [] => rfl
  | [x] => simp [ext, h1, h2, h3]
  | x :: y :: l => simp [ext, h1, h2]
/-- Words behind blanks, a number sign at the end. -/
def spaced : List (List UInt8) → List Tk → List UInt8
  | b :: bs, t :: ts => b ++ (t.word.data.toList ++ spaced bs ts)
  | _, _ => [35]
theorem spaced_lay : ∀ (bs : List (List UInt8)) (ts : List Tk), bs.length = ts.length → (∀ b ∈ bs, Blank b) → (∀ t ∈ ts, Wd t.word.data.toList t.kind) → Lay (spaced bs ts) ts
  | [], [], _, _, _ => .nil (by decide)
  | [], t :: ts, h, _, _ => by simp at h
  | b :: bs, [], h, _, _ => by simp at h
  | b :: bs, t :: ts, h, hb, ht => by
    have hb0 := hb b List.mem_cons_self
    have ht0 := ht t List.mem_cons_self
    have e := Lay.cons (r := spaced bs ts) (hb0.skips _ (ht0.skip _)) ht0 (fun c x hx => by
      cases bs with
      | nil =>
        rw [spaced] at hx
        · injection hx with h1 _
          exact h1 ▸ ext_white (by simp) _
        · intro b' bs' t' ts' hh
          cases hh
      | cons b1 bs =>
        cases ts with
        | nil => simp at h
        | cons t1 ts =>
          obtain ⟨c1, x1, rfl, h1⟩ := (hb b1 (by simp)).first
          rw [spaced, List.cons_append] at hx
          injection hx with h2 _
          exact h2 ▸ h1 _) (spaced_lay bs ts (by simpa using h) (fun b' h' => hb b' (List.mem_cons_of_mem _ h')) (fun t' h' => ht t' (List.mem_cons_of_mem _ h')))
    rw [tk_eta] at e
    exact e
theorem blank_sp : Blank [32] := ⟨⟨32, [], rfl, ext_white (by simp)⟩, fun x h => by simp [skipS, whiteB, h]⟩
theorem blank_nl : Blank [10] := ⟨⟨10, [], rfl, ext_white (by simp)⟩, fun x h => by simp [skipS, whiteB, h]⟩
theorem blank_tab : Blank [9, 13, 10] := ⟨⟨9, _, rfl, ext_white (by simp)⟩, fun x h => by simp [skipS, whiteB, h]⟩
theorem blank_com : Blank [32, 35, 32, 115, 111, 114, 116, 10] := ⟨⟨32, _, rfl, ext_white (by simp)⟩, fun x h => by simp [skipS, whiteB, h]⟩
/-- Whether two words need a separator. -/
def sepB (a b : ByteArray) : Bool := !decide ((wdsOf (a ++ b)).map Tk.word = [a, b])
/-- The words behind a word, with the separators that they need. -/
def glue (a : ByteArray) : List Tk → List UInt8
  | [] => []
  | t :: ts => (if sepB a t.word then [32] else []) ++ (t.word.data.toList ++ glue t.word ts)
theorem wds_two {a b : ByteArray} {k : Nat} (ha : Wd a.data.toList k) (h : sepB a b = false) {c : UInt8} {x : List UInt8} (hb : b.data.toList = c :: x) : ext a.data.toList c = false := by
  unfold sepB at h
  have hw : (wdsOf (a ++ b)).map Tk.word = [a, b] := by simpa using h
  unfold wdsOf at hw
  have hs := ha.skip b.data.toList
  have hd : (a ++ b).data.toList = a.data.toList ++ b.data.toList := by simp
  rw [hd] at hw
  obtain ⟨y, l, hy⟩ := List.exists_cons_of_ne_nil ha.ne
  have hc : (a.data.toList ++ b.data.toList).drop (skipS false (a.data.toList ++ b.data.toList)) = y :: (l ++ b.data.toList) := by rw [hs, hy]; rfl
  rw [wds_cons hc, List.map_cons, List.cons.injEq] at hw
  have h1 := congrArg (fun z : ByteArray => z.data.toList.length) hw.1
  simp only at h1
  have hl := tokB_len (y :: (l ++ b.data.toList))
  rw [List.length_take, Nat.min_eq_left hl] at h1
  refine ha.apart (r := x) ?_
  rw [← hb, hy, List.cons_append, h1, hy]
theorem glue_lay : ∀ (ts : List Tk) (a : ByteArray) (k : Nat), Wd a.data.toList k → (∀ t ∈ ts, Wd t.word.data.toList t.kind) → Lay (glue a ts) ts ∧ ∀ c x, glue a ts = c :: x → ext a.data.toList c = false
  | [], a, k, _, _ => ⟨.nil rfl, fun c x h => by simp [glue] at h⟩
  | t :: ts, a, k, ha, ht => by
    have ht0 := ht t List.mem_cons_self
    obtain ⟨h1, h2⟩ := glue_lay ts t.word t.kind ht0 (fun t' h' => ht t' (List.mem_cons_of_mem _ h'))
    cases hs : sepB a t.word with
    | true =>
      have e := Lay.cons (b := [32]) (blank_sp.skips _ (ht0.skip _)) ht0 h2 h1
      rw [tk_eta] at e
      rw [glue, if_pos hs]
      exact ⟨e, fun c x hx => by
        rw [List.singleton_append] at hx
        injection hx with h3 _
        exact h3 ▸ ext_white (by simp) _⟩
    | false =>
      have e := Lay.cons (b := []) (by rw [List.nil_append]; exact ht0.skip _) ht0 h2 h1
      rw [tk_eta] at e
      rw [glue, if_neg (by rw [hs]; simp)]
      refine ⟨e, fun c x hx => ?_⟩
      obtain ⟨y, l, hy⟩ := List.exists_cons_of_ne_nil ht0.ne
      rw [List.nil_append, hy, List.cons_append] at hx
      injection hx with h3 _
      exact h3 ▸ wds_two ha hs hy
/-- The words, with as little between them as can be. -/
def compactL : List Tk → List UInt8
  | [] => []
  | t :: ts => t.word.data.toList ++ glue t.word ts
theorem compact_lay (ts : List Tk) (ht : ∀ t ∈ ts, Wd t.word.data.toList t.kind) : Lay (compactL ts) ts := by
  cases ts with
  | nil => exact .nil rfl
  | cons t ts =>
    have ht0 := ht t List.mem_cons_self
    obtain ⟨h1, h2⟩ := glue_lay ts t.word t.kind ht0 (fun t' h' => ht t' (List.mem_cons_of_mem _ h'))
    have e := Lay.cons (b := []) (by rw [List.nil_append]; exact ht0.skip _) ht0 h2 h1
    rw [tk_eta] at e
    exact e
theorem lay_of {U : ByteArray} {ts : List Tk} {l : List UInt8} (hU : U.data.toList = l) (h : Lay l ts) : wdsOf U = ts := by
  unfold wdsOf
  rw [hU]
  refine h.wds _ ?_
  rw [← hU]
  exact Nat.lt_succ_self _
theorem text_words {T : ByteArray} (hT : (parse T).2 = []) : ∀ t ∈ wdsOf T, Wd t.word.data.toList t.kind := by
  obtain ⟨dT, _⟩ := parse_none hT
  exact fun t ht => wds_wd _ _ t ht (okTk_right ((lexDgs_ok T).1 dT t ht))
theorem spaced_plain {T U : ByteArray} (hT : (parse T).2 = []) (bs : List (List UInt8)) (hl : bs.length = (wdsOf T).length) (hb : ∀ b ∈ bs, Blank b) (hU : U.data.toList = spaced bs (wdsOf T)) : (parse U).2 = [] ∧ trEr (parse U).1 = trEr (parse T).1 :=
  spaces_plain hT (lay_of hU (spaced_lay bs _ hl hb (text_words hT)))
theorem compact_plain {T U : ByteArray} (hT : (parse T).2 = []) (hU : U.data.toList = compactL (wdsOf T)) : (parse U).2 = [] ∧ trEr (parse U).1 = trEr (parse T).1 :=
  spaces_plain hT (lay_of hU (compact_lay _ (text_words hT)))
end Go.Proofs.YthggagophcnkfaaGreatDoor.px
namespace Go.Proofs.YthggagophcnkfaaGreatDoor.lx
open Go.RowKit Go.Proofs.YthggagophcnkfaaGreatDoor.agg Go.Proofs.YthggagophcnkfaaGreatDoor.sx Go.Proofs.YthggagophcnkfaaGreatDoor.px
set_option linter.unusedSimpArgs false
set_option linter.unusedVariables false
attribute [local go_sem] Oper.semAt_some

/-- The words of a text. -/
def wordsOf (T : ByteArray) : List ByteArray := (wdsOf T).map Tk.word
def strV (l : List ByteArray) : List Value := l.map Value.string
/-- The words of tokens, but for the end's. -/
def tokWs (T : ByteArray) (l : List Tok) : List ByteArray := (l.filter fun t => t.kind != 0).map fun t => T.extract t.at_ t.to
theorem tokWs_app (T : ByteArray) (a b : List Tok) : tokWs T (a ++ b) = tokWs T a ++ tokWs T b := by simp [tokWs]
theorem wds_kind : ∀ (n : Nat) (l : List UInt8), ∀ t ∈ wds n l, t.kind ≠ 0
  | 0, l, t, h => by simp [wds] at h
  | n + 1, l, t, h => by
    cases hd : l.drop (skipS false l) with
    | nil => rw [wds_nil hd] at h; simp at h
    | cons c r =>
      rw [wds_cons hd] at h
      rcases List.mem_cons.1 h with rfl | h
      · exact tokB_pos.2
      · exact wds_kind n _ t h
theorem tokWs_all (T : ByteArray) : tokWs T (toks T) = wordsOf T := by
  have h := congrArg (fun l => (List.filter (fun t : Tk => t.kind != 0) l).map Tk.word) (toks_wds T)
  rw [List.filter_map, List.map_map, List.filter_append, List.filter_cons_of_neg (by decide), List.filter_nil, List.append_nil] at h
  have h2 : (wdsOf T).filter (fun t => t.kind != 0) = wdsOf T := List.filter_eq_self.2 fun t ht => by simpa using wds_kind _ _ t ht
  rw [h2] at h
  exact h
def WordsEnd (w : World) (T : ByteArray) (e : Ending) (w' : World) : Prop :=
  ∃ v, e = .returned v ∧ w'.ownsRow w.heap.size 9 1 v (wordsOf T).length (strV (wordsOf T)) ∧ Below w.heap.size w w'
theorem strInfo : (Tryz.prog.info? 9).map (fun i => (i.zero, i.size, i.bytes)) = some (some (.string ⟨#[]⟩), 1, 16) := by kernel_rfl
theorem tok_rng (T : ByteArray) (t : Tok) (h : t ∈ toks T) : t.at_ ≤ t.to ∧ t.to ≤ T.size := by
  obtain ⟨init, e, h1, h2, h2b, h3, h4, h5⟩ := toks_split T
  have := h4 t (h1 ▸ h)
  exact ⟨this.2.1, this.2.2⟩
theorem keepTok2_alloc {n₀ X : Nat} {W : World} (hn : n₀ ≤ W.heap.size) (o : Obj) : KeepTok2 n₀ X W (W.alloc o) := (keepTok_alloc hn o).two
/-- Between two rounds: the text's box, the box of the words. -/
structure WIn (w w1 : World) (T : ByteArray) (pre : List (Tks T)) (W : World) : Prop where
  bt : Boxed W w.heap.size 9 (.string T)
  row : ∃ v, Boxed W (w.heap.size + 1) 52 v ∧ W.ownsRow w1.heap.size 9 1 v (tokWs T (pre.map (·.1))).length (strV (tokWs T (pre.map (·.1)))) ∧ True
  bel : Below w.heap.size w W
  sz : w1.heap.size ≤ W.heap.size
theorem win_own {w w1 : World} {T : ByteArray} (h : w.heap.size ≤ w1.heap.size) : OwnFrom w1.heap.size (WIn w w1 T) := fun s X Y row hs hg hr =>
  ⟨boxed_own w.heap.size 9 (fun (_ : Unit) => Value.string T) () X Y row hs.bt hg (fun r e => (hr r e).2),
   holdsRow_own w1.heap.size (w.heap.size + 1) 52 9 1 (fun pre : List (Tks T) => (tokWs T (pre.map (·.1))).length) (fun pre => strV (tokWs T (pre.map (·.1)))) (fun _ _ => True) s X Y row hs.row hg (fun r e => (hr r e).2),
   ownFrom_below (B := w1.heap.size) (Nat.le_refl _) h s X Y row hs.bel hg hr, Nat.le_trans hs.sz hg.size⟩
theorem row_type0 {w : World} {B : Nat} {e : TypeId} {size : Nat} {v : Value} {n : Nat} {xs : List Value} (h : w.ownsRow B e size v n xs) : ∀ g, v.ownBlock = some g → ∃ c fz, w.heap[g]? = some (.cells c e fz) := by
  intro g hg
  rcases h.2 with ⟨rfl, _⟩ | ⟨g0, cap, cur, rfl, _, hh, _⟩
  · cases hg
  · obtain rfl : g0 = g := by injection hg
    exact ⟨_, _, hh⟩
/-- A round that has appended a word. -/
theorem words_round {w w1 W w9 : World} {T : ByteArray} {pre : List (Tks T)} {t : Tks T} {s : ByteArray} {v : Value} {g cap : Nat} (hBw : w.heap.size ≤ W.heap.size) (hsz : w1.heap.size ≤ W.heap.size) (bT : Boxed W w.heap.size 9 (.string T)) (bS : Boxed W (w.heap.size + 1) 52 v)
    (hrow : W.ownsRow w1.heap.size 9 1 v (tokWs T (pre.map (·.1))).length (strV (tokWs T (pre.map (·.1))))) (hB : Below w.heap.size w W) (happ : tokWs T (pre.map (·.1) ++ [t.1]) = tokWs T (pre.map (·.1)) ++ [s])
    (hgrow : (W.alloc (.cells #[.string s] 9)).drew.grownBy w9 v.ownBlock) (hnew : v.ownBlock = some g ∨ g = (W.alloc (.cells #[.string s] 9)).drew.heap.size)
    (hown : w9.ownsRow w1.heap.size 9 1 (.slice (some ⟨g, 0, none⟩) ((tokWs T (pre.map (·.1))).length + 1) cap) ((tokWs T (pre.map (·.1))).length + 1) (strV (tokWs T (pre.map (·.1))) ++ [.string s])) (hw1 : w.heap.size + 1 < w1.heap.size) :
    KeepsFrom w1.heap.size W (w9.setCell ⟨w.heap.size + 1, 0, none⟩ (.slice (some ⟨g, 0, none⟩) ((tokWs T (pre.map (·.1))).length + 1) cap)) ∧ KeepTok2 w1.heap.size (w.heap.size + 1) W (w9.setCell ⟨w.heap.size + 1, 0, none⟩ (.slice (some ⟨g, 0, none⟩) ((tokWs T (pre.map (·.1))).length + 1) cap)) ∧ WIn w w1 T (pre ++ [t]) (w9.setCell ⟨w.heap.size + 1, 0, none⟩ (.slice (some ⟨g, 0, none⟩) ((tokWs T (pre.map (·.1))).length + 1) cap)) := by
  have hgne : some (w.heap.size + 1) ≠ v.ownBlock := Boxed.not_row bS (by decide) hrow
  have hrowlt : ∀ k, v.ownBlock = some k → w1.heap.size ≤ k := fun k e => (hrow.lt k e).1
  have hgs := hgrow.size
  have hsz0 : (W.alloc (.cells #[.string s] 9)).drew.heap.size = W.heap.size + 1 := by simp
  have hgne2 : w.heap.size + 1 ≠ g := by
    rcases hnew with e | e
    · exact fun e2 => hgne (by rw [e, e2])
    · have := bS.lt
      omega
  have hbx1 : Boxed w9 (w.heap.size + 1) 52 v := (show Boxed (W.alloc (.cells #[.string s] 9)).drew (w.heap.size + 1) 52 v from bS.alloc _).kept hgrow hgne
  have hkeep : ∀ k o, W.heap[k]? = some o → k ≠ w.heap.size + 1 → some k ≠ v.ownBlock → (w9.setCell ⟨w.heap.size + 1, 0, none⟩ (.slice (some ⟨g, 0, none⟩) ((tokWs T (pre.map (·.1))).length + 1) cap)).heap[k]? = some o := fun k o hk h1 h2 =>
    (heap_setCell_other _ _ _ _ (fun e => h1 e)).trans ((hgrow.block k (by have := lt_of_block hk; omega) h2).trans ((Below.heap_alloc W _ k (lt_of_block hk)).trans hk))
  have hBW : Below w.heap.size W (w9.setCell ⟨w.heap.size + 1, 0, none⟩ (.slice (some ⟨g, 0, none⟩) ((tokWs T (pre.map (·.1))).length + 1) cap)) :=
    (((Below.refl _ W).alloc hBw _).drew.grown hgrow (by omega) (fun k e => by have := hrowlt k e; omega)).setCell (p := ⟨w.heap.size + 1, 0, none⟩) (by simp) _
  refine ⟨⟨by have := hBW.size; simpa using this, fun k o _ hk ho => hkeep k o hk ?_ ?_⟩, ⟨⟨hBW.os, hBW.tape, hBW.output, hBW.size, fun k hk hX => ?_⟩, fun b c hb hc => hkeep b _ hb ?_ ?_⟩, ⟨?_, ⟨_, hbx1.set _, ?_, trivial⟩, hB.trans hBW, Nat.le_trans hsz hBW.size⟩⟩
  · rintro rfl
    have h9 : W.heap[w.heap.size + 1]? = _ := bS
    rw [h9] at hk; cases hk; cases ho
  · rcases hrow.2 with ⟨rfl, _⟩ | ⟨g0, cap0, cur0, rfl, _, hg0, _⟩
    · simp [Value.ownBlock]
    · intro e
      have : k = g0 := by simpa [Value.ownBlock] using e
      subst this
      rw [hg0] at hk; cases hk; cases ho
  · have hk2 : k < W.heap.size := by omega
    obtain ⟨o, ho⟩ : ∃ o, W.heap[k]? = some o := ⟨W.heap[k], Array.getElem?_eq_getElem hk2⟩
    exact (hkeep k o ho hX (fun e => by have := hrowlt k e.symm; omega)).trans ho.symm
  · rintro rfl
    have h9 : W.heap[w.heap.size + 1]? = _ := bS
    rw [h9] at hb
    simp at hb
  · intro e
    obtain ⟨c', fz, h9⟩ := row_type0 hrow _ e.symm
    rw [hb] at h9
    simp at h9
  · have h9 : W.heap[w.heap.size]? = _ := bT
    refine hkeep _ _ h9 (by omega) (fun e => ?_)
    have := hrowlt _ e.symm
    omega
  · rw [List.map_append, List.map_cons, List.map_nil, happ]
    have e2 : strV (tokWs T (pre.map (·.1)) ++ [s]) = strV (tokWs T (pre.map (·.1))) ++ [.string s] := by simp [strV]
    rw [e2, List.length_append]
    exact ownsRow_same hown (fun k hk => heap_setCell_other _ _ _ _ (fun e => hgne2 ((show w.heap.size + 1 = k from e.symm ▸ rfl).trans (show k = g by simpa [Value.ownBlock] using hk.symm))))
set_option maxRecDepth 100000 in
set_option maxHeartbeats 4000000 in
theorem words_walk (w : World) (h : TabIn w) (T : ByteArray) (hT : T.size ≤ 4096) : Calls Tryz.prog 25 #[.string T] w (WordsEnd w T) := by
  obtain ⟨i0, hi, hz0, hz1, hz2⟩ := info_parts strInfo
  have hTk := Lib.hid (fun (W : World) (hb : Below w.heap.size w W) => tokens_walk W (h.below hb) T)
  have hN := toks_len T
  clear h
  refine (callsIn_wide (n := 8)).1 ?_
  refine callsIn_of_wp_marks Tryz.func25 rfl trivial ?_ rfl
  simp only [Tryz.ntmps25, List.size_toArray, List.length_cons, List.length_nil, Nat.reduceAdd, Nat.reduceSub, Array.replicate_succ, Array.replicate_zero, List.push_toArray, List.append_toArray, List.nil_append, List.cons_append]
  gi_wp2_with (refine ⟨trivial, ?_⟩; gi_at_call 52; refine (callsIn_wide.2 (hTk.out _ (((Below.refl _ _).alloc (Nat.le_refl _) _).alloc (by simp) _))).mono ?_; rintro e w1 ⟨Bn, Bk, kb, rfl, hsq, hb⟩; have hsq' := Lib.hid hsq; have hb' := Lib.hid hb; clear hsq hb)
  have bT : Boxed w1 w.heap.size 9 (.string T) := (hb'.out.block _ (by simp; omega)).trans ((Boxed.new w 9 (.string T)).alloc _)
  have bR : Boxed w1 (w.heap.size + 1) 52 (.slice none 0 0) := (hb'.out.block _ (by simp)).trans (by
    have h1 := Boxed.new (w.alloc (.cells #[.string T] 9)) 52 (.slice none 0 0)
    rw [World.size_alloc] at h1
    exact h1)
  have hB1 : Below w.heap.size w w1 := (((Below.refl _ _).alloc (Nat.le_refl _) _).alloc (by simp) _).trans (hb'.out.mono (by simp; omega))
  have hz1' : w.heap.size + 1 < w1.heap.size := bR.lt
  have hX : Bn ≠ w.heap.size + 1 ∧ Bk ≠ w.heap.size + 1 ∧ kb ≠ w.heap.size + 1 := by
    have q1 := bR
    unfold Boxed at q1
    refine ⟨?_, ?_, ?_⟩
    · rintro rfl
      have := hsq'.out.text
      simp [World.cell?, q1] at this
    · rintro rfl
      have := hsq'.out.known
      simp [World.cell?, q1] at this
    · rintro rfl
      obtain ⟨es, c, h1, _⟩ := hsq'.out.map
      rw [q1] at h1
      cases h1
  refine wpIn_rangeFunc_ownH rfl (by omega) (gf := 103) (lb := #[.pointer (some ⟨Bn, 0, none⟩), .pointer (some ⟨Bk, 0, none⟩)]) rfl trivial (enters_of Tryz.func103 (by kernel_rfl) rfl)
    (tokens_stops2 7 (by omega) (w.heap.size + 1) Bn Bk kb T (by omega) w1 hsq'.out w1 (Below.refl _ _) hX.1 hX.2.1 hX.2.2) keepTok2_t (keepTok2_b (Nat.le_refl _)) (Below.refl _ _) (fun _ => rfl)
    (WIn w w1 T)
    (fun _ _ _ => False)
    (win_own (by omega))
    (fun _ _ _ _ _ hs _ _ => hs)
    ⟨bT, ⟨_, bR, World.ownsRow_nil _ _ _ _, trivial⟩, hB1, Nat.le_refl _⟩
    (fun x a' W => ∃ Bx, w.heap.size + 1 < Bx ∧ W.heap[Bx]? = some (.cells x.1.cells 39 (0, 0)) ∧ ∃ s5 s6 s7 s8 s9, a' = { tmps := #[.string T, .pointer (some ⟨w.heap.size, 0, none⟩), .slice none 0 0, .pointer (some ⟨w.heap.size + 1, 0, none⟩), .pointer (some ⟨Bx, 0, none⟩), s5, s6, s7, s8, s9, .agg x.1.cells, undef, undef, undef, undef, undef, undef, undef, undef, undef, undef, undef, undef, undef], defers := [] })
    (fun x a' _ X Y row hs hg hr => by obtain ⟨Bx, h1, h2, h3⟩ := hs; exact ⟨Bx, h1, own4 Bx x.1.cells () X Y row h2 hg (fun r e => (hr r e).2), h3⟩)
    ?assign ?body ?done ?stop
  case assign =>
    rintro l pre ⟨⟨k, fr, ta, te⟩, hx⟩ W K ⟨hI1, ⟨v, hI2, hI3, _⟩, hI4, hI5⟩ hK
    simp only [Tok.cells] at hK ⊢
    gi_wp2
    exact hK _ _ ((KeepsOthers.alloc _ _).from _) (keepTok2_alloc hI5 _) ⟨hI1.alloc _, ⟨v, hI2.alloc _, hI3.alloc _, trivial⟩, hI4.alloc hI4.size _, by simp; omega⟩ ⟨W.heap.size, hI2.lt, heap_alloc_new _ _, _, _, _, _, _, rfl⟩
  case body =>
    rintro l pre ⟨⟨k, fr, ta, te⟩, hx⟩ a' W hl ⟨r, hr⟩ ⟨bT1, ⟨v, bS, hrow, _⟩, hB, hsz⟩ ⟨Bx, hBx, bX, s5, s6, s7, s8, s9, rfl⟩ hlt
    simp only [Tok.cells] at bX ⊢
    have hrg := tok_rng T _ hx
    simp only at hrg
    have cT := bT1.cell
    have cS := bS.cell
    have fS := bS.frozen
    have y : ∀ j (h : j < 4), W.cell? ⟨Bx, j, none⟩ = some (#[Value.int .i64 k, .int .i64 fr, .int .i64 ta, .int .i64 te][j]'h) := fun j h => by
      rw [cell_of_row _ _ _ _ _ _ bX]
      simp [h]
    have y0 := y 0 (by decide)
    have y2 := y 2 (by decide)
    have y3 := y 3 (by decide)
    simp only [List.getElem_toArray, List.getElem_cons_zero, List.getElem_cons_succ] at y0 y2 y3
    have happ := tokWs_app T (pre.map (·.1)) [⟨k, fr, ta, te⟩]
    have hlen : (tokWs T (pre.map (·.1))).length ≤ 5000 := by
      unfold tokWs
      rw [List.length_map]
      have := List.length_filter_le (fun t : Tok => t.kind != 0) (pre.map (·.1))
      rw [List.length_map] at this
      omega
    have hrow' := Lib.hid hrow
    have bS' := Lib.hid bS
    have bT' := Lib.hid bT1
    have bX' := Lib.hid bX
    have hB' := Lib.hid hB
    clear y bX hrow bS hB bT1
    by_cases hk : k = 0
    · subst hk
      have e1 : tokWs T [⟨0, fr, ta, te⟩] = [] := rfl
      rw [e1, List.append_nil] at happ
      gi_wp2
      exact ⟨(KeepsOthers.refl _).from _, ⟨KB.refl _ _ _, fun _ _ h _ => h⟩, ⟨bT'.out, ⟨v, bS'.out, by rw [List.map_append, List.map_cons, List.map_nil, happ]; exact hrow'.out, trivial⟩, hB'.out, hsz⟩⟩
    · have hki : ((k : Int) != 0) = true := by rw [bne_iff_ne]; omega
      have e1 : tokWs T [⟨k, fr, ta, te⟩] = [T.extract ta te] := by
        unfold tokWs
        rw [List.filter_cons_of_pos (by simpa using hk)]
        rfl
      rw [e1] at happ
      have q1 : ¬ (te : Int) < ta := by omega
      have q2 : ¬ (T.size : Int) < te := by omega
      gi_upto_region 7 with fail
      have hrowD : W.ownsRow w1.heap.size 9 1 v (tokWs T (pre.map (·.1))).length (strV (tokWs T (pre.map (·.1)))) := hrow'.out
      have hBw := hB'.out.size
      have hgne : some (w.heap.size + 1) ≠ v.ownBlock := Boxed.not_row bS'.out (by decide) hrowD
      have hrowlt : ∀ k, v.ownBlock = some k → w1.heap.size ≤ k := fun k e => (hrowD.lt k e).1
      have hTB := bT'.out.lt
      have hlt1 := bS'.out.lt
      have hltX := lt_of_block bX'.out
      have cSd : W.drew.cell? ⟨w.heap.size + 1, 0, none⟩ = some v := cS
      have hnT : W.heap.size ≠ w.heap.size := by omega
      refine wpIn_region_round_held (S := fun u => u.cell? ⟨w.heap.size, 0, none⟩ = some (.string T) ∧ u.cell? ⟨Bx, 2, none⟩ = some (.int .i64 ta) ∧ u.cell? ⟨Bx, 3, none⟩ = some (.int .i64 te)) (by kernel_rfl) (by rintro ⟨_, _, h⟩; exact h) (by kernel_rfl) ⟨cT, y2, y3⟩ (fun hHeld => ?_)
      refine wpAnyH_take (i := 1) (v := .string T) rfl (by kernel_rfl) (by kernel_rfl) (by kernel_rfl) (fun _ _ _ h => h) (Or.inl ⟨by rfl, by intro u hu; (try dsimp only at hu); go_simp⟩) hHeld ?_
      try simp only [Act.put, List.getElem_toArray, List.getElem_cons_zero, List.getElem_cons_succ, List.setIfInBounds_toArray, List.set_cons_zero, List.set_cons_succ]
      refine wpAnyH_take (i := 2) (v := .pointer (some ⟨Bx, 2, none⟩)) rfl (by kernel_rfl) (by kernel_rfl) (by kernel_rfl) (fun _ _ _ h => h) (Or.inl ⟨by rfl, by intro u hu; (try dsimp only at hu); go_simp⟩) hHeld ?_
      try simp only [Act.put, List.getElem_toArray, List.getElem_cons_zero, List.getElem_cons_succ, List.setIfInBounds_toArray, List.set_cons_zero, List.set_cons_succ]
      refine wpAnyH_take (i := 3) (v := .int .i64 ta) rfl (by kernel_rfl) (by kernel_rfl) (by kernel_rfl) (fun _ _ _ h => h) (Or.inl ⟨by rfl, by intro u hu; (try dsimp only at hu); go_simp⟩) hHeld ?_
      try simp only [Act.put, List.getElem_toArray, List.getElem_cons_zero, List.getElem_cons_succ, List.setIfInBounds_toArray, List.set_cons_zero, List.set_cons_succ]
      refine wpAnyH_take (i := 4) (v := .pointer (some ⟨Bx, 3, none⟩)) rfl (by kernel_rfl) (by kernel_rfl) (by kernel_rfl) (fun _ _ _ h => h) (Or.inl ⟨by rfl, by intro u hu; (try dsimp only at hu); go_simp⟩) hHeld ?_
      try simp only [Act.put, List.getElem_toArray, List.getElem_cons_zero, List.getElem_cons_succ, List.setIfInBounds_toArray, List.set_cons_zero, List.set_cons_succ]
      refine wpAnyH_take (i := 5) (v := .int .i64 te) rfl (by kernel_rfl) (by kernel_rfl) (by kernel_rfl) (fun _ _ _ h => h) (Or.inl ⟨by rfl, by intro u hu; (try dsimp only at hu); go_simp⟩) hHeld ?_
      try simp only [Act.put, List.getElem_toArray, List.getElem_cons_zero, List.getElem_cons_succ, List.setIfInBounds_toArray, List.set_cons_zero, List.set_cons_succ]
      refine wpAnyH_take (i := 6) (v := .string (T.extract ta te)) rfl (by kernel_rfl) (by kernel_rfl) (by kernel_rfl) (fun _ _ _ h => h) (Or.inl ⟨by rfl, by intro u hu; (try dsimp only at hu); go_simp⟩) hHeld ?_
      try simp only [Act.put, List.getElem_toArray, List.getElem_cons_zero, List.getElem_cons_succ, List.setIfInBounds_toArray, List.set_cons_zero, List.set_cons_succ]
      have hal : ∀ o, (W.alloc o).drew.cell? ⟨w.heap.size, 0, none⟩ = some (.string T) ∧ (W.alloc o).drew.cell? ⟨Bx, 2, none⟩ = some (.int .i64 ta) ∧ (W.alloc o).drew.cell? ⟨Bx, 3, none⟩ = some (.int .i64 te) := fun o =>
        ⟨(((Below.refl _ W).alloc (Nat.le_refl _) o).cell (p := ⟨w.heap.size, 0, none⟩) hTB).trans cT, (((Below.refl _ W).alloc (Nat.le_refl _) o).cell (p := ⟨Bx, 2, none⟩) hltX).trans y2, (((Below.refl _ W).alloc (Nat.le_refl _) o).cell (p := ⟨Bx, 3, none⟩) hltX).trans y3⟩
      have hal1 : ∀ o, (W.alloc o).drew.cell? ⟨w.heap.size + 1, 0, none⟩ = some v := fun o => (((Below.refl _ W).alloc (Nat.le_refl _) o).cell (p := ⟨w.heap.size + 1, 0, none⟩) hlt1).trans cS
      refine wpAnyH_ready (rs := [0, 7]) (by kernel_rfl) (by simp) ?_
      refine AllReadyH.cons rfl (fun K hK => ?_) (AllReadyH.cons rfl (fun K hK => ?_) AllReadyH.nil)
      · rw [if_pos (by rfl)]
        go_simp
        refine hK.out _ _ hHeld (fun hHeld => ?_)
        clear hK K
        try simp only [Act.put, List.getElem_toArray, List.getElem_cons_zero, List.getElem_cons_succ, List.setIfInBounds_toArray, List.set_cons_zero, List.set_cons_succ]
        refine wpAnyH_ready (rs := [7]) (by kernel_rfl) (by simp) ?_
        refine AllReadyH.cons rfl (fun K hK => ?_) AllReadyH.nil
        rw [if_pos (by rfl)]
        go_simp
        refine hK.out _ _ (hal _) (fun hHeld => ?_)
        clear hK K
        try simp only [Act.put, List.getElem_toArray, List.getElem_cons_zero, List.getElem_cons_succ, List.setIfInBounds_toArray, List.set_cons_zero, List.set_cons_succ]
        refine wpAnyH_ready (rs := [8]) (by kernel_rfl) (by simp) ?_
        refine AllReadyH.cons rfl (fun K hK => ?_) AllReadyH.nil
        rw [if_pos (by rfl)]
        refine wp_append_mine (.tmp 14) (.tmp 21) 52 rfl w1.heap.size 9 i0 _ 1 16 Tryz.underlying52 hi hz0 hz1 hz2 (by decide) v (tokWs T (pre.map (·.1))).length (strV (tokWs T (pre.map (·.1)))) rfl ((hrowD.alloc _).drew) ⟨W.heap.size, 0, none⟩ 1 1 [.string (T.extract ta te)] rfl rfl (by decide) (cells_new W #[.string (T.extract ta te)] 9) (by intro u hu; rw [List.mem_singleton.1 hu]; rfl) (by unfold maxLen; omega) (by omega) (by simp; omega) ?_
        intro g cap w9 hown hgrow hnew
        have hkW : ∀ k o, W.heap[k]? = some o → v.ownBlock ≠ some k → w9.heap[k]? = some o := fun k o hk h2 => (hgrow.block k (by have := lt_of_block hk; simp; omega) (fun e => h2 e.symm)).trans ((Below.heap_alloc _ _ _ (lt_of_block hk)).trans hk)
        have hnX : v.ownBlock ≠ some Bx := fun e => by
          obtain ⟨c, fz, h9⟩ := row_type0 hrowD _ e
          rw [bX'.out] at h9
          simp at h9
        have hnT2 : v.ownBlock ≠ some w.heap.size := fun e => by have := hrowlt _ e; omega
        have hbT9 := hkW _ _ bT'.out hnT2
        have hbS9 := hkW _ _ bS'.out (fun e => hgne e.symm)
        have hbX9 := hkW _ _ bX'.out hnX
        refine hK.out _ _ ⟨(cell_of_row _ _ _ _ _ _ hbT9).trans rfl, (cell_of_row _ _ _ _ _ _ hbX9).trans rfl, (cell_of_row _ _ _ _ _ _ hbX9).trans rfl⟩ (fun hHeld => ?_)
        clear hK K
        try simp only [Act.put, List.getElem_toArray, List.getElem_cons_zero, List.getElem_cons_succ, List.setIfInBounds_toArray, List.set_cons_zero, List.set_cons_succ]
        have c1 : w9.cell? ⟨w.heap.size + 1, 0, none⟩ = some v := (cell_of_row _ _ _ _ _ _ hbS9).trans rfl
        have f1 : w9.frozen? ⟨w.heap.size + 1, 0, none⟩ = false := by simp [World.frozen?, hbS9]
        have hbx1' : Hid (Boxed w9 (w.heap.size + 1) 52 v) := hbS9
        have hown' := Lib.hid hown
        have hgrow' := Lib.hid hgrow
        have hnew' := Lib.hid hnew
        clear hown hgrow hnew
        refine wpAnyH_ready (rs := [9]) (by kernel_rfl) (by simp) ?_
        refine AllReadyH.cons rfl (fun K hK => ?_) AllReadyH.nil
        rw [if_pos (by rfl)]
        go_simp
        have hkS : ∀ (x : Value) k o, w9.heap[k]? = some o → k ≠ w.heap.size + 1 → (w9.setCell ⟨w.heap.size + 1, 0, none⟩ x).heap[k]? = some o := fun x k o hk h3 => (heap_setCell_other _ _ _ _ (fun e => h3 e)).trans hk
        have hXne : Bx ≠ w.heap.size + 1 := by omega
        refine hK.out _ _ ⟨(cell_of_row _ _ _ _ _ _ (hkS _ _ _ hbT9 (by omega))).trans rfl, (cell_of_row _ _ _ _ _ _ (hkS _ _ _ hbX9 hXne)).trans rfl, (cell_of_row _ _ _ _ _ _ (hkS _ _ _ hbX9 hXne)).trans rfl⟩ (fun hHeld => ?_)
        clear hK K
        try simp only [Act.put, List.getElem_toArray, List.getElem_cons_zero, List.getElem_cons_succ, List.setIfInBounds_toArray, List.set_cons_zero, List.set_cons_succ]
        refine wpAnyH_done (by kernel_rfl) ?_ _
        clear hHeld
        exact words_round hBw hsz bT'.out bS'.out hrowD hB'.out happ hgrow'.out hnew'.out hown'.out hz1'
      · rw [if_pos (by rfl)]
        go_simp
        refine hK.out _ _ (hal _) (fun hHeld => ?_)
        clear hK K
        try simp only [Act.put, List.getElem_toArray, List.getElem_cons_zero, List.getElem_cons_succ, List.setIfInBounds_toArray, List.set_cons_zero, List.set_cons_succ]
        have hal2 := hal1 (.cells #[.string (T.extract ta te)] 9)
        refine wpAnyH_ready (rs := [0]) (by kernel_rfl) (by simp) ?_
        refine AllReadyH.cons rfl (fun K hK => ?_) AllReadyH.nil
        rw [if_pos (by rfl)]
        go_simp
        refine hK.out _ _ hHeld (fun hHeld => ?_)
        clear hK K
        try simp only [Act.put, List.getElem_toArray, List.getElem_cons_zero, List.getElem_cons_succ, List.setIfInBounds_toArray, List.set_cons_zero, List.set_cons_succ]
        refine wpAnyH_ready (rs := [8]) (by kernel_rfl) (by simp) ?_
        refine AllReadyH.cons rfl (fun K hK => ?_) AllReadyH.nil
        rw [if_pos (by rfl)]
        refine wp_append_mine (.tmp 14) (.tmp 21) 52 rfl w1.heap.size 9 i0 _ 1 16 Tryz.underlying52 hi hz0 hz1 hz2 (by decide) v (tokWs T (pre.map (·.1))).length (strV (tokWs T (pre.map (·.1)))) rfl ((hrowD.alloc _).drew) ⟨W.heap.size, 0, none⟩ 1 1 [.string (T.extract ta te)] rfl rfl (by decide) (cells_new W #[.string (T.extract ta te)] 9) (by intro u hu; rw [List.mem_singleton.1 hu]; rfl) (by unfold maxLen; omega) (by omega) (by simp; omega) ?_
        intro g cap w9 hown hgrow hnew
        have hkW : ∀ k o, W.heap[k]? = some o → v.ownBlock ≠ some k → w9.heap[k]? = some o := fun k o hk h2 => (hgrow.block k (by have := lt_of_block hk; simp; omega) (fun e => h2 e.symm)).trans ((Below.heap_alloc _ _ _ (lt_of_block hk)).trans hk)
        have hnX : v.ownBlock ≠ some Bx := fun e => by
          obtain ⟨c, fz, h9⟩ := row_type0 hrowD _ e
          rw [bX'.out] at h9
          simp at h9
        have hnT2 : v.ownBlock ≠ some w.heap.size := fun e => by have := hrowlt _ e; omega
        have hbT9 := hkW _ _ bT'.out hnT2
        have hbS9 := hkW _ _ bS'.out (fun e => hgne e.symm)
        have hbX9 := hkW _ _ bX'.out hnX
        refine hK.out _ _ ⟨(cell_of_row _ _ _ _ _ _ hbT9).trans rfl, (cell_of_row _ _ _ _ _ _ hbX9).trans rfl, (cell_of_row _ _ _ _ _ _ hbX9).trans rfl⟩ (fun hHeld => ?_)
        clear hK K
        try simp only [Act.put, List.getElem_toArray, List.getElem_cons_zero, List.getElem_cons_succ, List.setIfInBounds_toArray, List.set_cons_zero, List.set_cons_succ]
        have c1 : w9.cell? ⟨w.heap.size + 1, 0, none⟩ = some v := (cell_of_row _ _ _ _ _ _ hbS9).trans rfl
        have f1 : w9.frozen? ⟨w.heap.size + 1, 0, none⟩ = false := by simp [World.frozen?, hbS9]
        have hbx1' : Hid (Boxed w9 (w.heap.size + 1) 52 v) := hbS9
        have hown' := Lib.hid hown
        have hgrow' := Lib.hid hgrow
        have hnew' := Lib.hid hnew
        clear hown hgrow hnew
        refine wpAnyH_ready (rs := [9]) (by kernel_rfl) (by simp) ?_
        refine AllReadyH.cons rfl (fun K hK => ?_) AllReadyH.nil
        rw [if_pos (by rfl)]
        go_simp
        have hkS : ∀ (x : Value) k o, w9.heap[k]? = some o → k ≠ w.heap.size + 1 → (w9.setCell ⟨w.heap.size + 1, 0, none⟩ x).heap[k]? = some o := fun x k o hk h3 => (heap_setCell_other _ _ _ _ (fun e => h3 e)).trans hk
        have hXne : Bx ≠ w.heap.size + 1 := by omega
        refine hK.out _ _ ⟨(cell_of_row _ _ _ _ _ _ (hkS _ _ _ hbT9 (by omega))).trans rfl, (cell_of_row _ _ _ _ _ _ (hkS _ _ _ hbX9 hXne)).trans rfl, (cell_of_row _ _ _ _ _ _ (hkS _ _ _ hbX9 hXne)).trans rfl⟩ (fun hHeld => ?_)
        clear hK K
        try simp only [Act.put, List.getElem_toArray, List.getElem_cons_zero, List.getElem_cons_succ, List.setIfInBounds_toArray, List.set_cons_zero, List.set_cons_succ]
        refine wpAnyH_done (by kernel_rfl) ?_ _
        clear hHeld
        exact words_round hBw hsz bT'.out bS'.out hrowD hB'.out happ hgrow'.out hnew'.out hown'.out hz1'
  case done =>
    rintro D xs W hD hS ⟨_, ⟨v, bS, hrow, _⟩, hB, hsz⟩ hK
    have cS := bS.cell
    gi_wp2
    refine ⟨by simp, .inl ⟨_, _, rfl, run_takeDeferred hK, ?_⟩⟩
    refine ⟨_, results_tmp rfl _ _ _, v, rfl, ?_, hB.trans (belowK_b (w := w1) (by omega) W D _ _ hD hK rfl rfl)⟩
    rw [hS, tokWs_all] at hrow
    exact ownsRow_base (ownsRow_putObj hrow _ hK rfl) (by omega)
  case stop =>
    rintro D c pre W _ _ h _
    exact h.elim
end Go.Proofs.YthggagophcnkfaaGreatDoor.lx
namespace Go.Proofs.YthggagophcnkfaaGreatDoor.sb
open Go.Shelf
def lays169_ren : Go.Shelf.Ren := ⟨fun | 169 => 56 | n => n, fun | 70 => 93 | 9 => 9 | 0 => 0 | 72 => 95 | 37 => 51 | 127 => 130 | 3 => 3 | 5 => 5 | n => n, fun | n => n⟩
theorem lays169 : Go.Proofs.Lays.n169 Tryz.prog lays169_ren := {
  mixed := by kernel_rfl
  f169 := Tryz.func56.trans (congrArg some (by kernel_rfl))
  t0 := Tryz.underlying0
  a0 := Tryz.isAgg0
  z0 := Tryz.sizeOf0
  v0 := Tryz.zeroValue0
  t3 := Tryz.underlying3
  a3 := Tryz.isAgg3
  z3 := Tryz.sizeOf3
  v3 := Tryz.zeroValue3
  t9 := Tryz.underlying9
  a9 := Tryz.isAgg9
  z9 := Tryz.sizeOf9
  v9 := Tryz.zeroValue9
  t37 := Tryz.underlying51
  a37 := Tryz.isAgg51
  z37 := Tryz.sizeOf51
  v37 := Tryz.zeroValue51
  t70 := Tryz.underlying93
  a70 := Tryz.isAgg93
  z70 := Tryz.sizeOf93
  v70 := Tryz.zeroValue93
  t72 := Tryz.underlying95
  a72 := Tryz.isAgg95
  z72 := Tryz.sizeOf95
  v72 := Tryz.zeroValue95
  t127 := Tryz.underlying130
  a127 := Tryz.isAgg130
  z127 := Tryz.sizeOf130
  v127 := Tryz.zeroValue130 }
theorem Builder_Extra_169 : Builder.Extra Tryz.prog lays169_ren := {
  sizeBuilder := by kernel_rfl
  liesBuilder := by kernel_rfl
  t5 := Tryz.underlying5
  a5 := Tryz.isAgg5
  z5 := Tryz.sizeOf5
  v5 := Tryz.zeroValue5
  infoByte := by kernel_rfl
  cellsByte := by kernel_rfl
  sizeByte := by kernel_rfl
  neB5 := by decide }
open Go.RowKit in
theorem Builder_String_any (B b : Nat) (l : List UInt8) (w : World) (h : Lib.IsBuilder 95 5 B b (Lib.byteCells l) w) (hBw : B ≤ w.heap.size) :
    Calls Tryz.prog 56 #[.pointer (some ⟨b, 0, none⟩)] w fun e w' => e = .returned (.string ⟨l.toArray⟩) ∧ Below B w w' := Any.Builder_String_any lays169 Builder_Extra_169 B b l w h hBw
def lays193_ren : Go.Shelf.Ren := ⟨fun | 193 => 112 | n => n, fun | 31 => 52 | 9 => 9 | 4 => 4 | 3 => 3 | 0 => 0 | n => n, fun | n => n⟩
theorem lays193 : Go.Proofs.Lays.n193 Tryz.prog lays193_ren := {
  mixed := by kernel_rfl
  f193 := Tryz.func112.trans (congrArg some (by kernel_rfl))
  t0 := Tryz.underlying0
  a0 := Tryz.isAgg0
  z0 := Tryz.sizeOf0
  v0 := Tryz.zeroValue0
  t3 := Tryz.underlying3
  a3 := Tryz.isAgg3
  z3 := Tryz.sizeOf3
  v3 := Tryz.zeroValue3
  t4 := Tryz.underlying4
  a4 := Tryz.isAgg4
  z4 := Tryz.sizeOf4
  v4 := Tryz.zeroValue4
  t9 := Tryz.underlying9
  a9 := Tryz.isAgg9
  z9 := Tryz.sizeOf9
  v9 := Tryz.zeroValue9
  t31 := Tryz.underlying52
  a31 := Tryz.isAgg52
  z31 := Tryz.sizeOf52
  v31 := Tryz.zeroValue52 }
open Go.RowKit Go.Lib in
theorem slices_Equal_string (b1 o1 n c b2 o2 m d : Nat) (xs ys : List ByteArray) (w : World) (hx : n ≤ xs.length) (hy : m ≤ ys.length) (hbig : n ≤ 9223372036854775807) (hbig2 : m ≤ 9223372036854775807) (hc1 : ∀ j, j < xs.length → w.cell? ⟨b1, o1 + j, none⟩ = some (.string (xs.getD j ByteArray.empty))) (hc2 : ∀ j, j < ys.length → w.cell? ⟨b2, o2 + j, none⟩ = some (.string (ys.getD j ByteArray.empty))) :
    Calls Tryz.prog 112 #[.slice (some ⟨b1, o1, none⟩) n c, .slice (some ⟨b2, o2, none⟩) m d] w fun e w' => e = .returned (.bool (decide (xs.take n = ys.take m))) ∧ ∃ q, w' = w.drewN q := Any.slices_Equal_string lays193 b1 o1 n c b2 o2 m d xs ys w hx hy hbig hbig2 hc1 hc2
open Go.RowKit Go.Lib in
theorem slices_Equal_string_empty (a1 a2 : Option Addr) (c m d : Nat) (w : World) (hbig2 : m ≤ 9223372036854775807) :
    Calls Tryz.prog 112 #[.slice a1 0 c, .slice a2 m d] w fun e w' => e = .returned (.bool (decide (m = 0))) ∧ w' = w := Any.slices_Equal_string_empty lays193 a1 a2 c m d w hbig2


open Go.RowKit
theorem sizeBuilder : (Tryz.prog.info? 95).map (fun i => i.size) = some 2 := by kernel_rfl
theorem liesBuilder : liesAt Tryz.prog Tryz.prog.depth 95 (2 / Tryz.prog.cellsOf 95) 0 95 1 = true := by kernel_rfl
theorem byteInfo : (Tryz.prog.info? 5).map (fun i => (i.zero, i.size, i.bytes)) = some (some (.int .u8 0), 1, 1) := by kernel_rfl
set_option maxHeartbeats 1000000 in
set_option maxRecDepth 100000 in
theorem check_used (b : Nat) (w : World) (h0 : w.cell? ⟨b, 0, none⟩ = some (.pointer (some ⟨b, 0, none⟩))) :
    Calls Tryz.prog 113 #[.pointer (some ⟨b, 0, none⟩)] w fun e w' => e = .returned (.tuple #[]) ∧ w' = w := by
  obtain ⟨j, hj, _⟩ := Option.map_eq_some_iff.1 sizeBuilder
  have hE : ∀ w, (binOp .neq 93 (.pointer (some ⟨b, 0, none⟩)) (.pointer (some ⟨b, 0, none⟩))).run Tryz.prog w = .ok (.bool false) w := fun w => Lib.run_neq_ptr_same w _ Tryz.underlying93 hj
  go_enter Tryz.func113, Tryz.ntmps113
  go_wp2
  go_end0
  exact ⟨rfl, rfl⟩
set_option maxHeartbeats 1000000 in
set_option maxRecDepth 100000 in
theorem check_fresh (b : Nat) (w : World) (h0 : w.cell? ⟨b, 0, none⟩ = some (.pointer none)) (hsh : w.shape? b = some (95, 2)) (hfz : w.frozen? ⟨b, 0, none⟩ = false) :
    Calls Tryz.prog 113 #[.pointer (some ⟨b, 0, none⟩)] w fun e w' => e = .returned (.tuple #[]) ∧ w' = w.setCell ⟨b, 0, none⟩ (.pointer (some ⟨b, 0, none⟩)) := by
  obtain ⟨j, hj, hjs⟩ := Option.map_eq_some_iff.1 sizeBuilder
  have hE : ∀ w, (binOp .neq 93 (.pointer (some ⟨b, 0, none⟩)) (.pointer (some ⟨b, 0, none⟩))).run Tryz.prog w = .ok (.bool false) w := fun w => Lib.run_neq_ptr_same w _ Tryz.underlying93 hj
  go_enter Tryz.func113, Tryz.ntmps113
  go_wp2
  rw [Lib.run_to_unsafe w ⟨b, 0, none⟩ Tryz.underlying93 Tryz.underlying142 hj (by rw [hjs]; decide) hsh (Nat.zero_lt_succ 1)]
  simp only [Result.andThen]
  rw [Oper.upon_value]
  go_wp2
  rw [run_callFunc_extern Tryz.func148 (by kernel_rfl) (by kernel_rfl) (by kernel_rfl) (e := Extern.AbiNoEscape.same) (by kernel_rfl)]
  rw [Lib.run_noEscape]
  simp only [Result.andThen]
  rw [Oper.upon_value]
  go_wp2
  rw [Lib.run_from_unsafe w ⟨b, 0, none⟩ Tryz.underlying142 Tryz.underlying93 hj hsh liesBuilder]
  simp only [Result.andThen]
  rw [Oper.upon_value]
  go_wp2
  go_end0
  exact ⟨rfl, rfl⟩
theorem check_walk (B b : Nat) (bs : List Value) (w : World) (h : Lib.IsBuilder 95 5 B b bs w) :
    Calls Tryz.prog 113 #[.pointer (some ⟨b, 0, none⟩)] w fun e w' => e = .returned (.tuple #[]) ∧ (Lib.BuilderAt 95 5 B b (.pointer (some ⟨b, 0, none⟩)) bs w' ∧ Below B w w' ∧ Lib.OthersKept 5 (some b) w w') := by
  rcases h with h | h
  · refine (check_fresh b w h.cell0 h.shape h.frozen0).mono ?_
    rintro e w' ⟨rfl, rfl⟩
    exact ⟨rfl, h.used _, (Below.refl B w).setCell (p := ⟨b, 0, none⟩) h.1 _, (Lib.OthersKept.refl _ _ w).setCell ⟨b, 0, none⟩ rfl _⟩
  · refine (check_used b w h.cell0).mono ?_
    rintro e w' ⟨rfl, rfl⟩
    exact ⟨rfl, h, Below.refl B _, Lib.OthersKept.refl _ _ _⟩
set_option maxHeartbeats 2000000 in
set_option maxRecDepth 100000 in
theorem writeByte_walk (B b : Nat) (bs : List Value) (c : Int) (w : World) (h : Lib.IsBuilder 95 5 B b bs w) (hlen : bs.length + 1 ≤ 140737488355328) (hBw : B ≤ w.heap.size) :
    Calls Tryz.prog 54 #[.pointer (some ⟨b, 0, none⟩), .int .u8 c] w fun e w' => e = .returned .nilIface ∧ (Lib.BuilderAt 95 5 B b (.pointer (some ⟨b, 0, none⟩)) (bs ++ [.int .u8 c]) w' ∧ Below B w w' ∧ Lib.OthersKept 5 (some b) w w') := by
  obtain ⟨i0, hi, hz0, hz1, hz2⟩ := info_parts byteInfo
  go_enter Tryz.func54, Tryz.ntmps54
  go_wp2_with (go_at_call 113; refine (check_walk B b bs _ h).mono ?_)
  rintro e w1 ⟨rfl, h1, hb1, hk1⟩
  obtain ⟨hB, v, hbk, hown, hne⟩ := h1
  have c0 : w1.cell? ⟨b, 0, none⟩ = some (.pointer (some ⟨b, 0, none⟩)) := by rw [Lib.cell_of_heap hbk]; rfl
  have c1 : w1.cell? ⟨b, 1, none⟩ = some v := by rw [Lib.cell_of_heap hbk]; rfl
  go_wp2_with (at_builtin; refine wpList_append_own _ rfl _ _ 51 rfl B 5 i0 (.int .u8 0) 1 1 Tryz.underlying51 hi hz0 hz1 hz2 rfl (by decide) _ _ _ rfl (hown.alloc _) ⟨w1.heap.size, 0, none⟩ 1 1 [.int .u8 c] rfl rfl ?c1 ?c2 ?c3 ?c4 ?c5 ?_)
  case c1 =>
    intro j u hj
    match j, hj with
    | 0, hj => simp at hj; subst hj; simp [Addr.add]
  case c2 => intro u hu; simp at hu; subst hu; rfl
  case c3 => unfold maxLen; omega
  case c4 => omega
  case c5 => have := hb1.size; simp; omega
  intro v' w2 hown' hgrow _
  have hlt : b < w1.heap.size := by
    rcases Nat.lt_or_ge b w1.heap.size with h' | h'
    · exact h'
    · simp [Array.getElem?_eq_none h'] at hbk
  have hb2 : w2.heap[b]? = some (.cells #[.pointer (some ⟨b, 0, none⟩), v] 95 (0, 0)) := by
    rw [hgrow.block b (by simp; omega) (fun e => hne e.symm), Lib.alloc_old w1 _ b hlt]
    exact hbk
  have d0 : w2.cell? ⟨b, 0, none⟩ = some (.pointer (some ⟨b, 0, none⟩)) := by rw [Lib.cell_of_heap hb2]; rfl
  have d1 : w2.cell? ⟨b, 1, none⟩ = some v := by rw [Lib.cell_of_heap hb2]; rfl
  have f1 : w2.frozen? ⟨b, 1, none⟩ = false := Lib.frozen_of_heap hb2 1
  obtain ⟨g, cap, rfl⟩ : ∃ g cap, v' = .slice (some ⟨g, 0, none⟩) (bs.length + 1) cap := by
    rcases hown'.2 with ⟨_, h0⟩ | ⟨g, cap, cur, hv, _⟩
    · omega
    · exact ⟨g, cap, hv⟩
  go_wp2
  go_ret
  refine ⟨rfl, ?_, ?_, ?_⟩
  · exact Lib.BuilderAt.put (T := 95) (e := 5) hB hb2 (bs' := bs ++ [.int .u8 c]) (by simpa using hown') (by decide)
  · exact ((hb1.alloc (by have := hb1.size; omega) _).grown hgrow (by have := hb1.size; simp; omega) (fun k hk => (hown.lt k hk).1)).setCell (p := ⟨b, 1, none⟩) hB _
  · exact ((hk1.alloc _).grown hgrow (lx.row_type0 (hown.alloc _))).setCell ⟨b, 1, none⟩ rfl _
set_option maxHeartbeats 2000000 in
set_option maxRecDepth 100000 in
theorem writeString_walk (B b : Nat) (bs : List Value) (s : ByteArray) (w : World) (h : Lib.IsBuilder 95 5 B b bs w) (hlen : bs.length + s.size ≤ 140737488355328) (hBw : B ≤ w.heap.size) :
    Calls Tryz.prog 55 #[.pointer (some ⟨b, 0, none⟩), .string s] w fun e w' => e = .returned (.tuple #[.int .i64 s.size, .nilIface]) ∧ (Lib.BuilderAt 95 5 B b (.pointer (some ⟨b, 0, none⟩)) (bs ++ Lib.strCells s) w' ∧ Below B w w' ∧ Lib.OthersKept 5 (some b) w w') := by
  obtain ⟨i0, hi, hz0, hz1, hz2⟩ := info_parts byteInfo
  go_enter Tryz.func55, Tryz.ntmps55
  go_wp2_with (go_at_call 113; refine (check_walk B b bs _ h).mono ?_)
  rintro e w1 ⟨rfl, h1, hb1, hk1⟩
  obtain ⟨hB, v, hbk, hown, hne⟩ := h1
  have c0 : w1.cell? ⟨b, 0, none⟩ = some (.pointer (some ⟨b, 0, none⟩)) := by rw [Lib.cell_of_heap hbk]; rfl
  have c1 : w1.cell? ⟨b, 1, none⟩ = some v := by rw [Lib.cell_of_heap hbk]; rfl
  go_wp2_with (at_builtin; refine Lib.wpList_append_own_string _ rfl _ _ 51 9 rfl B 5 i0 Tryz.underlying51 Tryz.underlying9 hi hz0 hz1 hz2 _ _ _ rfl hown s rfl ?c3 ?c4 ?c5 ?_)
  case c3 => unfold maxLen; omega
  case c4 => omega
  case c5 => have := hb1.size; omega
  intro v' w2 hown' hgrow _
  have hlt : b < w1.heap.size := by
    rcases Nat.lt_or_ge b w1.heap.size with h' | h'
    · exact h'
    · simp [Array.getElem?_eq_none h'] at hbk
  have hb2 : w2.heap[b]? = some (.cells #[.pointer (some ⟨b, 0, none⟩), v] 95 (0, 0)) := by
    rw [hgrow.block b hlt (fun e => hne e.symm)]
    exact hbk
  have d0 : w2.cell? ⟨b, 0, none⟩ = some (.pointer (some ⟨b, 0, none⟩)) := by rw [Lib.cell_of_heap hb2]; rfl
  have d1 : w2.cell? ⟨b, 1, none⟩ = some v := by rw [Lib.cell_of_heap hb2]; rfl
  have f1 : w2.frozen? ⟨b, 1, none⟩ = false := Lib.frozen_of_heap hb2 1
  obtain ⟨ao, n', cap, rfl⟩ : ∃ ao n' cap, v' = .slice ao n' cap := by
    rcases hown'.2 with ⟨hv, _⟩ | ⟨g, cap, cur, hv, _⟩
    · exact ⟨_, _, _, hv⟩
    · exact ⟨_, _, _, hv⟩
  go_wp2
  go_ret2
  refine ⟨rfl, ?_, ?_, ?_⟩
  · exact Lib.BuilderAt.put (T := 95) (e := 5) hB hb2 (bs' := bs ++ Lib.strCells s) (by simpa [Lib.strCells_length] using hown') (by decide)
  · exact (hb1.grown hgrow (by have := hb1.size; omega) (fun k hk => (hown.lt k hk).1)).setCell (p := ⟨b, 1, none⟩) hB _
  · exact (hk1.grown hgrow (lx.row_type0 hown)).setCell ⟨b, 1, none⟩ rfl _
end Go.Proofs.YthggagophcnkfaaGreatDoor.sb
namespace Go.Proofs.YthggagophcnkfaaGreatDoor.lx
open Go.RowKit Go.Proofs.YthggagophcnkfaaGreatDoor.agg Go.Proofs.YthggagophcnkfaaGreatDoor.sx Go.Proofs.YthggagophcnkfaaGreatDoor.px
set_option linter.unusedSimpArgs false
set_option linter.unusedVariables false

theorem strV_len (l : List ByteArray) : (strV l).length = l.length := List.length_map _
/-- The cells of a row of strings. -/
theorem row_strs {w : World} {B : Nat} {v : Value} {ws : List ByteArray} (h : w.ownsRow B 9 1 v ws.length (strV ws)) : (ws = [] ∧ v = .slice none 0 0) ∨ ∃ g cap, v = .slice (some ⟨g, 0, none⟩) ws.length cap ∧ B ≤ g ∧ g < w.heap.size ∧ (∃ c, w.heap[g]? = some (.cells c 9 (0, 0))) ∧ ∀ j, (hj : j < ws.length) → w.cell? ⟨g, j, none⟩ = some (.string ws[j]) := by
  rcases h.2 with ⟨rfl, h0⟩ | ⟨g, cap, cur, rfl, hg, hh, _⟩
  · exact .inl ⟨List.eq_nil_of_length_eq_zero h0, rfl⟩
  · refine .inr ⟨g, cap, rfl, hg, lt_of_block hh, ⟨_, hh⟩, fun j hj => ?_⟩
    have := h.cells (g := g) rfl j (.string ws[j]) (by simp [strV, hj])
    simpa [Addr.add_lit] using this
theorem word_size {T : ByteArray} {t : Tk} (h : t ∈ wdsOf T) : t.word.size ≤ T.size := by
  have h2 : t ∈ (toks T).map (fun t => (⟨t.kind, T.extract t.at_ t.to⟩ : Tk)) := by rw [toks_wds]; exact List.mem_append_left _ h
  obtain ⟨x, _, rfl⟩ := List.mem_map.1 h2
  simp only [ByteArray.size_extract]
  omega
theorem wds_count (T : ByteArray) : (wdsOf T).length ≤ T.size + 1 := by
  have h := congrArg List.length (toks_wds T)
  rw [List.length_map, List.length_append] at h
  have := toks_len T
  simp at h
  omega
set_option maxRecDepth 100000 in
set_option maxHeartbeats 1000000 in
theorem separate_walk (w : World) (h : TabIn w) (a b : ByteArray) (hs : (a ++ b).size ≤ 4096) : Calls Tryz.prog 53 #[.string a, .string b] w fun e w' => e = .returned (.bool (sepB a b)) ∧ Below w.heap.size w w' := by
  have hW := Lib.hid (words_walk w h (a ++ b) hs)
  have hcnt := wds_count (a ++ b)
  have hsp : Hid (sepB a b = !decide (wordsOf (a ++ b) = [a, b])) := rfl
  have hlen : (wordsOf (a ++ b)).length ≤ 5000 := by
    unfold wordsOf
    rw [List.length_map]
    omega
  clear h
  obtain ⟨ws, hws⟩ : ∃ ws, wordsOf (a ++ b) = ws := ⟨_, rfl⟩
  unfold WordsEnd at hW
  rw [hws] at hsp hlen hW
  rw [hsp.out]
  have hsz : a.size + b.size ≤ 4096 := by rw [ByteArray.size_append] at hs; exact hs
  clear hs hsp hcnt
  go_enter Tryz.func53, Tryz.ntmps53
  go_wp2_with (first
    | (go_at_call 112; refine Hid.out ?_)
    | (go_at_call 25; refine hW.out.mono ?_; rintro e w1 ⟨v, rfl, hr, hb⟩; have hr' := Lib.hid hr; have hb' := Lib.hid hb; clear hr hb))
  refine Lib.hid ?_
  have hbA := hb'.out.alloc hb'.out.size (.cells #[.string a, .string b] 9)
  rcases row_strs hr'.out with ⟨rfl, rfl⟩ | ⟨g, cap, rfl, hg, hlt, _, hc⟩
  · refine (sb.slices_Equal_string_empty _ _ _ _ _ _ (by omega)).mono ?_
    rintro e _ ⟨rfl, rfl⟩
    go_wp2
    go_ret
    exact ⟨by simp, hbA⟩
  · refine (sb.slices_Equal_string g 0 ws.length cap w1.heap.size 0 2 2 ws [a, b] _ (Nat.le_refl _) (Nat.le_refl _) (by omega) (by omega) (fun j hj => ?_) (fun j hj => ?_)).mono ?_
    · have h1 := hc j hj
      rw [Nat.zero_add, List.getD_eq_getElem?_getD, List.getElem?_eq_getElem hj]
      exact ((Below.refl _ w1).alloc (Nat.le_refl _) _).cell (p := ⟨g, j, none⟩) hlt |>.trans h1
    · rw [Nat.zero_add]
      refine (cell_of_row _ _ _ _ _ _ (heap_alloc_new w1 _)).trans ?_
      match j, hj with
      | 0, _ => rfl
      | 1, _ => rfl
    rintro e _ ⟨rfl, q, rfl⟩
    go_wp2
    go_ret
    exact ⟨by simp, below_drewN hbA _⟩
/-- The builder where memory was only made. -/
theorem builder_below {B b : Nat} {bs : List Value} {w w' : World} (h : Lib.IsBuilder 95 5 B b bs w) (hb : Below w.heap.size w w') : Lib.IsBuilder 95 5 B b bs w' := by
  have hat : ∀ p, Lib.BuilderAt 95 5 B b p bs w → Lib.BuilderAt 95 5 B b p bs w' := by
    rintro p ⟨h1, v, h2, h3, h4⟩
    exact ⟨h1, v, (hb.block b (lt_of_block h2)).trans h2, ownsRow_same h3 (fun k hk => hb.block k (h3.lt k hk).2), h4⟩
  rcases h with h | h
  · exact .inl (hat _ h)
  · exact .inr (hat _ h)
theorem others_below {e : TypeId} {b : Option Nat} {w0 w w' : World} (h : Lib.OthersKept e b w0 w) (hb : Below w.heap.size w w') : Lib.OthersKept e b w0 w' := by
  intro k o hk h1 h2
  have h3 := h k o hk h1 h2
  exact (hb.block k (lt_of_block h3)).trans h3
theorem byteCells_app (a b : List UInt8) : Lib.byteCells (a ++ b) = Lib.byteCells a ++ Lib.byteCells b := by simp [Lib.byteCells]
theorem strCells_bytes (s : ByteArray) : Lib.strCells s = Lib.byteCells s.data.toList := rfl
/-- What is still to be written. -/
def glueFrom (ts : List Tk) (j : Nat) (la : ByteArray) : List UInt8 := if j = 0 then compactL ts else glue la (ts.drop j)
theorem glueFrom_step {ts : List Tk} {j : Nat} {la : ByteArray} (h : j < ts.length) : glueFrom ts j la = (if 0 < j ∧ sepB la ts[j].word = true then [32] else []) ++ (ts[j].word.data.toList ++ glueFrom ts (j + 1) ts[j].word) := by
  unfold glueFrom
  rw [if_neg (Nat.succ_ne_zero j)]
  by_cases h0 : j = 0
  · subst h0
    rw [if_pos rfl, if_neg (by simp)]
    cases ts with
    | nil => simp at h
    | cons t ts => rfl
  · rw [if_neg h0, List.drop_eq_getElem_cons h, glue]
    congr 1
    by_cases hs : sepB la ts[j].word = true
    · rw [if_pos hs, if_pos ⟨by omega, hs⟩]
    · rw [if_neg hs, if_neg (fun e => hs e.2)]
theorem glueFrom_end (ts : List Tk) (la : ByteArray) : glueFrom ts ts.length la = [] := by
  unfold glueFrom
  split
  · rename_i h
    rw [List.eq_nil_of_length_eq_zero h]
    rfl
  · rw [List.drop_length]
    rfl
set_option maxRecDepth 100000 in
set_option maxHeartbeats 4000000 in
theorem compact_walk (w : World) (h : TabIn w) (T : ByteArray) (hs : T.size ≤ 1000) : Calls Tryz.prog 26 #[.string T] w fun e w' => e = .returned (.string ⟨(compactL (wdsOf T)).toArray⟩) ∧ Below w.heap.size w w' := by
  have hb0 : Below w.heap.size w (w.alloc (.cells #[.pointer none, .slice none 0 0] 95)) := (Below.refl _ _).alloc (Nat.le_refl _) _
  have hW := Lib.hid (words_walk _ (h.below hb0) T (by omega))
  have hSp := Lib.hid (fun (W : World) (hb : Below w.heap.size w W) (a b : ByteArray) (hz : (a ++ b).size ≤ 4096) => separate_walk W (h.below hb) a b hz)
  have hcnt := wds_count T
  have hsz := Lib.hid (fun t (ht : t ∈ wdsOf T) => word_size ht)
  unfold WordsEnd wordsOf at hW
  simp only [List.length_map] at hW
  clear h
  generalize wdsOf T = ts at *
  have hb0' := Lib.hid hb0
  clear hb0
  go_enter Tryz.func26, Tryz.ntmps26
  go_wp2_with (go_at_call 25; refine hW.out.mono ?_; rintro e w1 ⟨v, rfl, hr, hb⟩; obtain ⟨ao, cap, rfl, _⟩ := own_shape hr; have hr' := Lib.hid hr; have hb' := Lib.hid hb; clear hr hb)
  have hB1 : Hid (Below w.heap.size w w1) := hb0'.out.trans (hb'.out.mono hb0'.out.size)
  have hbld : Hid (Lib.IsBuilder 95 5 w.heap.size w.heap.size (Lib.byteCells []) w1) := builder_below (w := w.alloc (.cells #[.pointer none, .slice none 0 0] 95)) (.inl ⟨Nat.le_refl _, _, heap_alloc_new _ _, World.ownsRow_nil _ _ _ _, by simp [Value.ownBlock]⟩) hb'.out
  have hc0 : ∀ j, (hj : j < ts.length) → ∃ g, ao = some ⟨g, 0, none⟩ ∧ w.heap.size < g ∧ (∃ c, w1.heap[g]? = some (.cells c 9 (0, 0))) ∧ w1.cell? ⟨g, j, none⟩ = some (.string ts[j].word) := by
    have hr2 := hr'.out
    rw [← List.length_map (f := Tk.word)] at hr2
    intro j hj
    rcases row_strs hr2 with ⟨h0, _⟩ | ⟨g, cap2, hv, hg, hlt, hty, hc⟩
    · have hl0 : ts.length = 0 := by have := congrArg List.length h0; simpa using this
      omega
    · injection hv with hv1 _ _
      refine ⟨g, hv1, by simp at hg; omega, hty, ?_⟩
      have := hc j (by simpa using hj)
      simpa using this
  have hc0' := Lib.hid hc0
  clear hc0 hr' hb' hW hb0'
  have hcl : ts.length ≤ 1001 := by omega
  go_loopw [4, 10] (fun la i wr => ∃ (j : Nat) (l : ByteArray) (acc : List UInt8), j ≤ ts.length ∧ la = .string l ∧ i = .int .i64 j ∧ l.size ≤ 1000 ∧ Hid (acc ++ glueFrom ts j l = compactL ts) ∧ acc.length ≤ 5000 * j ∧ Hid (Lib.IsBuilder 95 5 w.heap.size w.heap.size (Lib.byteCells acc) wr) ∧ Hid (Below w.heap.size w wr) ∧ Hid (Lib.OthersKept 5 (some w.heap.size) w1 wr)) (fun _ i _ => ts.length - (intOf i).toNat)
  case atStart => exact ⟨0, ⟨#[]⟩, [], Nat.zero_le _, rfl, rfl, by decide, Lib.hid rfl, by simp, hbld, hB1, Lib.hid (Lib.OthersKept.refl _ _ _)⟩
  case round =>
    clear hB1 hbld
    obtain ⟨j, l, acc, hj, rfl, rfl, hl, hgl, hacc, hbd, hbW, hok⟩ := hrel
    have hbz := Lib.hid hbW.out.size
    by_cases hlt : j < ts.length
    · obtain ⟨g, rfl, hgB, ⟨c, hty⟩, hcj⟩ := hc0'.out j hlt
      have hgr := hok.out g _ hty (by simp; omega) (by intro c' fz e; injection e with _ e2 _; exact absurd e2 (by decide))
      have hcr : wr.cell? ⟨g, j, none⟩ = some (.string ts[j].word) := (World.cell?_of_block (w := w1) (a := ⟨g, j, none⟩) (hgr.trans hty.symm)).trans hcj
      have hws : ts[j].word.size ≤ 1000 := Nat.le_trans (hsz.out _ (List.getElem_mem hlt)) hs
      have hstep := glueFrom_step (la := l) hlt
      have hsum : (l ++ ts[j].word).size ≤ 4096 := by rw [ByteArray.size_append]; omega
      have hSp1 := Lib.hid (hSp.out wr hbW.out l ts[j].word hsum)
      have hWS := Lib.hid (fun (W : World) (bs : List Value) (h : Lib.IsBuilder 95 5 w.heap.size w.heap.size bs W) (h2 : bs.length ≤ 100000000) (h3 : w.heap.size ≤ W.heap.size) => sb.writeString_walk w.heap.size w.heap.size bs ts[j].word W h (by omega) h3)
      have hWB := Lib.hid (fun (W : World) (h : Lib.IsBuilder 95 5 w.heap.size w.heap.size (Lib.byteCells acc) W) (h3 : w.heap.size ≤ W.heap.size) => sb.writeByte_walk w.heap.size w.heap.size (Lib.byteCells acc) 32 W h (by rw [Lib.byteCells_length]; omega) h3)
      have hgl' : Hid (acc ++ ((if 0 < j ∧ sepB l ts[j].word = true then [32] else []) ++ (ts[j].word.data.toList ++ glueFrom ts (j + 1) ts[j].word)) = compactL ts) := by
        unfold Hid
        rw [← hstep]
        exact hgl.out
      have hal : (Lib.byteCells acc).length = acc.length := Lib.byteCells_length acc
      have hwl : ts[j].word.data.toList.length = ts[j].word.size := rfl
      clear hcj hty hgr hstep hgl hsum
      generalize ts[j].word = s at *
      by_cases h0 : j = 0
      · subst h0
        have hgl2 : Hid (acc ++ s.data.toList ++ glueFrom ts (0 + 1) s = compactL ts) := by
          have h9 := hgl'.out
          rw [if_neg (by simp), List.nil_append, ← List.append_assoc] at h9
          exact h9
        clear hSp1 hWB hgl'
        go_wp2_with (go_at_call 55; refine (hWS.out _ _ hbd.out (by omega) hbz.out).mono ?_; rintro e w3 ⟨rfl, hd3, hb3, hk3⟩; have hd3' := Lib.hid hd3; have hb3' := Lib.hid hb3; have hk3' := Lib.hid hk3; clear hd3 hb3 hk3)
        go_roundw
        case rel => exact ⟨0 + 1, s, acc ++ s.data.toList, by omega, rfl, by go_num, hws, hgl2, by rw [List.length_append]; omega, Lib.hid (.inr (by rw [byteCells_app, ← strCells_bytes]; exact hd3'.out)), Lib.hid (hbW.out.trans hb3'.out), Lib.hid (hok.out.trans hk3'.out)⟩
        case measure => simp [intOf]; omega
      · have hj0 : decide (0 < (j : Int)) = true := decide_eq_true (by omega)
        cases hsb : sepB l s with
        | false =>
          have hgl2 : Hid (acc ++ s.data.toList ++ glueFrom ts (j + 1) s = compactL ts) := by
            have h9 := hgl'.out
            rw [if_neg (by rw [hsb]; simp), List.nil_append, ← List.append_assoc] at h9
            exact h9
          rw [hsb] at hSp1
          clear hWB hgl' hsb
          go_wp2_with (first
            | (go_at_call 53; refine hSp1.out.mono ?_; rintro e w2 ⟨rfl, hb2⟩; have hb2' := Lib.hid hb2; have hd2 := Lib.hid (builder_below hbd.out hb2); have hz2 := Lib.hid (Nat.le_trans hbz.out hb2.size); have hk2 := Lib.hid (others_below hok.out hb2); clear hb2)
            | (go_at_call 55; refine (hWS.out _ _ hd2.out (by omega) hz2.out).mono ?_; rintro e w3 ⟨rfl, hd3, hb3, hk3⟩; have hd3' := Lib.hid hd3; have hb3' := Lib.hid hb3; have hk3' := Lib.hid hk3; clear hd3 hb3 hk3))
          go_roundw
          case rel => exact ⟨j + 1, s, acc ++ s.data.toList, by omega, rfl, by go_num, hws, hgl2, by rw [List.length_append]; omega, Lib.hid (.inr (by rw [byteCells_app, ← strCells_bytes]; exact hd3'.out)), Lib.hid ((hbW.out.trans (hb2'.out.mono hbz.out)).trans hb3'.out), Lib.hid (hk2.out.trans hk3'.out)⟩
          case measure => simp [intOf]; omega
        | true =>
          have hgl2 : Hid (acc ++ [32] ++ s.data.toList ++ glueFrom ts (j + 1) s = compactL ts) := by
            have h9 := hgl'.out
            rw [if_pos ⟨by omega, hsb⟩, ← List.append_assoc, ← List.append_assoc] at h9
            exact h9
          rw [hsb] at hSp1
          clear hgl' hsb
          have hal2 : (Lib.byteCells acc ++ [Value.int .u8 32]).length ≤ 100000000 := by rw [List.length_append, hal]; simp; omega
          go_wp2_with (first
            | (go_at_call 53; refine hSp1.out.mono ?_; rintro e w2 ⟨rfl, hb2⟩; have hb2' := Lib.hid hb2; have hd2 := Lib.hid (builder_below hbd.out hb2); have hz2 := Lib.hid (Nat.le_trans hbz.out hb2.size); have hk2 := Lib.hid (others_below hok.out hb2); clear hb2)
            | (go_at_call 54; refine (hWB.out _ hd2.out hz2.out).mono ?_; rintro e w5 ⟨rfl, hd5, hb5, hk5⟩; have hd5' := Lib.hid (Or.inr hd5 : Lib.IsBuilder 95 5 w.heap.size w.heap.size _ w5); have hb5' := Lib.hid hb5; have hk5' := Lib.hid hk5; have hz5 := Lib.hid (Nat.le_trans hz2.out hb5.size); clear hd5 hb5 hk5)
            | (go_at_call 55; refine (hWS.out _ _ hd5'.out hal2 hz5.out).mono ?_; rintro e w3 ⟨rfl, hd3, hb3, hk3⟩; have hd3' := Lib.hid hd3; have hb3' := Lib.hid hb3; have hk3' := Lib.hid hk3; clear hd3 hb3 hk3))
          go_roundw
          case rel => exact ⟨j + 1, s, acc ++ [32] ++ s.data.toList, by omega, rfl, by go_num, hws, hgl2, by rw [List.length_append, List.length_append]; simp only [List.length_cons, List.length_nil]; omega, Lib.hid (.inr (by rw [byteCells_app, byteCells_app, ← strCells_bytes]; exact hd3'.out)), Lib.hid (((hbW.out.trans (hb2'.out.mono hbz.out)).trans hb5'.out).trans hb3'.out), Lib.hid ((hk2.out.trans hk5'.out).trans hk3'.out)⟩
          case measure => simp [intOf]; omega
    · obtain rfl : j = ts.length := by omega
      have he : acc = compactL ts := by
        have h9 := hgl.out
        rw [glueFrom_end, List.append_nil] at h9
        exact h9
      have hst := Lib.hid (sb.Builder_String_any w.heap.size w.heap.size acc wr hbd.out hbz.out)
      rw [he] at hst
      go_wp2_with (go_at_call 56; refine hst.out.mono ?_; rintro e w9 ⟨rfl, hb9⟩; have hb9' := Lib.hid hb9; clear hb9)
      go_ret
      exact ⟨rfl, hbW.out.trans hb9'.out⟩
end Go.Proofs.YthggagophcnkfaaGreatDoor.lx
namespace Go.Proofs.YthggagophcnkfaaGreatDoor.px
open Go.RowKit Go.Proofs.YthggagophcnkfaaGreatDoor.agg Go.Proofs.YthggagophcnkfaaGreatDoor.sx Go.Proofs.YthggagophcnkfaaGreatDoor.lx
set_option linter.unusedSimpArgs false
set_option linter.unusedVariables false

/-- The length of words, side by side. -/
def wsum : List Tk → Nat
  | [] => 0
  | t :: ts => t.word.size + wsum ts
theorem wsum_app (a b : List Tk) : wsum (a ++ b) = wsum a + wsum b := by
  induction a with
  | nil => simp [wsum]
  | cons t a ih => rw [List.cons_append, wsum, wsum, ih, Nat.add_assoc]
theorem wsum_take (ts : List Tk) (j : Nat) : wsum (ts.take j) ≤ wsum ts := by
  have h := wsum_app (ts.take j) (ts.drop j)
  rw [List.take_append_drop] at h
  omega
theorem wds_sum : ∀ (n : Nat) (l : List UInt8), wsum (wds n l) ≤ l.length
  | 0, l => Nat.zero_le _
  | n + 1, l => by
    cases hd : l.drop (skipS false l) with
    | nil => rw [wds_nil hd]; exact Nat.zero_le _
    | cons c r =>
      rw [wds_cons hd, wsum]
      have hl := congrArg List.length hd
      rw [List.length_drop] at hl
      have h1 := wds_sum n ((c :: r).drop (tokB (c :: r)).2)
      have h2 := tokB_len (c :: r)
      rw [List.length_drop] at h1
      show ((c :: r).take (tokB (c :: r)).2).toArray.size + _ ≤ _
      rw [List.size_toArray, List.length_take]
      omega
theorem text_sum (T : ByteArray) : wsum (wdsOf T) ≤ T.size := wds_sum _ _
theorem glue_len : ∀ (ts : List Tk) (a : ByteArray), (glue a ts).length ≤ wsum ts + ts.length
  | [], a => Nat.zero_le _
  | t :: ts, a => by
    have h := glue_len ts t.word
    have hw : t.word.data.toList.length = t.word.size := rfl
    rw [glue, wsum, List.length_append, List.length_append, List.length_cons, hw]
    split
    · simp only [List.length_cons, List.length_nil]; omega
    · simp only [List.length_nil]; omega
theorem compact_len (ts : List Tk) : (compactL ts).length ≤ wsum ts + ts.length := by
  cases ts with
  | nil => exact Nat.zero_le _
  | cons t ts =>
    have h := glue_len ts t.word
    have hw : t.word.data.toList.length = t.word.size := rfl
    rw [compactL, wsum, List.length_append, List.length_cons, hw]
    omega
/-- Words behind blanks. -/
def spPre : List (List UInt8) → List Tk → List UInt8
  | b :: bs, t :: ts => b ++ (t.word.data.toList ++ spPre bs ts)
  | _, _ => []
theorem spPre_add : ∀ (bs : List (List UInt8)) (ts : List Tk) (b : List UInt8) (t : Tk), bs.length = ts.length → spPre (bs ++ [b]) (ts ++ [t]) = spPre bs ts ++ (b ++ t.word.data.toList)
  | [], [], b, t, _ => by simp [spPre]
  | [], t :: ts, _, _, h => by simp at h
  | b :: bs, [], _, _, h => by simp at h
  | b :: bs, t :: ts, b2, t2, h => by
    rw [List.cons_append, List.cons_append, spPre, spPre, spPre_add bs ts b2 t2 (by simpa using h)]
    simp only [List.append_assoc]
theorem spaced_pre : ∀ (bs : List (List UInt8)) (ts : List Tk), bs.length = ts.length → spaced bs ts = spPre bs ts ++ [35]
  | [], [], _ => rfl
  | [], t :: ts, h => by simp at h
  | b :: bs, [], h => by simp at h
  | b :: bs, t :: ts, h => by
    rw [spaced, spPre, spaced_pre bs ts (by simpa using h)]
    simp only [List.append_assoc]
/-- The four blanks. -/
def blanks4 : List ByteArray := [⟨#[32]⟩, ⟨#[10]⟩, ⟨#[9, 13, 10]⟩, ⟨#[32, 35, 32, 115, 111, 114, 116, 10]⟩]
theorem blanks_ok {k : Nat} (h : k < 4) : Blank (blanks4.getD k ⟨#[]⟩).data.toList ∧ (blanks4.getD k ⟨#[]⟩).size ≤ 8 := by
  match k, h with
  | 0, _ => exact ⟨blank_sp, by decide⟩
  | 1, _ => exact ⟨blank_nl, by decide⟩
  | 2, _ => exact ⟨blank_tab, by decide⟩
  | 3, _ => exact ⟨blank_com, by decide⟩
/-- A slice of bytes that came in. -/
def BytesU (w : World) (v : Value) : Prop :=
  ∃ (ao : Option Addr) (cap n : Nat) (zs : List Nat), v = .slice ao n cap ∧ n ≤ 9223372036854775807 ∧ (∀ i, i < n → ∃ b o, ao = some ⟨b, o, none⟩ ∧ b < w.heap.size ∧ zs.getD i 0 < 256 ∧ w.cell? ⟨b, o + i, none⟩ = some (.int .u8 (zs.getD i 0)))
theorem BytesU.below {w w' : World} {v : Value} (h : BytesU w v) (hb : Below w.heap.size w w') : BytesU w' v := by
  obtain ⟨ao, cap, n, zs, rfl, hn, hc⟩ := h
  refine ⟨ao, cap, n, zs, rfl, hn, fun i hi => ?_⟩
  obtain ⟨b, o, rfl, hB, h1, h2⟩ := hc i hi
  exact ⟨b, o, rfl, Nat.lt_of_lt_of_le hB hb.size, h1, (hb.cell (p := ⟨b, o + i, none⟩) hB).trans h2⟩
/-- The text behind j words. -/
structure SpAt (ts : List Tk) (j : Nat) (s : ByteArray) (bs : List (List UInt8)) : Prop where
  len : bs.length = j
  ok : ∀ b ∈ bs, Blank b
  text : s.data.toList = spPre bs (ts.take j)
  size : s.size ≤ 8 * j + wsum (ts.take j)
theorem SpAt.start (ts : List Tk) : SpAt ts 0 ⟨#[]⟩ [] := ⟨rfl, by simp, rfl, Nat.zero_le _⟩
theorem SpAt.next {ts : List Tk} {j : Nat} {s : ByteArray} {bs : List (List UInt8)} (h : SpAt ts j s bs) (hj : j < ts.length) {b : ByteArray} (hb : Blank b.data.toList) (h8 : b.size ≤ 8) : SpAt ts (j + 1) (s ++ (b ++ ts[j].word)) (bs ++ [b.data.toList]) := by
  have ht : ts.take (j + 1) = ts.take j ++ [ts[j]] := by rw [List.take_append_getElem hj]
  refine ⟨by rw [List.length_append, h.len]; rfl, fun x hx => ?_, ?_, ?_⟩
  · rcases List.mem_append.1 hx with hx | hx
    · exact h.ok x hx
    · rw [List.mem_singleton.1 hx]
      exact hb
  · rw [ht, spPre_add _ _ _ _ (by rw [h.len, List.length_take]; omega)]
    rw [← h.text]
    simp
  · rw [ht, wsum_app, ByteArray.size_append, ByteArray.size_append]
    have := h.size
    simp only [wsum]
    omega
theorem SpAt.done {ts : List Tk} {s : ByteArray} {bs : List (List UInt8)} (h : SpAt ts ts.length s bs) : (s ++ ⟨#[35]⟩).data.toList = spaced bs ts ∧ (s ++ ⟨#[35]⟩).size ≤ 8 * ts.length + wsum ts + 1 := by
  have h1 := h.text
  have h2 := h.size
  rw [List.take_length] at h1 h2
  refine ⟨?_, ?_⟩
  · rw [spaced_pre _ _ h.len, ← h1]
    simp
  · rw [ByteArray.size_append]
    show s.size + 1 ≤ _
    omega
end Go.Proofs.YthggagophcnkfaaGreatDoor.px
