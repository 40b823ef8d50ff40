/- The walk of the stable sort of a slice of diagnostics. The walk of the parser's diagnostics, sorted. -/
import Derived.Test.YthggagophcnkfaaGreatDoorSortG
namespace Go.Proofs.YthggagophcnkfaaGreatDoor.so
open Go.RowKit Go.Proofs.YthggagophcnkfaaGreatDoor.agg Go.Proofs.YthggagophcnkfaaGreatDoor.sx Go.Proofs.YthggagophcnkfaaGreatDoor.px Go.Proofs.YthggagophcnkfaaGreatDoor.lx
set_option linter.unusedSimpArgs false
set_option linter.unusedVariables false
def ChAll (s : Nat) (S : List (List Dg)) : Prop := ∀ c ∈ S, c.length = s ∧ Srt c
theorem ChAll.nil (s : Nat) : ChAll s [] := by simp [ChAll]
theorem ChAll.snoc {s : Nat} {S : List (List Dg)} (h : ChAll s S) {c : List Dg} (h1 : c.length = s) (h2 : Srt c) : ChAll s (S ++ [c]) := fun d hd => by
 rcases List.mem_append.1 hd with hd | hd
 ·exact h d hd
 ·obtain rfl := List.mem_singleton.1 hd
  exact ⟨h1, h2⟩
theorem ChAll.tail {s : Nat} {c : List Dg} {S : List (List Dg)} (h : ChAll s (c :: S)) : ChAll s S := fun d hd => h d (List.mem_cons_of_mem _ hd)
structure StSt (L0 : List Dg) (N : Nat) (w : World) (g cap : Nat) (wr : World) (l : List Dg) : Prop where
 arr : ArrIn wr g cap l
 len : l.length = N
 like : Like L0 l
 kept : Kept (gfoot g) w wr
theorem StSt.ok {L0 : List Dg} {N : Nat} {w : World} {g cap : Nat} {wr : World} {l : List Dg} (h : StSt L0 N w g cap wr l) (hok : OkD L0) : OkD l := hok.perm (fun d hd => h.like.symm.mem hd)
theorem StSt.ins {L0 : List Dg} {N : Nat} {w : World} {g cap : Nat} {wr w2 : World} {X Z Y l' : List Dg} (h : StSt L0 N w g cap wr (X ++ (Z ++ Y))) (h1 : InsEnd X Z Y l') (h2 : ArrIn w2 g cap l') (h3 : Kept (gfoot g) wr w2) : ∃ Z', Srt Z' ∧ Z'.length = Z.length ∧ StSt L0 N w g cap w2 (X ++ (Z' ++ Y)) := by
 obtain ⟨Z', rfl, s, k, e⟩ := h1
 exact ⟨Z', s, e, h2, by rw [← h.len]; simp [e], h.like.trans ((Like.refl X).app (k.app (Like.refl Y))), h.kept.trans h3⟩
theorem StSt.mrg {L0 : List Dg} {N : Nat} {w : World} {g cap : Nat} {wr w2 : World} {X U V Y l' : List Dg} (h : StSt L0 N w g cap wr (X ++ (U ++ (V ++ Y)))) (h1 : MrgEnd X U V Y l') (h2 : ArrIn w2 g cap l') (h3 : Kept (gfoot g) wr w2) : ∃ Z', Srt Z' ∧ Z'.length = U.length + V.length ∧ StSt L0 N w g cap w2 (X ++ (Z' ++ Y)) := by
 obtain ⟨Z', rfl, s, k, e⟩ := h1
 refine ⟨Z', s, e, h2, by rw [← h.len]; simp [e]; omega, h.like.trans ((Like.refl X).app ?_), h.kept.trans h3⟩
 rw [← List.append_assoc]
 exact k.app (Like.refl Y)
set_option maxRecDepth 100000 in
set_option maxHeartbeats 8000000 in
theorem stable_walk {w : World} {g cap : Nat} (L0 : List Dg) {N : Nat} (hA : ArrIn w g cap L0) (hN : L0.length = N) (hn : N ≤ 100000) (hok : OkD L0) :
 Calls Tryz.prog 131 #[.slice (some ⟨g, 0, none⟩) N cap, .int .i64 N, .func (.func 76) #[] #[]] w (ArrEnd w g cap (fun l' => l' = sortD L0)) := by
 have hok' := Lib.hid hok
 have hst : Hid (StSt L0 N w g cap w L0) := ⟨hA, hN, .refl _, .refl _ _⟩
 clear hA hN hok
 go_enter Tryz.func131, Tryz.ntmps131
 go_wp2_with fail
 go_loopw [7, 8] (fun s7 s8 wr => ∃ (S : List (List Dg)) (R : List Dg) (k : Nat), s7 = .int .i64 k ∧ s8 = .int .i64 ((k : Int) + 20) ∧ k ≤ N ∧ Hid (S.flatten.length = k ∧ ChAll 20 S) ∧ Hid (k + R.length = N) ∧ Hid (StSt L0 N w g cap wr (S.flatten ++ (R ++ [])))) (fun s7 s8 wr => N - (intOf s7).toNat)
 case atStart => exact ⟨[], L0, 0, rfl, rfl, Nat.zero_le _, ⟨rfl, ChAll.nil _⟩, by have := hst.out.len; exact Lib.hid (by omega), by rw [List.append_nil]; exact hst⟩
 case round =>
  obtain ⟨S, R, k, rfl, rfl, hkN, hS, hR, hT⟩ := hrel
  by_cases hlt : (k : Int) + 20 ≤ N
  ·obtain ⟨Z, Y, hRe, hZ⟩ : ∃ Z Y, R = Z ++ Y ∧ Z.length = 20 := ⟨R.take 20, R.drop 20, (List.take_append_drop _ _).symm, by rw [List.length_take]; have := hR.out; omega⟩
   subst hRe
   have hT2 : Hid (StSt L0 N w g cap wr (S.flatten ++ (Z ++ (Y ++ [])))) := by
    have := hT.out
    rw [List.append_assoc] at this
    exact this
   have hC := Lib.hid (insert_walk (w := wr) (g := g) (cap := cap) S.flatten Z (Y ++ []) hT2.out.arr hT2.out.len hn (hT2.out.ok hok'.out) (a := k) (b := (k : Int) + 20) (by rw [hS.out.1]) (by rw [hS.out.1, hZ]; rfl))
   have hnx := Lib.hid (fun (l' : List Dg) (w2 : World) (q0 : InsEnd S.flatten Z (Y ++ []) l') (q1 : ArrIn w2 g cap l') (q2 : Kept (gfoot g) wr w2) => (show ∃ (S2 : List (List Dg)) (R2 : List Dg), Hid (S2.flatten.length = k + 20 ∧ ChAll 20 S2) ∧ Hid (k + 20 + R2.length = N) ∧ Hid (StSt L0 N w g cap w2 (S2.flatten ++ (R2 ++ []))) from by
    obtain ⟨Z', z1, z2, z3⟩ := hT2.out.ins q0 q1 q2
    refine ⟨S ++ [Z'], Y, ⟨by simp [hS.out.1, z2, hZ], hS.out.2.snoc (by rw [z2, hZ]) z1⟩, ?_, Lib.hid (by simpa using z3)⟩
    have := hR.out
    simp only [List.length_append, hZ] at this
    unfold Hid
    omega))
   have hZ' := Lib.hid hZ
   clear hZ
   go_wp2_with (go_at_call 157; refine hC.out.mono ?_; rintro e w2 ⟨l', rfl, q0, q1, q2⟩; obtain ⟨S2, R2, n1, n2, n3⟩ := hnx.out _ _ q0 q1 q2; clear q0 q1 q2)
   go_roundw
   case rel => exact ⟨S2, R2, k + 20, by go_num, by go_num, by omega, n1, n2, n3⟩
   case measure => simp [intOf]; omega
  ·have hC := Lib.hid (insert_walk (w := wr) (g := g) (cap := cap) S.flatten R [] hT.out.arr hT.out.len hn (hT.out.ok hok'.out) (a := k) (b := N) (by rw [hS.out.1]) (by rw [hS.out.1]; have := hR.out; omega))
   have hnx := Lib.hid (fun (l' : List Dg) (w2 : World) (q0 : InsEnd S.flatten R [] l') (q1 : ArrIn w2 g cap l') (q2 : Kept (gfoot g) wr w2) => (show ∃ (T : List Dg), Hid (Srt T ∧ T.length < 20) ∧ Hid (ChAll 20 S) ∧ Hid (StSt L0 N w g cap w2 (S.flatten ++ T)) from by
    obtain ⟨Z', z1, z2, z3⟩ := hT.out.ins q0 q1 q2
    refine ⟨Z', ⟨z1, by have := hR.out; omega⟩, hS.out.2, Lib.hid (by simpa using z3)⟩))
   go_wp2_with (go_at_call 157; refine hC.out.mono ?_; rintro e w2 ⟨l', rfl, q0, q1, q2⟩; obtain ⟨T, n1, n2, n3⟩ := hnx.out _ _ q0 q1 q2; clear q0 q1 q2)
   go_loopw [6] (fun s6 wr => ∃ (s : Nat) (S : List (List Dg)) (T : List Dg), s6 = .int .i64 s ∧ 20 ≤ s ∧ s ≤ 2 * N + 20 ∧ Hid (Srt T ∧ T.length < s) ∧ Hid (ChAll s S) ∧ Hid (StSt L0 N w g cap wr (S.flatten ++ T))) (fun s6 wr => 2 * N + 20 - (intOf s6).toNat)
   case atStart => exact ⟨20, S, T, rfl, Nat.le_refl _, by omega, n1, n2, n3⟩
   case round =>
    clear hnx hC n1 n2 n3 hT hS hR hst
    obtain ⟨s, S, T, rfl, h20, hs2, hTT, hSS, hT⟩ := hrel
    by_cases hsn : s < N
    ·go_wp2_with fail
     go_loopw [7, 8] (fun s7 s8 wr => ∃ (P Q : List (List Dg)) (k : Nat), s7 = .int .i64 k ∧ s8 = .int .i64 ((k : Int) + 2 * s) ∧ k ≤ N ∧ Hid (P.flatten.length = k ∧ ChAll (2 * s) P ∧ ChAll s Q) ∧ Hid (k + Q.flatten.length + T.length = N) ∧ Hid (StSt L0 N w g cap wr (P.flatten ++ (Q.flatten ++ T)))) (fun s7 s8 wr => N - (intOf s7).toNat)
     case atStart => exact ⟨[], S, 0, rfl, by simp, Nat.zero_le _, ⟨rfl, ChAll.nil _, hSS.out⟩, by have := hT.out.len; exact Lib.hid (by simpa using this), hT⟩
     case round =>
      obtain ⟨P, Q, k, rfl, rfl, hkN, hP, hL, hU⟩ := hrel
      by_cases h2 : (k : Int) + 2 * s ≤ N
      ·obtain ⟨c1, c2, Q', rfl⟩ : ∃ c1 c2 Q', Q = c1 :: c2 :: Q' := by
        match Q, hP, hL with
        | [], _, hL => exfalso; have := hL.out; have := hTT.out.2; simp only [List.flatten_nil, List.length_nil] at *; omega
        | [c], hP, hL => exfalso; have := hL.out; have := hTT.out.2; have := (hP.out.2.2 c (by simp)).1; simp only [List.flatten_cons, List.flatten_nil, List.append_nil] at *; omega
        | c1 :: c2 :: Q', _, _ => exact ⟨_, _, _, rfl⟩
       obtain ⟨e1, s1⟩ := hP.out.2.2 c1 (by simp)
       obtain ⟨e2, s2⟩ := hP.out.2.2 c2 (by simp)
       have hU2 : Hid (StSt L0 N w g cap wr (P.flatten ++ (c1 ++ (c2 ++ (Q'.flatten ++ T))))) := by
        have := hU.out
        unfold Hid
        simpa using this
       have hC := Lib.hid (merge_ok _ wr g cap P.flatten c1 c2 (Q'.flatten ++ T) N (Nat.le_refl _) (by omega) (by omega) hU2.out.arr hU2.out.len hn (hU2.out.ok hok'.out) s1 s2 k ((k : Int) + s) ((k : Int) + 2 * s) (by rw [hP.out.1]) (by rw [hP.out.1, e1]; rfl) (by rw [hP.out.1, e1, e2]; omega))
       have hnx := Lib.hid (fun (l' : List Dg) (w2 : World) (q0 : MrgEnd P.flatten c1 c2 (Q'.flatten ++ T) l') (q1 : ArrIn w2 g cap l') (q2 : Kept (gfoot g) wr w2) => (show ∃ (P2 : List (List Dg)), Hid (P2.flatten.length = k + 2 * s ∧ ChAll (2 * s) P2 ∧ ChAll s Q') ∧ Hid (k + 2 * s + Q'.flatten.length + T.length = N) ∧ Hid (StSt L0 N w g cap w2 (P2.flatten ++ (Q'.flatten ++ T))) from by
        obtain ⟨Z', z1, z2, z3⟩ := hU2.out.mrg q0 q1 q2
        refine ⟨P ++ [Z'], ⟨by simp [hP.out.1, z2, e1, e2]; omega, hP.out.2.1.snoc (by omega) z1, hP.out.2.2.tail.tail⟩, ?_, Lib.hid (by simpa using z3)⟩
        have := hL.out
        simp only [List.flatten_cons, List.length_append, e1, e2] at this
        unfold Hid
        omega))
       clear e1 e2 s1 s2
       go_wp2_with (go_at_call 158; refine hC.out.mono ?_; rintro e w2 ⟨l', rfl, q0, q1, q2⟩; obtain ⟨P2, n1, n2, n3⟩ := hnx.out _ _ q0 q1 q2; clear q0 q1 q2)
       go_roundw
       case rel => exact ⟨P2, Q', k + 2 * s, by go_num, by go_num, by omega, n1, n2, n3⟩
       case measure => simp [intOf]; omega
      ·by_cases h3 : (k : Int) + s < N
       ·obtain ⟨c, rfl⟩ : ∃ c, Q = [c] := by
         match Q, hP, hL with
         | [], _, hL => exfalso; have := hL.out; have := hTT.out.2; simp only [List.flatten_nil, List.length_nil] at *; omega
         | [c], _, _ => exact ⟨_, rfl⟩
         | c1 :: c2 :: Q', hP, hL => exfalso; have := hL.out; have := (hP.out.2.2 c1 (by simp)).1; have := (hP.out.2.2 c2 (by simp)).1; simp only [List.flatten_cons, List.length_append] at *; omega
        obtain ⟨e1, s1⟩ := hP.out.2.2 c (by simp)
        have hTl : Hid (k + s + T.length = N) := by
         have := hL.out
         simp only [List.flatten_cons, List.flatten_nil, List.append_nil, e1] at this
         exact this
        have hU2 : Hid (StSt L0 N w g cap wr (P.flatten ++ (c ++ (T ++ [])))) := by
         have := hU.out
         unfold Hid
         simpa using this
        have hC := Lib.hid (merge_ok _ wr g cap P.flatten c T [] N (Nat.le_refl _) (by omega) (by have := hTl.out; omega) hU2.out.arr hU2.out.len hn (hU2.out.ok hok'.out) s1 hTT.out.1 k ((k : Int) + s) N (by rw [hP.out.1]) (by rw [hP.out.1, e1]; rfl) (by rw [hP.out.1, e1]; have := hTl.out; omega))
        have hnx := Lib.hid (fun (l' : List Dg) (w2 : World) (q0 : MrgEnd P.flatten c T [] l') (q1 : ArrIn w2 g cap l') (q2 : Kept (gfoot g) wr w2) => (show ∃ (T2 : List Dg), Hid (Srt T2 ∧ T2.length < 2 * s) ∧ Hid (ChAll (2 * s) P) ∧ Hid (StSt L0 N w g cap w2 (P.flatten ++ T2)) from by
         obtain ⟨Z', z1, z2, z3⟩ := hU2.out.mrg q0 q1 q2
         exact ⟨Z', ⟨z1, by have := hTT.out.2; omega⟩, hP.out.2.1, Lib.hid (by simpa using z3)⟩))
        clear e1 s1
        go_wp2_with (go_at_call 158; refine hC.out.mono ?_; rintro e w2 ⟨l', rfl, q0, q1, q2⟩; obtain ⟨T2, n1, n2, n3⟩ := hnx.out _ _ q0 q1 q2; clear q0 q1 q2)
        go_roundw
        case rel => exact ⟨2 * s, P, T2, by congr 1; omega, by omega, by omega, n1, n2, n3⟩
        case measure => simp [intOf]; omega
       ·obtain ⟨T2, n1, n2, n3⟩ : ∃ (T2 : List Dg), Hid (Srt T2 ∧ T2.length < 2 * s) ∧ Hid (ChAll (2 * s) P) ∧ Hid (StSt L0 N w g cap wr (P.flatten ++ T2)) := by
         match Q, hP, hL, hU with
         | [], hP, hL, hU => exact ⟨T, ⟨hTT.out.1, by have := hTT.out.2; omega⟩, hP.out.2.1, by have := hU.out; unfold Hid; simpa using this⟩
         | [c], hP, hL, hU =>
          obtain ⟨e1, s1⟩ := hP.out.2.2 c (by simp)
          have hl := hL.out
          simp only [List.flatten_cons, List.flatten_nil, List.append_nil] at hl
          have : T = [] := List.eq_nil_of_length_eq_zero (by omega)
          subst this
          exact ⟨c, ⟨s1, by omega⟩, hP.out.2.1, by have := hU.out; unfold Hid; simpa using this⟩
         | c1 :: c2 :: Q', hP, hL, hU => exfalso; have := hL.out; have := (hP.out.2.2 c1 (by simp)).1; have := (hP.out.2.2 c2 (by simp)).1; simp only [List.flatten_cons, List.length_append] at *; omega
        go_wp2_with fail
        go_roundw
        case rel => exact ⟨2 * s, P, T2, by congr 1; omega, by omega, by omega, n1, n2, n3⟩
        case measure => simp [intOf]; omega
    ·have hfin : Hid (S.flatten ++ T = sortD L0) := by
      refine sortD_unique ?_ hT.out.like
      have hl := hT.out.len
      match S, hSS, hl with
      | [], _, _ => simpa using hTT.out.1
      | [c], hSS, hl =>
       obtain ⟨e1, s1⟩ := hSS.out c (by simp)
       simp only [List.flatten_cons, List.flatten_nil, List.append_nil, List.length_append] at hl
       have : T = [] := List.eq_nil_of_length_eq_zero (by omega)
       subst this
       simpa using s1
      | c1 :: c2 :: Q', hSS, hl => exfalso; have := (hSS.out c1 (by simp)).1; have := (hSS.out c2 (by simp)).1; simp only [List.flatten_cons, List.length_append] at *; omega
     go_wp2_with fail
     go_end0
     exact ⟨_, rfl, hfin.out, hT.out.arr, hT.out.kept⟩
end Go.Proofs.YthggagophcnkfaaGreatDoor.so
namespace Go.Proofs.YthggagophcnkfaaGreatDoor.so
open Go.RowKit Go.Proofs.YthggagophcnkfaaGreatDoor.agg Go.Proofs.YthggagophcnkfaaGreatDoor.sx Go.Proofs.YthggagophcnkfaaGreatDoor.px Go.Proofs.YthggagophcnkfaaGreatDoor.lx
set_option linter.unusedSimpArgs false
set_option linter.unusedVariables false
theorem insert_nil (w : World) : Calls Tryz.prog 157 #[.slice none 0 0, .int .i64 0, .int .i64 0, .func (.func 76) #[] #[]] w (fun e w' => e = .returned (.tuple #[]) ∧ w' = w) := by
 go_enter Tryz.func157, Tryz.ntmps157
 go_wp2_with fail
 go_loopw [8] (fun s8 wr => s8 = .int .i64 1 ∧ wr = w) (fun s8 wr => 0)
 case atStart => exact ⟨rfl, rfl⟩
 case round =>
  obtain ⟨rfl, rfl⟩ := hrel
  go_wp2_with fail
  go_end0
  exact ⟨rfl, rfl⟩
theorem stable_nil (w : World) : Calls Tryz.prog 131 #[.slice none 0 0, .int .i64 0, .func (.func 76) #[] #[]] w (fun e w' => e = .returned (.tuple #[]) ∧ w' = w) := by
 go_enter Tryz.func131, Tryz.ntmps131
 go_wp2_with fail
 go_loopw [7, 8] (fun s7 s8 wr => s7 = .int .i64 0 ∧ s8 = .int .i64 20 ∧ wr = w) (fun s7 s8 wr => 0)
 case atStart => exact ⟨rfl, rfl, rfl⟩
 case round =>
  obtain ⟨rfl, rfl, rfl⟩ := hrel
  go_wp2_with (go_at_call 157; refine (insert_nil _).mono ?_; rintro e w2 ⟨rfl, rfl⟩)
  go_loopw [6] (fun s6 wr2 => s6 = .int .i64 20 ∧ wr2 = w2) (fun s6 wr2 => 0)
  case atStart => exact ⟨rfl, rfl⟩
  case round =>
   obtain ⟨rfl, rfl⟩ := hrel
   go_wp2_with fail
   go_end0
   exact ⟨rfl, rfl⟩
def SortedEnd (w : World) (lv : Value) (l : List Dg) (e : Ending) (w' : World) : Prop := e = .returned (.tuple #[]) ∧ w'.ownsRow 0 34 4 lv l.length (dgV (sortD l)) ∧ Kept (fun b => lv.ownBlock = some b) w w'
theorem sortD_len (l : List Dg) : (sortD l).length = l.length := by
 have h : ∀ (d : Dg) (m : List Dg), (put d m).length = m.length + 1 := by
  intro d m
  induction m with
  | nil => rfl
  | cons x m ih =>
   unfold put
   split <;> simp [ih]
 have h2 : ∀ (l acc : List Dg), (l.foldl (fun acc d => put d acc) acc).length = acc.length + l.length := by
  intro l
  induction l with
  | nil => intro acc; simp
  | cons x l ih => intro acc; rw [List.foldl_cons, ih, h]; simp; omega
 have := h2 l []
 simpa [sortD] using this
theorem sort_walk {w : World} {lv : Value} {l : List Dg} (h : w.ownsRow 0 34 4 lv l.length (dgV l)) (hn : l.length ≤ 100000) (hok : OkD l) :
 Calls Tryz.prog 75 #[lv, .func (.func 76) #[] #[]] w (SortedEnd w lv l) := by
 rcases h.2 with ⟨rfl, hl⟩ | ⟨g, cap, cur, rfl, hrest⟩
 ·obtain rfl := List.eq_nil_of_length_eq_zero hl
  have h' := Lib.hid h
  clear h
  go_enter Tryz.func75, Tryz.ntmps75
  go_wp2_with (go_at_call 131; refine (stable_nil _).mono ?_; rintro e w2 ⟨rfl, rfl⟩)
  go_end0
  exact ⟨rfl, h'.out, .refl _ _⟩
 ·clear hrest
  obtain ⟨N, hN⟩ : ∃ N, l.length = N := ⟨_, rfl⟩
  have hC := Lib.hid (stable_walk l h hN (by omega) hok)
  have hNN := Lib.hid hN
  have hNn : N ≤ 100000 := by omega
  rw [hN]
  clear hN h hok hn
  go_enter Tryz.func75, Tryz.ntmps75
  go_wp2_with (go_at_call 131; refine hC.out.mono ?_; rintro e w2 ⟨l', rfl, rfl, q1, q2⟩; have q1' := Lib.hid q1; have q2' := Lib.hid q2; clear q1 q2)
  go_end0
  refine ⟨rfl, ?_, q2'.out.mono ?_⟩
  ·have := q1'.out
   unfold ArrIn at this
   rw [sortD_len, hNN.out] at this
   rw [hNN.out]
   exact this
  ·rintro k _ rfl
   rfl
def DiagsEnd (w : World) (P : Nat) (tv lv : Value) (S : Src) (s : Ps) (e : Ending) (w' : World) : Prop := e = .returned lv ∧ w'.ownsRow 0 34 4 lv (S.list s).length (dgV (sortD (S.list s))) ∧ Kept (fun b => lv.ownBlock = some b) w w'
theorem diag_walk {w : World} {P : Nat} {tv lv : Value} {S : Src} {s : Ps} {la fo : Int} (h : PAt w P tv lv S s la fo) (hok : OkD (S.list s)) (hn : (S.list s).length ≤ 100000) :
 Calls Tryz.prog 30 #[.pointer (some ⟨P, 0, none⟩)] w (DiagsEnd w P tv lv S s) := by
 have hC := Lib.hid (sort_walk h.list hn hok)
 have hd := Lib.hid (fun (w2 : World) (k : Kept (fun b => lv.ownBlock = some b) w w2) => (show w2.cell? ⟨P, 5, none⟩ = some lv from by
  have hb := (k.block P (lt_of_block h.box) h.apart).trans h.box
  simp [World.cell?, hb, pcells]))
 obtain ⟨c0, c1, c2, c3, c4, c5, cf⟩ := h.cell
 clear h hok c0 c1 c2 c3 c4
 go_enter Tryz.func30, Tryz.ntmps30
 go_wp2_with (go_at_call 75; refine hC.out.mono ?_; rintro e w2 ⟨rfl, q1, q2⟩; have d5 := hd.out _ q2; have q1' := Lib.hid q1; have q2' := Lib.hid q2; clear q1 q2)
 exact bodyPost_ret (v := lv) (by simp [results, Tryz.results30, go_sem]) rfl ⟨rfl, q1'.out, q2'.out⟩
end Go.Proofs.YthggagophcnkfaaGreatDoor.so
