/- The search of the merge: plain law. The two recursive pieces of the general branch of the merge of a slice of diagnostics. The end of the general branch of the merge of a slice of diagnostics. -/
import Derived.Test.YthggagophcnkfaaGreatDoorSortE
import Derived.Deep.CutBlock
namespace Go.Proofs.YthggagophcnkfaaGreatDoor.so
open Go.RowKit Go.Proofs.YthggagophcnkfaaGreatDoor.agg Go.Proofs.YthggagophcnkfaaGreatDoor.sx Go.Proofs.YthggagophcnkfaaGreatDoor.px Go.Proofs.YthggagophcnkfaaGreatDoor.lx
set_option linter.unusedSimpArgs false
set_option linter.unusedVariables false
def SearchM (L : List Dg) (D M lo hi i j : Nat) : Prop :=
 lo ≤ i ∧ i ≤ j ∧ j ≤ hi ∧ (i = lo ∨ ∃ x y, L[i - 1]? = some x ∧ L[D + M - i]? = some y ∧ x.at_ ≤ y.at_) ∧ (j = hi ∨ ∃ x y, L[j]? = some x ∧ L[D + M - 1 - j]? = some y ∧ y.at_ < x.at_)
theorem SearchM.up {L : List Dg} {D M lo hi i j c : Nat} (h : SearchM L D M lo hi i j) {x y : Dg} (h1 : i ≤ c) (h2 : c < j) (hx : L[c]? = some x) (hy : L[D + M - 1 - c]? = some y) (hxy : x.at_ ≤ y.at_) : SearchM L D M lo hi (c + 1) j := by
 obtain ⟨q1, q2, q3, q4, q5⟩ := h
 refine ⟨by omega, by omega, q3, Or.inr ⟨x, y, by simpa using hx, ?_, hxy⟩, q5⟩
 rw [← hy]
 congr 1
 omega
theorem SearchM.down {L : List Dg} {D M lo hi i j c : Nat} (h : SearchM L D M lo hi i j) {x y : Dg} (h1 : i ≤ c) (h2 : c < j) (hx : L[c]? = some x) (hy : L[D + M - 1 - c]? = some y) (hxy : y.at_ < x.at_) : SearchM L D M lo hi i c := by
 obtain ⟨q1, q2, q3, q4, q5⟩ := h
 exact ⟨q1, h1, by omega, q4, Or.inr ⟨x, y, hx, hy, hxy⟩⟩
def LoHi (A D M B lo hi : Nat) : Prop := (D < M ∧ lo = D + M - B ∧ hi = D) ∨ (M ≤ D ∧ lo = A ∧ hi = M)
theorem get_U (X U R : List Dg) {k : Nat} (h1 : X.length ≤ k) (h2 : k < X.length + U.length) : (X ++ (U ++ R))[k]? = U[k - X.length]? := by
 rw [List.getElem?_append_right h1, List.getElem?_append_left (by omega)]
theorem get_V (X U V R : List Dg) {k : Nat} (h1 : X.length + U.length ≤ k) (h2 : k < X.length + U.length + V.length) : (X ++ (U ++ (V ++ R)))[k]? = V[k - X.length - U.length]? := by
 rw [List.getElem?_append_right (by omega), List.getElem?_append_right (by omega), List.getElem?_append_left (by omega)]
theorem search_done {X U V Y : List Dg} (hU : Srt U) (hV : Srt V) {D lo hi s : Nat} (hD1 : 2 * D ≤ X.length + (X.length + (U.length + V.length))) (hD2 : X.length + (X.length + (U.length + V.length)) ≤ 2 * D + 1)
 (hlh : LoHi X.length D (X.length + U.length) (X.length + (U.length + V.length)) lo hi) (h : SearchM (X ++ (U ++ (V ++ Y))) D (X.length + U.length) lo hi s s) :
 ∃ U1 U2 V1 V2, U = U1 ++ U2 ∧ V = V1 ++ V2 ∧ X.length + U1.length = s ∧ X.length + (U1.length + V1.length) = D ∧ (∀ u ∈ U1, ∀ v ∈ V2, u.at_ ≤ v.at_) ∧ (∀ v ∈ V1, ∀ u ∈ U2, v.at_ < u.at_) := by
 obtain ⟨q1, q2, q3, q4, q5⟩ := h
 obtain ⟨A, hA⟩ : ∃ A, X.length = A := ⟨_, rfl⟩
 obtain ⟨u, hu⟩ : ∃ u, U.length = u := ⟨_, rfl⟩
 obtain ⟨v, hv⟩ : ∃ v, V.length = v := ⟨_, rfl⟩
 rw [hA, hu, hv] at hD1 hD2 hlh
 rw [hA, hu] at q4 q5
 have hs : A ≤ s ∧ s ≤ A + u ∧ s ≤ D ∧ D - s ≤ v := by unfold LoHi at hlh; omega
 refine ⟨U.take (s - A), U.drop (s - A), V.take (D - s), V.drop (D - s), (List.take_append_drop _ _).symm, (List.take_append_drop _ _).symm, by rw [List.length_take]; omega, by rw [List.length_take, List.length_take]; omega, ?_, ?_⟩
 ·intro x hx y hy
  obtain ⟨i, hi1, rfl⟩ := List.mem_take_iff_getElem.1 hx
  obtain ⟨j, hj1, rfl⟩ := List.mem_drop_iff_getElem.1 hy
  rcases q4 with q4 | ⟨x', y', e1, e2, e3⟩
  ·unfold LoHi at hlh
   omega
  ·rw [get_U X U _ (by omega) (by omega)] at e1
   rw [get_V X U V Y (by omega) (by omega)] at e2
   obtain ⟨k1, e1⟩ := List.getElem?_eq_some_iff.1 e1
   obtain ⟨k2, e2⟩ := List.getElem?_eq_some_iff.1 e2
   have a1 := srt_get hU (i := i) (j := s - 1 - X.length) (by omega) k1 (by omega)
   have a2 := srt_get hV (i := D + (A + u) - s - X.length - U.length) (j := D - s + j) k2 (by omega) (by omega)
   rw [e1] at a1
   rw [e2] at a2
   omega
 ·intro y hy x hx
  obtain ⟨j, hj1, rfl⟩ := List.mem_take_iff_getElem.1 hy
  obtain ⟨i, hi1, rfl⟩ := List.mem_drop_iff_getElem.1 hx
  rcases q5 with q5 | ⟨x', y', e1, e2, e3⟩
  ·unfold LoHi at hlh
   omega
  ·rw [get_U X U _ (by omega) (by omega)] at e1
   rw [get_V X U V Y (by omega) (by omega)] at e2
   obtain ⟨k1, e1⟩ := List.getElem?_eq_some_iff.1 e1
   obtain ⟨k2, e2⟩ := List.getElem?_eq_some_iff.1 e2
   have a1 := srt_get hU (i := s - X.length) (j := s - A + i) k1 (by omega) (by omega)
   have a2 := srt_get hV (i := j) (j := D + (A + u) - 1 - s - X.length - U.length) (by omega) k2 (by omega)
   rw [e1] at a1
   rw [e2] at a2
   omega
theorem MrgEnd.join {X U V Y U1 U2 V1 V2 W1 l' : List Dg} (hU : Srt U) (hV : Srt V) (e1 : U = U1 ++ U2) (e2 : V = V1 ++ V2) (h1 : ∀ u ∈ U1, ∀ v ∈ V2, u.at_ ≤ v.at_) (h2 : ∀ v ∈ V1, ∀ u ∈ U2, v.at_ < u.at_)
 (s1 : Srt W1) (l1 : Like (U1 ++ V1) W1) (n1 : W1.length = U1.length + V1.length) (h : MrgEnd (X ++ W1) U2 V2 Y l') : MrgEnd X U V Y l' := by
 obtain ⟨W2, e, s2, l2, n2⟩ := h
 subst e1 e2
 obtain ⟨r1, r2⟩ := merge_core hU hV h1 h2 s1 l1 s2 l2
 exact ⟨W1 ++ W2, by rw [e]; simp, r1, r2, by simp only [List.length_append, n1, n2]; omega⟩
end Go.Proofs.YthggagophcnkfaaGreatDoor.so
namespace Go.Proofs.YthggagophcnkfaaGreatDoor.so
open Go.RowKit Go.Proofs.YthggagophcnkfaaGreatDoor.agg Go.Proofs.YthggagophcnkfaaGreatDoor.sx Go.Proofs.YthggagophcnkfaaGreatDoor.px Go.Proofs.YthggagophcnkfaaGreatDoor.lx
set_option linter.unusedSimpArgs false
set_option linter.unusedVariables false
def MergeOk (n : Nat) : Prop := ∀ (w : World) (g cap : Nat) (X U V Y : List Dg) (N : Nat), U.length + V.length ≤ n → 0 < U.length → 0 < V.length → ArrIn w g cap (X ++ (U ++ (V ++ Y))) → (X ++ (U ++ (V ++ Y))).length = N → N ≤ 100000 → OkD (X ++ (U ++ (V ++ Y))) → Srt U → Srt V →
 ∀ (a m b : Int), a = X.length → m = (X.length + U.length : Nat) → b = (X.length + (U.length + V.length) : Nat) →
  Calls Tryz.prog 158 #[.slice (some ⟨g, 0, none⟩) N cap, .int .i64 a, .int .i64 m, .int .i64 b, .func (.func 76) #[] #[]] w (ArrEnd w g cap (MrgEnd X U V Y))
theorem OkD.perm {l l' : List Dg} (h : OkD l) (hp : ∀ d, d ∈ l' → d ∈ l) : OkD l' := fun d hd => h d (hp d hd)
theorem MrgEnd.triv {X U V Y : List Dg} (hU : Srt U) (hV : Srt V) (h : U = [] ∨ V = []) : MrgEnd X U V Y (X ++ (U ++ (V ++ Y))) := by
 refine ⟨U ++ V, by simp, ?_, .refl _, by simp⟩
 rcases h with rfl | rfl
 ·simpa using hV
 ·simpa using hU
theorem MrgEnd.len {X U V Y l' : List Dg} (h : MrgEnd X U V Y l') : l'.length = (X ++ (U ++ (V ++ Y))).length := by
 obtain ⟨W, e, s, k, n⟩ := h
 rw [e]
 simp only [List.length_append, n]
 omega
theorem MrgEnd.mem {X U V Y l' : List Dg} (h : MrgEnd X U V Y l') (d : Dg) (hd : d ∈ l') : d ∈ X ++ (U ++ (V ++ Y)) := by
 obtain ⟨W, e, s, k, n⟩ := h
 rw [e] at hd
 rcases List.mem_append.1 hd with hd | hd
 ·exact List.mem_append_left _ hd
 ·rcases List.mem_append.1 hd with hd | hd
  ·have := k.symm.mem hd
   simp only [List.mem_append] at this ⊢
   rcases this with h | h
   ·exact Or.inr (Or.inl h)
   ·exact Or.inr (Or.inr (Or.inl h))
  ·simp only [List.mem_append]
   exact Or.inr (Or.inr (Or.inr hd))
theorem merge_mid {X U1 V1 R l' : List Dg} {N : Nat} (h : MrgEnd X U1 V1 R l') (hlen : (X ++ (U1 ++ (V1 ++ R))).length = N) (hok : OkD (X ++ (U1 ++ (V1 ++ R)))) :
 ∃ W1, l' = (X ++ W1) ++ R ∧ Srt W1 ∧ Like (U1 ++ V1) W1 ∧ W1.length = U1.length + V1.length ∧ ((X ++ W1) ++ R).length = N ∧ OkD ((X ++ W1) ++ R) := by
 have h1 := h.len
 have h2 := h.mem
 obtain ⟨W, e, s, k, n⟩ := h
 subst e
 exact ⟨W, (List.append_assoc _ _ _).symm, s, k, n, by rw [List.append_assoc, h1, hlen], by rw [List.append_assoc]; exact hok.perm h2⟩
def pieceAt (n : Nat) : Code → Option Code
 | .seq (.region k ops d) b => if k = n then some (.seq (.region k ops d) b) else pieceAt n b
 | .seq a b => match pieceAt n a with
  | some c => some c
  | none => pieceAt n b
 | .cond _ a b => match pieceAt n a with
  | some c => some c
  | none => pieceAt n b
 | .block _ c => pieceAt n c
 | .loop c => pieceAt n c
 | _ => none
noncomputable def mpiece (n : Nat) : Code := ((Tryz.f158.body.bind (pieceAt n)).getD .skip)
set_option maxRecDepth 100000 in
set_option maxHeartbeats 4000000 in
theorem merge_piece1 {n : Nat} (ih : MergeOk n) {w wc : World} {g cap : Nat} (X U V Y : List Dg) {N : Nat} (hle : U.length + V.length ≤ n) (hA : ArrIn wc g cap (X ++ (U ++ (V ++ Y)))) (hN : (X ++ (U ++ (V ++ Y))).length = N) (hn : N ≤ 100000) (hok : OkD (X ++ (U ++ (V ++ Y)))) (hU : Srt U) (hV : Srt V) (hk : Kept (gfoot g) w wc) {a m b : Int} (ha : a = X.length) (hm : m = (X.length + U.length : Nat)) (hb : b = (X.length + (U.length + V.length) : Nat)) {Q : Exit → Act → World → Prop} {c : Code} (hc : mpiece 41 = c) {u2 u3 u5 u6 u7 u8 u9 u10 u11 u12 u13 u14 u15 u16 u17 u19 u21 u22 u23 u24 u25 u26 u27 u28 u29 u30 u31 u32 u33 u34 u35 u36 u37 u38 u39 u40 u41 u42 u43 u44 u45 u46 u47 u48 u49 u50 u51 u52 u53 u54 u55 u56 u57 u58 u59 u60 u61 u62 u63 u64 u65 u66 u67 u68 u69 u70 u71 u72 u73 u74 u75 u76 u77 u78 u79 u80 u81 u82 u83 u84 u85 u86 u87 u88 u89 u90 u91 u92 u93 u94 u95 u96 u97 u98 u99 u100 u101 u102 u103 u104 u105 u106 u107 u108 u109 u110 u111 u112 u113 u114 u115 u116 u117 u118 u119 u120 u121 u122 u123 u124 u125 u126 u127 u128 u129 u130 u131 u132 u133 u134 u135 u136 u137 u138 u139 u140 u141 u142 u143 u144 u145 u146 u147 u148 u149 u150 u151 u152 u153 u154 u155 u156 u157 u158 u159 u160 u161 u162 u163 u164 u165 u166 u167 u168 u169 u170 u171 u172 u173 u174 u175 u176 u177 u178 u179 u180 u181 u182 u183 u184 u185 u186 u187 u188 u189 u190 u191 u192 u193 u194 u195 u196 u197 u198 u199 u200 u201 u202 u203 u204 u205 u206 u207 u208 u209 u210 u211 u212 u213 u214 u215 u216 u217 u218 u219 : Value}
 (hQ : ∀ (v192 v193 v194 v195 v196 v197 v198 v199 v200 v201 v202 v203 v204 v205 : Value) (wx : World) (l' : List Dg), MrgEnd X U V Y l' → ArrIn wx g cap l' → Kept (gfoot g) w wx → Q .normal ⟨#[.slice (some ⟨g, 0, none⟩) N cap, .int .i64 a, u2, u3, .func (.func 76) #[] #[], u5, u6, u7, u8, u9, u10, u11, u12, u13, u14, u15, u16, u17, .int .i64 b, u19, .int .i64 m, u21, u22, u23, u24, u25, u26, u27, u28, u29, u30, u31, u32, u33, u34, u35, u36, u37, u38, u39, u40, u41, u42, u43, u44, u45, u46, u47, u48, u49, u50, u51, u52, u53, u54, u55, u56, u57, u58, u59, u60, u61, u62, u63, u64, u65, u66, u67, u68, u69, u70, u71, u72, u73, u74, u75, u76, u77, u78, u79, u80, u81, u82, u83, u84, u85, u86, u87, u88, u89, u90, u91, u92, u93, u94, u95, u96, u97, u98, u99, u100, u101, u102, u103, u104, u105, u106, u107, u108, u109, u110, u111, u112, u113, u114, u115, u116, u117, u118, u119, u120, u121, u122, u123, u124, u125, u126, u127, u128, u129, u130, u131, u132, u133, u134, u135, u136, u137, u138, u139, u140, u141, u142, u143, u144, u145, u146, u147, u148, u149, u150, u151, u152, u153, u154, u155, u156, u157, u158, u159, u160, u161, u162, u163, u164, u165, u166, u167, u168, u169, u170, u171, u172, u173, u174, u175, u176, u177, u178, u179, u180, u181, u182, u183, u184, u185, u186, u187, u188, u189, u190, u191, v192, v193, v194, v195, v196, v197, v198, v199, v200, v201, v202, v203, v204, v205, u206, u207, u208, u209, u210, u211, u212, u213, u214, u215, u216, u217, u218, u219], []⟩ wx) :
 Code.wp Tryz.prog c Q ⟨#[.slice (some ⟨g, 0, none⟩) N cap, .int .i64 a, u2, u3, .func (.func 76) #[] #[], u5, u6, u7, u8, u9, u10, u11, u12, u13, u14, u15, u16, u17, .int .i64 b, u19, .int .i64 m, u21, u22, u23, u24, u25, u26, u27, u28, u29, u30, u31, u32, u33, u34, u35, u36, u37, u38, u39, u40, u41, u42, u43, u44, u45, u46, u47, u48, u49, u50, u51, u52, u53, u54, u55, u56, u57, u58, u59, u60, u61, u62, u63, u64, u65, u66, u67, u68, u69, u70, u71, u72, u73, u74, u75, u76, u77, u78, u79, u80, u81, u82, u83, u84, u85, u86, u87, u88, u89, u90, u91, u92, u93, u94, u95, u96, u97, u98, u99, u100, u101, u102, u103, u104, u105, u106, u107, u108, u109, u110, u111, u112, u113, u114, u115, u116, u117, u118, u119, u120, u121, u122, u123, u124, u125, u126, u127, u128, u129, u130, u131, u132, u133, u134, u135, u136, u137, u138, u139, u140, u141, u142, u143, u144, u145, u146, u147, u148, u149, u150, u151, u152, u153, u154, u155, u156, u157, u158, u159, u160, u161, u162, u163, u164, u165, u166, u167, u168, u169, u170, u171, u172, u173, u174, u175, u176, u177, u178, u179, u180, u181, u182, u183, u184, u185, u186, u187, u188, u189, u190, u191, u192, u193, u194, u195, u196, u197, u198, u199, u200, u201, u202, u203, u204, u205, u206, u207, u208, u209, u210, u211, u212, u213, u214, u215, u216, u217, u218, u219], []⟩ wc := by
 obtain ⟨p, hp⟩ : ∃ p, X.length = p := ⟨_, rfl⟩
 obtain ⟨u, hu⟩ : ∃ u, U.length = u := ⟨_, rfl⟩
 obtain ⟨v, hv⟩ : ∃ v, V.length = v := ⟨_, rfl⟩
 have hpz : p + (u + v) ≤ N := by rw [← hN, ← hp, ← hu, ← hv]; simp only [List.length_append]; omega
 have hC := fun (h1 : 0 < U.length) (h2 : 0 < V.length) => ih wc g cap X U V Y N hle h1 h2 hA hN hn hok hU hV a m b ha hm hb
 have hM := fun (h : U = [] ∨ V = []) => MrgEnd.triv (X := X) (Y := Y) hU hV h
 rw [hp] at ha
 rw [hp, hu] at hm
 rw [hp, hu, hv] at hb
 have hA' := Lib.hid hA
 have hk' := Lib.hid hk
 have hQ' := Lib.hid hQ
 have g1 : 0 ≤ a := by omega
 have g4 : a ≤ m := by omega
 have g5 : m ≤ b := by omega
 have g6 : b ≤ N := by omega
 rw [← hc]
 clear hc
 conv => arg 2; whnf
 by_cases c1 : a < m
 ·by_cases c2 : m < b
  ·have hC' := Lib.hid (hC (by omega) (by omega))
   clear hA hN hok ha hb hp hu hv hm hU hV hQ hk hC hM
   go_wp2_with (go_at_call 158; refine hC'.out.mono ?_; rintro e' w2 ⟨l', rfl, q0, q1, q2⟩; have q0' := Lib.hid q0; have q1' := Lib.hid q1; have q2' := Lib.hid q2; clear q0 q1 q2)
   exact hQ'.out _ _ _ _ _ _ _ _ _ _ _ _ _ _ _ _ q0'.out q1'.out (hk'.out.trans q2'.out)
  ·have hM' := Lib.hid (hM (Or.inr (List.eq_nil_of_length_eq_zero (by omega))))
   clear hA hN hok ha hb hp hu hv hm hU hV hQ hk hC hM
   go_wp2_with fail
   exact hQ'.out _ _ _ _ _ _ _ _ _ _ _ _ _ _ _ _ hM'.out hA'.out hk'.out
 ·have hM' := Lib.hid (hM (Or.inl (List.eq_nil_of_length_eq_zero (by omega))))
  clear hA hN hok ha hb hp hu hv hm hU hV hQ hk hC hM
  go_wp2_with fail
  exact hQ'.out _ _ _ _ _ _ _ _ _ _ _ _ _ _ _ _ hM'.out hA'.out hk'.out
set_option maxRecDepth 100000 in
set_option maxHeartbeats 4000000 in
theorem merge_piece2 {n : Nat} (ih : MergeOk n) {w wc : World} {g cap : Nat} (X U V Y : List Dg) {N : Nat} (hle : U.length + V.length ≤ n) (hA : ArrIn wc g cap (X ++ (U ++ (V ++ Y)))) (hN : (X ++ (U ++ (V ++ Y))).length = N) (hn : N ≤ 100000) (hok : OkD (X ++ (U ++ (V ++ Y)))) (hU : Srt U) (hV : Srt V) (hk : Kept (gfoot g) w wc) {a m b : Int} (ha : a = X.length) (hm : m = (X.length + U.length : Nat)) (hb : b = (X.length + (U.length + V.length) : Nat)) {Q : Exit → Act → World → Prop} {c : Code} (hc : mpiece 43 = c) {u1 u2 u5 u6 u7 u8 u9 u10 u11 u12 u13 u14 u15 u16 u17 u19 u20 u21 u22 u23 u25 u26 u27 u28 u29 u30 u31 u32 u33 u34 u35 u36 u37 u38 u39 u40 u41 u42 u43 u44 u45 u46 u47 u48 u49 u50 u51 u52 u53 u54 u55 u56 u57 u58 u59 u60 u61 u62 u63 u64 u65 u66 u67 u68 u69 u70 u71 u72 u73 u74 u75 u76 u77 u78 u79 u80 u81 u82 u83 u84 u85 u86 u87 u88 u89 u90 u91 u92 u93 u94 u95 u96 u97 u98 u99 u100 u101 u102 u103 u104 u105 u106 u107 u108 u109 u110 u111 u112 u113 u114 u115 u116 u117 u118 u119 u120 u121 u122 u123 u124 u125 u126 u127 u128 u129 u130 u131 u132 u133 u134 u135 u136 u137 u138 u139 u140 u141 u142 u143 u144 u145 u146 u147 u148 u149 u150 u151 u152 u153 u154 u155 u156 u157 u158 u159 u160 u161 u162 u163 u164 u165 u166 u167 u168 u169 u170 u171 u172 u173 u174 u175 u176 u177 u178 u179 u180 u181 u182 u183 u184 u185 u186 u187 u188 u189 u190 u191 u192 u193 u194 u195 u196 u197 u198 u199 u200 u201 u202 u203 u204 u205 u206 u207 u208 u209 u210 u211 u212 u213 u214 u215 u216 u217 u218 u219 : Value}
 (hQ : ∀ (v206 v207 v208 v209 v210 v211 v212 v213 v214 v215 v216 v217 v218 v219 : Value) (wx : World) (l' : List Dg), MrgEnd X U V Y l' → ArrIn wx g cap l' → Kept (gfoot g) w wx → Q .normal ⟨#[.slice (some ⟨g, 0, none⟩) N cap, u1, u2, .int .i64 b, .func (.func 76) #[] #[], u5, u6, u7, u8, u9, u10, u11, u12, u13, u14, u15, u16, u17, .int .i64 a, u19, u20, u21, u22, u23, .int .i64 m, u25, u26, u27, u28, u29, u30, u31, u32, u33, u34, u35, u36, u37, u38, u39, u40, u41, u42, u43, u44, u45, u46, u47, u48, u49, u50, u51, u52, u53, u54, u55, u56, u57, u58, u59, u60, u61, u62, u63, u64, u65, u66, u67, u68, u69, u70, u71, u72, u73, u74, u75, u76, u77, u78, u79, u80, u81, u82, u83, u84, u85, u86, u87, u88, u89, u90, u91, u92, u93, u94, u95, u96, u97, u98, u99, u100, u101, u102, u103, u104, u105, u106, u107, u108, u109, u110, u111, u112, u113, u114, u115, u116, u117, u118, u119, u120, u121, u122, u123, u124, u125, u126, u127, u128, u129, u130, u131, u132, u133, u134, u135, u136, u137, u138, u139, u140, u141, u142, u143, u144, u145, u146, u147, u148, u149, u150, u151, u152, u153, u154, u155, u156, u157, u158, u159, u160, u161, u162, u163, u164, u165, u166, u167, u168, u169, u170, u171, u172, u173, u174, u175, u176, u177, u178, u179, u180, u181, u182, u183, u184, u185, u186, u187, u188, u189, u190, u191, u192, u193, u194, u195, u196, u197, u198, u199, u200, u201, u202, u203, u204, u205, v206, v207, v208, v209, v210, v211, v212, v213, v214, v215, v216, v217, v218, v219], []⟩ wx) :
 Code.wp Tryz.prog c Q ⟨#[.slice (some ⟨g, 0, none⟩) N cap, u1, u2, .int .i64 b, .func (.func 76) #[] #[], u5, u6, u7, u8, u9, u10, u11, u12, u13, u14, u15, u16, u17, .int .i64 a, u19, u20, u21, u22, u23, .int .i64 m, u25, u26, u27, u28, u29, u30, u31, u32, u33, u34, u35, u36, u37, u38, u39, u40, u41, u42, u43, u44, u45, u46, u47, u48, u49, u50, u51, u52, u53, u54, u55, u56, u57, u58, u59, u60, u61, u62, u63, u64, u65, u66, u67, u68, u69, u70, u71, u72, u73, u74, u75, u76, u77, u78, u79, u80, u81, u82, u83, u84, u85, u86, u87, u88, u89, u90, u91, u92, u93, u94, u95, u96, u97, u98, u99, u100, u101, u102, u103, u104, u105, u106, u107, u108, u109, u110, u111, u112, u113, u114, u115, u116, u117, u118, u119, u120, u121, u122, u123, u124, u125, u126, u127, u128, u129, u130, u131, u132, u133, u134, u135, u136, u137, u138, u139, u140, u141, u142, u143, u144, u145, u146, u147, u148, u149, u150, u151, u152, u153, u154, u155, u156, u157, u158, u159, u160, u161, u162, u163, u164, u165, u166, u167, u168, u169, u170, u171, u172, u173, u174, u175, u176, u177, u178, u179, u180, u181, u182, u183, u184, u185, u186, u187, u188, u189, u190, u191, u192, u193, u194, u195, u196, u197, u198, u199, u200, u201, u202, u203, u204, u205, u206, u207, u208, u209, u210, u211, u212, u213, u214, u215, u216, u217, u218, u219], []⟩ wc := by
 obtain ⟨p, hp⟩ : ∃ p, X.length = p := ⟨_, rfl⟩
 obtain ⟨u, hu⟩ : ∃ u, U.length = u := ⟨_, rfl⟩
 obtain ⟨v, hv⟩ : ∃ v, V.length = v := ⟨_, rfl⟩
 have hpz : p + (u + v) ≤ N := by rw [← hN, ← hp, ← hu, ← hv]; simp only [List.length_append]; omega
 have hC := fun (h1 : 0 < U.length) (h2 : 0 < V.length) => ih wc g cap X U V Y N hle h1 h2 hA hN hn hok hU hV a m b ha hm hb
 have hM := fun (h : U = [] ∨ V = []) => MrgEnd.triv (X := X) (Y := Y) hU hV h
 rw [hp] at ha
 rw [hp, hu] at hm
 rw [hp, hu, hv] at hb
 have hA' := Lib.hid hA
 have hk' := Lib.hid hk
 have hQ' := Lib.hid hQ
 have g1 : 0 ≤ a := by omega
 have g4 : a ≤ m := by omega
 have g5 : m ≤ b := by omega
 have g6 : b ≤ N := by omega
 rw [← hc]
 clear hc
 conv => arg 2; whnf
 by_cases c1 : a < m
 ·by_cases c2 : m < b
  ·have hC' := Lib.hid (hC (by omega) (by omega))
   clear hA hN hok ha hb hp hu hv hm hU hV hQ hk hC hM
   go_wp2_with (go_at_call 158; refine hC'.out.mono ?_; rintro e' w2 ⟨l', rfl, q0, q1, q2⟩; have q0' := Lib.hid q0; have q1' := Lib.hid q1; have q2' := Lib.hid q2; clear q0 q1 q2)
   exact hQ'.out _ _ _ _ _ _ _ _ _ _ _ _ _ _ _ _ q0'.out q1'.out (hk'.out.trans q2'.out)
  ·have hM' := Lib.hid (hM (Or.inr (List.eq_nil_of_length_eq_zero (by omega))))
   clear hA hN hok ha hb hp hu hv hm hU hV hQ hk hC hM
   go_wp2_with fail
   exact hQ'.out _ _ _ _ _ _ _ _ _ _ _ _ _ _ _ _ hM'.out hA'.out hk'.out
 ·have hM' := Lib.hid (hM (Or.inl (List.eq_nil_of_length_eq_zero (by omega))))
  clear hA hN hok ha hb hp hu hv hm hU hV hQ hk hC hM
  go_wp2_with fail
  exact hQ'.out _ _ _ _ _ _ _ _ _ _ _ _ _ _ _ _ hM'.out hA'.out hk'.out
end Go.Proofs.YthggagophcnkfaaGreatDoor.so
namespace Go.Proofs.YthggagophcnkfaaGreatDoor.so
open Go.RowKit Go.Proofs.YthggagophcnkfaaGreatDoor.agg Go.Proofs.YthggagophcnkfaaGreatDoor.sx Go.Proofs.YthggagophcnkfaaGreatDoor.px Go.Proofs.YthggagophcnkfaaGreatDoor.lx
set_option linter.unusedSimpArgs false
set_option linter.unusedVariables false
def tailAt (n : Nat) : Code → Option Code
 | .seq (.seq (.region k ops d) a) b => if k = n then some (.seq (.seq (.region k ops d) a) b) else tailAt n b
 | .seq a b => match tailAt n a with
  | some c => some c
  | none => tailAt n b
 | .cond _ a b => match tailAt n a with
  | some c => some c
  | none => tailAt n b
 | .block _ c => tailAt n c
 | .loop c => tailAt n c
 | _ => none
noncomputable def mtail : Code := ((Tryz.f158.body.bind (tailAt 41)).getD .skip)
set_option maxRecDepth 100000 in
set_option maxHeartbeats 4000000 in
theorem merge_tail {n : Nat} (ih : MergeOk n) {w wc : World} {g cap : Nat} (X U V Y U1 U2 V1 V2 : List Dg) {N : Nat} (h1 : U1.length + V1.length ≤ n) (h2 : U2.length + V2.length ≤ n) (hA : ArrIn wc g cap (X ++ (U1 ++ (V1 ++ (U2 ++ (V2 ++ Y)))))) (hN : (X ++ (U1 ++ (V1 ++ (U2 ++ (V2 ++ Y))))).length = N) (hn : N ≤ 100000) (hok : OkD (X ++ (U1 ++ (V1 ++ (U2 ++ (V2 ++ Y)))))) (hs1 : Srt U1) (hs2 : Srt U2) (hs3 : Srt V1) (hs4 : Srt V2) (hk : Kept (gfoot g) w wc)
 {a i D e b : Int} (ha : a = X.length) (hi : i = (X.length + U1.length : Nat)) (hD : D = (X.length + (U1.length + V1.length) : Nat)) (he : e = (X.length + (U1.length + V1.length) + U2.length : Nat)) (hb : b = (X.length + (U1.length + V1.length) + (U2.length + V2.length) : Nat))
 (hjn : ∀ W1 l', Srt W1 → Like (U1 ++ V1) W1 → W1.length = U1.length + V1.length → MrgEnd (X ++ W1) U2 V2 Y l' → MrgEnd X U V Y l') {Q : Exit → Act → World → Prop} {c : Code} (hc : mtail = c) {u2 u5 u6 u7 u8 u9 u10 u11 u12 u13 u14 u15 u16 u17 u19 u21 u22 u23 u25 u26 u27 u28 u29 u30 u31 u32 u33 u34 u35 u36 u37 u38 u39 u40 u41 u42 u43 u44 u45 u46 u47 u48 u49 u50 u51 u52 u53 u54 u55 u56 u57 u58 u59 u60 u61 u62 u63 u64 u65 u66 u67 u68 u69 u70 u71 u72 u73 u74 u75 u76 u77 u78 u79 u80 u81 u82 u83 u84 u85 u86 u87 u88 u89 u90 u91 u92 u93 u94 u95 u96 u97 u98 u99 u100 u101 u102 u103 u104 u105 u106 u107 u108 u109 u110 u111 u112 u113 u114 u115 u116 u117 u118 u119 u120 u121 u122 u123 u124 u125 u126 u127 u128 u129 u130 u131 u132 u133 u134 u135 u136 u137 u138 u139 u140 u141 u142 u143 u144 u145 u146 u147 u148 u149 u150 u151 u152 u153 u154 u155 u156 u157 u158 u159 u160 u161 u162 u163 u164 u165 u166 u167 u168 u169 u170 u171 u172 u173 u174 u175 u176 u177 u178 u179 u180 u181 u182 u183 u184 u185 u186 u187 u188 u189 u190 u191 u192 u193 u194 u195 u196 u197 u198 u199 u200 u201 u202 u203 u204 u205 u206 u207 u208 u209 u210 u211 u212 u213 u214 u215 u216 u217 u218 u219 : Value}
 (hQ : ∀ (v192 v193 v194 v195 v196 v197 v198 v199 v200 v201 v202 v203 v204 v205 v206 v207 v208 v209 v210 v211 v212 v213 v214 v215 v216 v217 v218 v219 : Value) (wx : World) (l' : List Dg), MrgEnd X U V Y l' → ArrIn wx g cap l' → Kept (gfoot g) w wx → Q .normal ⟨#[.slice (some ⟨g, 0, none⟩) N cap, .int .i64 a, u2, .int .i64 b, .func (.func 76) #[] #[], u5, u6, u7, u8, u9, u10, u11, u12, u13, u14, u15, u16, u17, .int .i64 D, u19, .int .i64 i, u21, u22, u23, .int .i64 e, u25, u26, u27, u28, u29, u30, u31, u32, u33, u34, u35, u36, u37, u38, u39, u40, u41, u42, u43, u44, u45, u46, u47, u48, u49, u50, u51, u52, u53, u54, u55, u56, u57, u58, u59, u60, u61, u62, u63, u64, u65, u66, u67, u68, u69, u70, u71, u72, u73, u74, u75, u76, u77, u78, u79, u80, u81, u82, u83, u84, u85, u86, u87, u88, u89, u90, u91, u92, u93, u94, u95, u96, u97, u98, u99, u100, u101, u102, u103, u104, u105, u106, u107, u108, u109, u110, u111, u112, u113, u114, u115, u116, u117, u118, u119, u120, u121, u122, u123, u124, u125, u126, u127, u128, u129, u130, u131, u132, u133, u134, u135, u136, u137, u138, u139, u140, u141, u142, u143, u144, u145, u146, u147, u148, u149, u150, u151, u152, u153, u154, u155, u156, u157, u158, u159, u160, u161, u162, u163, u164, u165, u166, u167, u168, u169, u170, u171, u172, u173, u174, u175, u176, u177, u178, u179, u180, u181, u182, u183, u184, u185, u186, u187, u188, u189, u190, u191, v192, v193, v194, v195, v196, v197, v198, v199, v200, v201, v202, v203, v204, v205, v206, v207, v208, v209, v210, v211, v212, v213, v214, v215, v216, v217, v218, v219], []⟩ wx) :
 Code.wp Tryz.prog c Q ⟨#[.slice (some ⟨g, 0, none⟩) N cap, .int .i64 a, u2, .int .i64 b, .func (.func 76) #[] #[], u5, u6, u7, u8, u9, u10, u11, u12, u13, u14, u15, u16, u17, .int .i64 D, u19, .int .i64 i, u21, u22, u23, .int .i64 e, u25, u26, u27, u28, u29, u30, u31, u32, u33, u34, u35, u36, u37, u38, u39, u40, u41, u42, u43, u44, u45, u46, u47, u48, u49, u50, u51, u52, u53, u54, u55, u56, u57, u58, u59, u60, u61, u62, u63, u64, u65, u66, u67, u68, u69, u70, u71, u72, u73, u74, u75, u76, u77, u78, u79, u80, u81, u82, u83, u84, u85, u86, u87, u88, u89, u90, u91, u92, u93, u94, u95, u96, u97, u98, u99, u100, u101, u102, u103, u104, u105, u106, u107, u108, u109, u110, u111, u112, u113, u114, u115, u116, u117, u118, u119, u120, u121, u122, u123, u124, u125, u126, u127, u128, u129, u130, u131, u132, u133, u134, u135, u136, u137, u138, u139, u140, u141, u142, u143, u144, u145, u146, u147, u148, u149, u150, u151, u152, u153, u154, u155, u156, u157, u158, u159, u160, u161, u162, u163, u164, u165, u166, u167, u168, u169, u170, u171, u172, u173, u174, u175, u176, u177, u178, u179, u180, u181, u182, u183, u184, u185, u186, u187, u188, u189, u190, u191, u192, u193, u194, u195, u196, u197, u198, u199, u200, u201, u202, u203, u204, u205, u206, u207, u208, u209, u210, u211, u212, u213, u214, u215, u216, u217, u218, u219], []⟩ wc := by
 have hQ' := Lib.hid hQ
 clear hQ
 rw [← hc]
 clear hc
 conv => arg 2; whnf
 refine wp_seq_k (fun K2 hkk2 => ?_)
 refine merge_piece1 ih (w := w) X U1 V1 (U2 ++ (V2 ++ Y)) h1 hA hN hn hok hs1 hs3 hk ha hi hD (by kernel_rfl) ?_
 intro v192 v193 v194 v195 v196 v197 v198 v199 v200 v201 v202 v203 v204 v205 wx l' q0 q1 q2
 obtain ⟨W1, hl', z1, z2, z3, z4, z5⟩ := merge_mid q0 hN hok
 have hA4 : ArrIn wx g cap ((X ++ W1) ++ (U2 ++ (V2 ++ Y))) := hl' ▸ q1
 refine hkk2 _ _ ?_
 clear hkk2
 refine merge_piece2 ih (w := w) (X ++ W1) U2 V2 Y h2 hA4 z4 hn z5 hs2 hs4 q2 (by rw [List.length_append, z3]; exact hD) (by rw [List.length_append, z3]; exact he) (by rw [List.length_append, z3]; exact hb) (by kernel_rfl) ?_
 intro v206 v207 v208 v209 v210 v211 v212 v213 v214 v215 v216 v217 v218 v219 wy l'' r0 r1 r2
 exact hQ'.out _ _ _ _ _ _ _ _ _ _ _ _ _ _ _ _ _ _ _ _ _ _ _ _ _ _ _ _ _ _ (hjn _ _ z1 z2 z3 r0) r1 r2
end Go.Proofs.YthggagophcnkfaaGreatDoor.so
