/- The loops over the bytes of a sector in confluentlaw47.DiskTorn, each over its frame. -/
import Derived.Test.YtakehkoicinlbaaDWrites
namespace Go.Proofs.Ytakehkoicinlbaa.dk
open Go.RowKit Go.Proofs.Ytakehkoicinlbaa.agg

/-- The outermost loops of a code, in order. -/
def loopsOf : Code → List Code
  | .loop c => [c]
  | .seq a b => loopsOf a ++ loopsOf b
  | .cond _ a b => loopsOf a ++ loopsOf b
  | .block _ c => loopsOf c
  | .scope c => loopsOf c
  | _ => []
noncomputable def torn3 : Code := (loopsOf (Try.f4.body.getD .skip)).getD 2 .skip
noncomputable def torn5 : Code := (loopsOf torn3).getD 1 .skip
noncomputable def torn6 : Code := (loopsOf torn3).getD 2 .skip
noncomputable def torn7 : Code := (loopsOf torn6).getD 0 .skip

/-- What lies in memory while the bytes of sector n are looked at: x what is there, y what was there, dn the writes, ol the places of those to n. -/
structure Bytes (w : World) (xb bb q r k n : Nat) (x y : List Int) (dn : List Wr) (ol : List Nat) (aq ar : Option Addr) : Prop where
  qa : 0 < dn.length → aq = some ⟨q, 0, none⟩
  ra : 0 < ol.length → ar = some ⟨r, 0, none⟩
  xc : ∀ b, b < 64 → w.cell? ⟨xb, b, none⟩ = some (.int .u8 (x.getD b 0))
  bc : ∀ b, b < 64 → w.cell? ⟨bb, n * 64 + b, none⟩ = some (.int .u8 (y.getD b 0))
  dc : ∀ j, j < dn.length → ∀ b, b < 64 → w.cell? ⟨q, j * 65 + 1 + b, none⟩ = some (.int .u8 ((wAt dn j).2.getD b 0))
  oc : ∀ t, t < ol.length → w.cell? ⟨r, t, none⟩ = some (.int .i64 (ol.getD t 0 : Nat))
  olt : ∀ t, t < ol.length → ol.getD t 0 < dn.length
  nk : n < k
theorem Bytes.below {w w' : World} {xb bb q r k n : Nat} {x y : List Int} {dn : List Wr} {ol : List Nat} {aq ar : Option Addr} (h : Bytes w xb bb q r k n x y dn ol aq ar) (hb : Below w.heap.size w w') : Bytes w' xb bb q r k n x y dn ol aq ar :=
  { h with
    xc := fun b hb' => (hb.cell (p := ⟨xb, b, none⟩) (World.block_lt_of_cell? _ _ (h.xc b hb'))).trans (h.xc b hb')
    bc := fun b hb' => (hb.cell (p := ⟨bb, n * 64 + b, none⟩) (World.block_lt_of_cell? _ _ (h.bc b hb'))).trans (h.bc b hb')
    dc := fun j hj b hb' => (hb.cell (p := ⟨q, j * 65 + 1 + b, none⟩) (World.block_lt_of_cell? _ _ (h.dc j hj b hb'))).trans (h.dc j hj b hb')
    oc := fun t ht => (hb.cell (p := ⟨r, t, none⟩) (World.block_lt_of_cell? _ _ (h.oc t ht))).trans (h.oc t ht) }
def knownTo (x y : List Int) (dn : List Wr) (ol : List Nat) (b t : Nat) : Bool := (x.getD b 0 == y.getD b 0) || (ol.take t).any (fun j => x.getD b 0 == (wAt dn j).2.getD b 0)
theorem known_step (x y : List Int) (dn : List Wr) (ol : List Nat) (b t : Nat) (ht : t < ol.length) : knownTo x y dn ol b (t + 1) = (knownTo x y dn ol b t || (x.getD b 0 == (wAt dn (ol.getD t 0)).2.getD b 0)) := by
  unfold knownTo
  rw [take_snoc' ol t ht, List.any_append, Bool.or_assoc]
  simp [List.getD, ht]

set_option maxRecDepth 100000 in
set_option maxHeartbeats 2000000 in
theorem torn_loop7 (w : World) (xb bb q r k n cq cr b : Nat) (x y : List Int) (dn : List Wr) (ol : List Nat) (aq ar : Option Addr) (hB : Bytes w xb bb q r k n x y dn ol aq ar) (hb : b < 64) (ho : ol.length < 1000000) (kv : Bool) (hkv : kv = knownTo x y dn ol b 0)
    (Q : Exit → Act → World → Prop) {c0 c1 c2 c3 c4 c5 c6 c7 c8 c9 c11 c13 c14 c17 c19 c20 c21 c22 c25 c26 c27 c28 c29 c30 c31 c32 c33 c34 c35 c36 c37 c38 c39 c40 c41 c42 c43 c44 c45 c46 c47 c48 c49 c50 c51 c52 c53 c54 c55 c56 c57 c58 c59 c60 c61 c62 c63 c64 c65 c66 c67 c68 c69 c70 c71 c72 c73 c74 c75 c76 c77 c78 c79 c80 c81 c82 c83 c84 c85 c86 c87 c88 c89 c90 c91 c92 c93 c94 c95 c96 c97 c98 c99 c100 c101 c102 c103 c104 c105 c106 c107 c108 c109 c110 c111 c112 c113 c114 c115 c116 c117 c118 c119 c120 c121 c122 c123 c124 c125 c126 c127 c128 c129 c130 c131 c132 c133 c134 c135 c136 c137 c138 c139 c140 c141 c142 c143 c144 c145 c146 c147 c148 c149 c150 c151 c152 c153 c154 c155 c156 c157 c158 c159 c160 c161 c162 c163 c164 c165 c166 c167 c168 c169 c170 c171 c172 c173 c174 c175 c176 c177 c178 c179 c180 c181 c182 c183 c184 c185 c186 c187 c188 c189 c190 c191 c192 c193 c194 c195 c196 c200 c201 c202 c203 c204 c205 c206 c207 c208 c209 c210 c211 c212 c213 c214 c215 c216 c217 c218 c219 c220 c221 : Value}
    (hexit : ∀ (u26 u199 u200 u201 u202 u203 u204 u205 u206 u207 u208 u209 u210 u211 u212 u213 u214 u215 u216 u217 : Value) (w' : World), Below w.heap.size w w' → Q (.exit 12) ⟨#[c0, c1, c2, c3, c4, c5, c6, c7, c8, c9, .slice (some ⟨bb, 0, none⟩) k k, c11, .slice aq dn.length cq, c13, c14, .int .i64 (n : Nat), .pointer (some ⟨xb, 0, none⟩), c17, .slice ar ol.length cr, c19, c20, c21, c22, .int .i64 (b : Nat), .bool (knownTo x y dn ol b ol.length), c25, u26, c27, c28, c29, c30, c31, c32, c33, c34, c35, c36, c37, c38, c39, c40, c41, c42, c43, c44, c45, c46, c47, c48, c49, c50, c51, c52, c53, c54, c55, c56, c57, c58, c59, c60, c61, c62, c63, c64, c65, c66, c67, c68, c69, c70, c71, c72, c73, c74, c75, c76, c77, c78, c79, c80, c81, c82, c83, c84, c85, c86, c87, c88, c89, c90, c91, c92, c93, c94, c95, c96, c97, c98, c99, c100, c101, c102, c103, c104, c105, c106, c107, c108, c109, c110, c111, c112, c113, c114, c115, c116, c117, c118, c119, c120, c121, c122, c123, c124, c125, c126, c127, c128, c129, c130, c131, c132, c133, c134, c135, c136, c137, c138, c139, c140, c141, c142, c143, c144, c145, c146, c147, c148, c149, c150, c151, c152, c153, c154, c155, c156, c157, c158, c159, c160, c161, c162, c163, c164, c165, c166, c167, c168, c169, c170, c171, c172, c173, c174, c175, c176, c177, c178, c179, c180, c181, c182, c183, c184, c185, c186, c187, c188, c189, c190, c191, c192, c193, c194, c195, c196, .slice ar ol.length cr, .int .i64 (ol.length : Nat), u199, u200, u201, u202, u203, u204, u205, u206, u207, u208, u209, u210, u211, u212, u213, u214, u215, u216, u217, c218, c219, c220, c221], []⟩ w') :
    Code.wp Try.prog (.loop torn7) Q ⟨#[c0, c1, c2, c3, c4, c5, c6, c7, c8, c9, .slice (some ⟨bb, 0, none⟩) k k, c11, .slice aq dn.length cq, c13, c14, .int .i64 (n : Nat), .pointer (some ⟨xb, 0, none⟩), c17, .slice ar ol.length cr, c19, c20, c21, c22, .int .i64 (b : Nat), .bool kv, c25, c26, c27, c28, c29, c30, c31, c32, c33, c34, c35, c36, c37, c38, c39, c40, c41, c42, c43, c44, c45, c46, c47, c48, c49, c50, c51, c52, c53, c54, c55, c56, c57, c58, c59, c60, c61, c62, c63, c64, c65, c66, c67, c68, c69, c70, c71, c72, c73, c74, c75, c76, c77, c78, c79, c80, c81, c82, c83, c84, c85, c86, c87, c88, c89, c90, c91, c92, c93, c94, c95, c96, c97, c98, c99, c100, c101, c102, c103, c104, c105, c106, c107, c108, c109, c110, c111, c112, c113, c114, c115, c116, c117, c118, c119, c120, c121, c122, c123, c124, c125, c126, c127, c128, c129, c130, c131, c132, c133, c134, c135, c136, c137, c138, c139, c140, c141, c142, c143, c144, c145, c146, c147, c148, c149, c150, c151, c152, c153, c154, c155, c156, c157, c158, c159, c160, c161, c162, c163, c164, c165, c166, c167, c168, c169, c170, c171, c172, c173, c174, c175, c176, c177, c178, c179, c180, c181, c182, c183, c184, c185, c186, c187, c188, c189, c190, c191, c192, c193, c194, c195, c196, .slice ar ol.length cr, .int .i64 (ol.length : Nat), .int .i64 0, c200, c201, c202, c203, c204, c205, c206, c207, c208, c209, c210, c211, c212, c213, c214, c215, c216, c217, c218, c219, c220, c221], []⟩ w := by
  conv => arg 2; arg 1; whnf
  dsimp only at hexit ⊢
  go_loopw [24, 199] (fun v i wr => ∃ t : Nat, t ≤ ol.length ∧ v = .bool (knownTo x y dn ol b t) ∧ i = .int .i64 t ∧ Below w.heap.size w wr) (fun _ i _ => ol.length - (intOf i).toNat)
  case atStart => exact ⟨0, Nat.zero_le _, by rw [hkv], rfl, Below.refl _ _⟩
  case round =>
    obtain ⟨t, ht, rfl, rfl, hbl⟩ := hrel
    by_cases hlt : t < ol.length
    · have hBt := hB.below hbl
      have hjl := hBt.olt t hlt
      obtain rfl := hB.ra (by omega)
      obtain rfl := hB.qa (by omega)
      have o1 := hBt.oc t hlt
      have e1 := hBt.xc b hb
      have e4 := hBt.dc _ hjl b hb
      have hst := Lib.hid (known_step x y dn ol b t hlt)
      have hbI : (b : Int) < 64 := by omega
      generalize ol.getD t 0 = j at *
      generalize (wAt dn j).2.getD b 0 = z2 at *
      generalize x.getD b 0 = z1 at *
      clear hB hBt hexit
      cases hkn : knownTo x y dn ol b t
      · rw [hkn, Bool.false_or] at hst
        go_wp2_with fail
        go_quiet (fail)
        go_wp2_with fail
        go_roundw
        case rel => exact ⟨t + 1, by omega, by rw [hst.out], by go_num, below_drewN hbl nq⟩
        case measure => simp [intOf]; omega
      · rw [hkn, Bool.true_or] at hst
        go_wp2_with fail
        go_quiet (fail)
        go_wp2_with fail
        go_roundw
        case rel => exact ⟨t + 1, by omega, by rw [hst.out], by go_num, below_drewN hbl nq⟩
        case measure => simp [intOf]; omega
    · obtain rfl : t = ol.length := by omega
      go_wp2
      exact hbl
set_option maxRecDepth 100000 in
set_option maxHeartbeats 4000000 in
theorem torn_loop6 (w : World) (xb bb q r k n cq cr lr : Nat) (x y : List Int) (dn : List Wr) (ol : List Nat) (aq ar : Option Addr) (hlr : lr = ol.length) (hB : Bytes w xb bb q r k n x y dn ol aq ar) (ho : ol.length < 1000000) (hlaw : ∀ b, b < 64 → knownTo x y dn ol b ol.length = true)
    (Q : Exit → Act → World → Prop) {c0 c1 c2 c3 c4 c5 c6 c7 c8 c9 c11 c13 c14 c17 c19 c20 c21 c22 c23 c24 c25 c26 c27 c28 c29 c30 c31 c32 c33 c34 c35 c36 c37 c38 c39 c40 c41 c42 c43 c44 c45 c46 c47 c48 c49 c50 c51 c52 c53 c54 c55 c56 c57 c58 c59 c60 c61 c62 c63 c64 c65 c66 c67 c68 c69 c70 c71 c72 c73 c74 c75 c76 c77 c78 c79 c80 c81 c82 c83 c84 c85 c86 c87 c88 c89 c90 c91 c92 c93 c94 c95 c96 c97 c98 c99 c100 c101 c102 c103 c104 c105 c106 c107 c108 c109 c110 c111 c112 c113 c114 c115 c116 c117 c118 c119 c120 c121 c122 c123 c124 c125 c126 c127 c128 c129 c130 c131 c132 c133 c134 c135 c136 c137 c138 c139 c140 c141 c142 c143 c144 c145 c146 c147 c148 c149 c150 c151 c152 c153 c154 c155 c156 c157 c158 c159 c160 c161 c162 c163 c164 c165 c166 c167 c168 c169 c170 c171 c172 c173 c174 c175 c176 c177 c178 c179 c180 c181 c182 c183 c185 c186 c187 c188 c189 c190 c191 c192 c193 c194 c195 c196 c197 c198 c199 c200 c201 c202 c203 c204 c205 c206 c207 c208 c209 c210 c211 c212 c213 c214 c215 c216 c217 c218 c219 c220 c221 : Value}
    (hexit : ∀ (u8 u23 u24 u26 u184 u185 u186 u187 u188 u189 u190 u191 u192 u193 u194 u195 u196 u197 u198 u199 u200 u201 u202 u203 u204 u205 u206 u207 u208 u209 u210 u211 u212 u213 u214 u215 u216 u217 u218 u219 u220 : Value) (w' : World), Below w.heap.size w w' → Q (.exit 10) ⟨#[c0, c1, c2, c3, c4, c5, c6, c7, u8, c9, .slice (some ⟨bb, 0, none⟩) k k, c11, .slice aq dn.length cq, c13, c14, .int .i64 (n : Nat), .pointer (some ⟨xb, 0, none⟩), c17, .slice ar lr cr, c19, c20, c21, c22, u23, u24, c25, u26, c27, c28, c29, c30, c31, c32, c33, c34, c35, c36, c37, c38, c39, c40, c41, c42, c43, c44, c45, c46, c47, c48, c49, c50, c51, c52, c53, c54, c55, c56, c57, c58, c59, c60, c61, c62, c63, c64, c65, c66, c67, c68, c69, c70, c71, c72, c73, c74, c75, c76, c77, c78, c79, c80, c81, c82, c83, c84, c85, c86, c87, c88, c89, c90, c91, c92, c93, c94, c95, c96, c97, c98, c99, c100, c101, c102, c103, c104, c105, c106, c107, c108, c109, c110, c111, c112, c113, c114, c115, c116, c117, c118, c119, c120, c121, c122, c123, c124, c125, c126, c127, c128, c129, c130, c131, c132, c133, c134, c135, c136, c137, c138, c139, c140, c141, c142, c143, c144, c145, c146, c147, c148, c149, c150, c151, c152, c153, c154, c155, c156, c157, c158, c159, c160, c161, c162, c163, c164, c165, c166, c167, c168, c169, c170, c171, c172, c173, c174, c175, c176, c177, c178, c179, c180, c181, c182, c183, u184, u185, u186, u187, u188, u189, u190, u191, u192, u193, u194, u195, u196, u197, u198, u199, u200, u201, u202, u203, u204, u205, u206, u207, u208, u209, u210, u211, u212, u213, u214, u215, u216, u217, u218, u219, u220, c221], []⟩ w') :
    Code.wp Try.prog (.loop torn6) Q ⟨#[c0, c1, c2, c3, c4, c5, c6, c7, c8, c9, .slice (some ⟨bb, 0, none⟩) k k, c11, .slice aq dn.length cq, c13, c14, .int .i64 (n : Nat), .pointer (some ⟨xb, 0, none⟩), c17, .slice ar lr cr, c19, c20, c21, c22, c23, c24, c25, c26, c27, c28, c29, c30, c31, c32, c33, c34, c35, c36, c37, c38, c39, c40, c41, c42, c43, c44, c45, c46, c47, c48, c49, c50, c51, c52, c53, c54, c55, c56, c57, c58, c59, c60, c61, c62, c63, c64, c65, c66, c67, c68, c69, c70, c71, c72, c73, c74, c75, c76, c77, c78, c79, c80, c81, c82, c83, c84, c85, c86, c87, c88, c89, c90, c91, c92, c93, c94, c95, c96, c97, c98, c99, c100, c101, c102, c103, c104, c105, c106, c107, c108, c109, c110, c111, c112, c113, c114, c115, c116, c117, c118, c119, c120, c121, c122, c123, c124, c125, c126, c127, c128, c129, c130, c131, c132, c133, c134, c135, c136, c137, c138, c139, c140, c141, c142, c143, c144, c145, c146, c147, c148, c149, c150, c151, c152, c153, c154, c155, c156, c157, c158, c159, c160, c161, c162, c163, c164, c165, c166, c167, c168, c169, c170, c171, c172, c173, c174, c175, c176, c177, c178, c179, c180, c181, c182, c183, .int .i64 0, c185, c186, c187, c188, c189, c190, c191, c192, c193, c194, c195, c196, c197, c198, c199, c200, c201, c202, c203, c204, c205, c206, c207, c208, c209, c210, c211, c212, c213, c214, c215, c216, c217, c218, c219, c220, c221], []⟩ w := by
  subst hlr
  conv => arg 2; arg 1; whnf
  dsimp only at hexit ⊢
  go_loopw [184] (fun i wr => ∃ b : Nat, b ≤ 64 ∧ i = .int .i64 b ∧ Below w.heap.size w wr) (fun i _ => 64 - (intOf i).toNat)
  case atStart => exact ⟨0, Nat.zero_le _, rfl, Below.refl _ _⟩
  case round =>
    obtain ⟨b, hb, rfl, hbl⟩ := hrel
    by_cases hlt : b < 64
    · have hBt := hB.below hbl
      have e1 := hBt.xc b hlt
      have e2 := hBt.bc b hlt
      have hnk := hBt.nk
      have hbI : (b : Int) < 64 := by omega
      have hl := Lib.hid (hlaw b hlt)
      have hk0 := Lib.hid (show (x.getD b 0 == y.getD b 0) = knownTo x y dn ol b 0 by simp [knownTo])
      clear hexit hlaw
      generalize hz1 : x.getD b 0 = z1 at *
      generalize hz2 : y.getD b 0 = z2 at *
      clear hz1 hz2
      go_wp2_with fail
      go_quiet (fail)
      have hBn := hBt.below (below_drewN (Below.refl _ wr) nq)
      clear e1 e2
      go_wp2_with fail
      refine torn_loop7 _ xb bb q r k n cq cr b x y dn ol _ _ hBn hlt ho (z1 == z2) hk0.out _ ?_
      intros
      rename_i w7 hb7
      rw [hl.out]
      have hbl7 := (below_drewN hbl nq).trans (hb7.mono (below_drewN hbl nq).size)
      go_wp2_with fail
      go_roundw
      case rel => exact ⟨b + 1, by omega, by go_num, hbl7⟩
      case measure => simp [intOf]; omega
    · obtain rfl : b = 64 := by omega
      go_wp2
      exact hbl
end Go.Proofs.Ytakehkoicinlbaa.dk
