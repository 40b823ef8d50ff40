/- The loop over the bytes of a sector with a single write in confluentlaw47.DiskTorn, over its frame. -/
import Derived.Test.YtakehkoicinlbaaDTornLoops
namespace Go.Proofs.Ytakehkoicinlbaa.dk
open Go.RowKit Go.Proofs.Ytakehkoicinlbaa.agg
set_option maxRecDepth 100000 in
set_option maxHeartbeats 4000000 in
theorem torn_loop5 (w : World) (xb bb q r k n cq cr lr kk j : Nat) (x y : List Int) (dn : List Wr) (aq ar : Option Addr) (kv : Value) (hlr : lr = 1) (hkv : kv = .int .i64 (kk : Nat)) (hB : Bytes w xb bb q r k n x y dn [j] aq ar) (hlaw : ∀ b, b < 64 → x.getD b 0 = if b < kk then (wAt dn j).2.getD b 0 else y.getD b 0)
    (Q : Exit → Act → World → Prop) {c0 c1 c2 c3 c4 c5 c6 c7 c8 c9 c11 c13 c14 c17 c19 c20 c22 c23 c24 c25 c26 c27 c28 c29 c30 c31 c32 c33 c34 c35 c36 c37 c38 c39 c40 c41 c42 c43 c44 c45 c46 c47 c48 c49 c50 c51 c52 c53 c54 c55 c56 c57 c58 c59 c60 c61 c62 c63 c64 c65 c66 c67 c68 c69 c70 c71 c72 c73 c74 c75 c76 c77 c78 c79 c80 c81 c82 c83 c84 c85 c86 c87 c88 c89 c90 c91 c92 c93 c94 c95 c96 c97 c98 c99 c100 c101 c102 c103 c104 c105 c106 c107 c108 c109 c110 c111 c112 c113 c114 c115 c116 c117 c118 c119 c120 c121 c122 c123 c124 c125 c126 c127 c128 c129 c130 c131 c132 c133 c134 c135 c136 c137 c138 c139 c140 c141 c142 c143 c144 c146 c147 c148 c149 c150 c151 c152 c153 c154 c155 c156 c157 c158 c159 c160 c161 c162 c163 c164 c165 c166 c167 c168 c169 c170 c171 c172 c173 c174 c175 c176 c177 c178 c179 c180 c181 c182 c183 c184 c185 c186 c187 c188 c189 c190 c191 c192 c193 c194 c195 c196 c197 c198 c199 c200 c201 c202 c203 c204 c205 c206 c207 c208 c209 c210 c211 c212 c213 c214 c215 c216 c217 c218 c219 c220 c221 : Value}
    (hexit : ∀ (u8 u22 u145 u146 u147 u148 u149 u150 u151 u152 u153 u154 u155 u156 u157 u158 u159 u160 u161 u162 u163 u164 u165 u166 u167 u168 u169 u170 u171 u172 u173 u174 u175 u176 u177 u178 u179 u180 u181 u182 u183 : Value) (w' : World), Below w.heap.size w w' → Q (.exit 8) ⟨#[c0, c1, c2, c3, c4, c5, c6, c7, u8, c9, .slice (some ⟨bb, 0, none⟩) k k, c11, .slice aq dn.length cq, c13, c14, .int .i64 (n : Nat), .pointer (some ⟨xb, 0, none⟩), c17, .slice ar lr cr, c19, c20, kv, u22, c23, c24, c25, c26, c27, c28, c29, c30, c31, c32, c33, c34, c35, c36, c37, c38, c39, c40, c41, c42, c43, c44, c45, c46, c47, c48, c49, c50, c51, c52, c53, c54, c55, c56, c57, c58, c59, c60, c61, c62, c63, c64, c65, c66, c67, c68, c69, c70, c71, c72, c73, c74, c75, c76, c77, c78, c79, c80, c81, c82, c83, c84, c85, c86, c87, c88, c89, c90, c91, c92, c93, c94, c95, c96, c97, c98, c99, c100, c101, c102, c103, c104, c105, c106, c107, c108, c109, c110, c111, c112, c113, c114, c115, c116, c117, c118, c119, c120, c121, c122, c123, c124, c125, c126, c127, c128, c129, c130, c131, c132, c133, c134, c135, c136, c137, c138, c139, c140, c141, c142, c143, c144, u145, u146, u147, u148, u149, u150, u151, u152, u153, u154, u155, u156, u157, u158, u159, u160, u161, u162, u163, u164, u165, u166, u167, u168, u169, u170, u171, u172, u173, u174, u175, u176, u177, u178, u179, u180, u181, u182, u183, c184, c185, c186, c187, c188, c189, c190, c191, c192, c193, c194, c195, c196, c197, c198, c199, c200, c201, c202, c203, c204, c205, c206, c207, c208, c209, c210, c211, c212, c213, c214, c215, c216, c217, c218, c219, c220, c221], []⟩ w') :
    Code.wp Try.prog (.loop torn5) Q ⟨#[c0, c1, c2, c3, c4, c5, c6, c7, c8, c9, .slice (some ⟨bb, 0, none⟩) k k, c11, .slice aq dn.length cq, c13, c14, .int .i64 (n : Nat), .pointer (some ⟨xb, 0, none⟩), c17, .slice ar lr cr, c19, c20, kv, c22, c23, c24, c25, c26, c27, c28, c29, c30, c31, c32, c33, c34, c35, c36, c37, c38, c39, c40, c41, c42, c43, c44, c45, c46, c47, c48, c49, c50, c51, c52, c53, c54, c55, c56, c57, c58, c59, c60, c61, c62, c63, c64, c65, c66, c67, c68, c69, c70, c71, c72, c73, c74, c75, c76, c77, c78, c79, c80, c81, c82, c83, c84, c85, c86, c87, c88, c89, c90, c91, c92, c93, c94, c95, c96, c97, c98, c99, c100, c101, c102, c103, c104, c105, c106, c107, c108, c109, c110, c111, c112, c113, c114, c115, c116, c117, c118, c119, c120, c121, c122, c123, c124, c125, c126, c127, c128, c129, c130, c131, c132, c133, c134, c135, c136, c137, c138, c139, c140, c141, c142, c143, c144, .int .i64 0, c146, c147, c148, c149, c150, c151, c152, c153, c154, c155, c156, c157, c158, c159, c160, c161, c162, c163, c164, c165, c166, c167, c168, c169, c170, c171, c172, c173, c174, c175, c176, c177, c178, c179, c180, c181, c182, c183, c184, c185, c186, c187, c188, c189, c190, c191, c192, c193, c194, c195, c196, c197, c198, c199, c200, c201, c202, c203, c204, c205, c206, c207, c208, c209, c210, c211, c212, c213, c214, c215, c216, c217, c218, c219, c220, c221], []⟩ w := by
  subst hlr hkv
  conv => arg 2; arg 1; whnf
  dsimp only at hexit ⊢
  go_loopw [145] (fun i wr => ∃ b : Nat, b ≤ 64 ∧ i = .int .i64 b ∧ Below w.heap.size w wr) (fun i _ => 64 - (intOf i).toNat)
  case atStart => exact ⟨0, Nat.zero_le _, rfl, Below.refl _ _⟩
  case round =>
    obtain ⟨b, hb, rfl, hbl⟩ := hrel
    by_cases hlt : b < 64
    · have hBt := hB.below hbl
      obtain rfl := hB.ra (by simp)
      obtain rfl := hB.qa (by have := hBt.olt 0 (by simp); omega)
      have e1 := hBt.xc b hlt
      have e2 := hBt.bc b hlt
      have o1 := hBt.oc 0 (by simp)
      have hjl := hBt.olt 0 (by simp)
      simp only [List.getD_eq_getElem?_getD, List.getElem?_cons_zero, Option.getD_some] at o1 hjl
      have e4 := hBt.dc j hjl b hlt
      have hnk := hBt.nk
      have hbI : (b : Int) < 64 := by omega
      have hl := hlaw b hlt
      clear hexit hlaw
      by_cases hbk : b < kk
      · rw [if_pos hbk] at hl
        rw [hl] at e1
        have hbkN : decide (kk ≤ b) = false := by simpa using hbk
        have hbkM : ¬ kk ≤ b := by omega
        generalize (wAt dn j).2.getD b 0 = z at *
        generalize y.getD b 0 = z2 at *
        clear hl
        go_wp2_with fail
        go_quiet (fail)
        go_wp2_with fail
        go_roundw
        case rel => exact ⟨b + 1, by omega, by go_num, below_drewN hbl nq⟩
        case measure => simp [intOf]; omega
      · rw [if_neg hbk] at hl
        rw [hl] at e1
        have hbkN : decide (b < kk) = false := by simpa using hbk
        have hbkM : kk ≤ b := by omega
        generalize (wAt dn j).2.getD b 0 = z2 at *
        generalize y.getD b 0 = z at *
        clear hl
        go_wp2_with fail
        go_quiet (fail)
        go_wp2_with fail
        go_roundw
        case rel => exact ⟨b + 1, by omega, by go_num, below_drewN hbl nq⟩
        case measure => simp [intOf]; omega
    · obtain rfl : b = 64 := by omega
      go_wp2
      exact hbl
end Go.Proofs.Ytakehkoicinlbaa.dk
