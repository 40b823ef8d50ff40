/- The library's strings.IndexByte, strings.HasPrefix, strings.Fields and strconv.Atoi at this dump: laid by the kit's lay-shelf.mjs and lay-plain.mjs (the numbers are this seat's). The walks of the lexer's symbol, begins and skip. The walks of the lexer's begins and skip. The lexer's map of keywords: how it lies, a look-up in it, and the walk of keywords. -/
import Derived.Shelf.Small.Strs
import Derived.Shelf.Strings.Search1
import Derived.Shelf.Strings.Prefix
import Derived.Shelf.Strings.Fields
import Derived.Shelf.Strconv.Atoi
import Derived.Test.YthggagophcnkfaaGreatDoorProg
import Derived.Test.YthggagophcnkfaaGreatDoorM2
import Derived.MapKept
import Derived.ChangeMaps5
import Derived.Carry
import Derived.Maps.Own
namespace Go.Proofs.YthggagophcnkfaaGreatDoor.sh
open Go.Shelf
def lays137_ren : Go.Shelf.Ren := ⟨fun | 137 => 147 | 217 => 173 | 266 => 185 | n => n, fun | 9 => 9 | 5 => 5 | 3 => 3 | n => n, fun | n => n⟩
theorem lays137 : Go.Proofs.Lays.n137 Tryz.prog lays137_ren := {
 mixed := by kernel_rfl
 f137 := Tryz.func147.trans (congrArg some (by kernel_rfl))
 f217 := Tryz.func173.trans (congrArg some (by kernel_rfl))
 f266 := Tryz.func185.trans (congrArg some (by kernel_rfl))
 t3 := Tryz.underlying3
 a3 := Tryz.isAgg3
 z3 := Tryz.sizeOf3
 v3 := Tryz.zeroValue3
 t5 := Tryz.underlying5
 a5 := Tryz.isAgg5
 z5 := Tryz.sizeOf5
 v5 := Tryz.zeroValue5
 t9 := Tryz.underlying9
 a9 := Tryz.isAgg9
 z9 := Tryz.sizeOf9
 v9 := Tryz.zeroValue9 }
theorem strings_IndexByte (s : ByteArray) (c : Int) (w : World) :
 Calls Tryz.prog 147 #[.string s, .int .u8 c] w fun e w' => e = .returned (.int .i64 (Lib.indexByte s.data.toList c.toNat.toUInt8)) ∧ w' = w := Any.strings_IndexByte lays137 s c w
def lays99_ren : Go.Shelf.Ren := ⟨fun | 99 => 146 | 206 => 172 | n => n, fun | 9 => 9 | 4 => 4 | 3 => 3 | n => n, fun | n => n⟩
theorem lays99 : Go.Proofs.Lays.n99 Tryz.prog lays99_ren := {
 mixed := by kernel_rfl
 f99 := Tryz.func146.trans (congrArg some (by kernel_rfl))
 f206 := Tryz.func172.trans (congrArg some (by kernel_rfl))
 t3 := Tryz.underlying3
 a3 := Tryz.isAgg3
 z3 := Tryz.sizeOf3
 v3 := Tryz.zeroValue3
 t4 := Tryz.underlying4
 a4 := Tryz.isAgg4
 z4 := Tryz.sizeOf4
 v4 := Tryz.zeroValue4
 t9 := Tryz.underlying9
 a9 := Tryz.isAgg9
 z9 := Tryz.sizeOf9
 v9 := Tryz.zeroValue9 }
theorem strings_HasPrefix (s p : ByteArray) (w : World) :
 Calls Tryz.prog 146 #[.string s, .string p] w fun e w' => e = .returned (.bool (Lib.hasPrefix s.data.toList p.data.toList)) ∧ w' = w := Any.strings_HasPrefix lays99 s p w
def lays157_ren : Go.Shelf.Ren := ⟨fun | 157 => 144 | 229 => 170 | 199 => 171 | 261 => 184 | 311 => 192 | 312 => 193 | n => n, fun | 9 => 9 | 31 => 52 | 3 => 3 | 5 => 5 | 4 => 4 | 119 => 151 | 0 => 0 | 40 => 156 | 152 => 167 | 21 => 21 | 154 => 169 | 51 => 170 | 141 => 172 | 196 => 183 | 193 => 180 | 198 => 186 | 49 => 184 | 194 => 181 | 201 => 189 | 226 => 195 | 46 => 152 | 227 => 196 | n => n, fun | 0 => 2 | 6 => 4 | n => n⟩
theorem lays157 : Go.Proofs.Lays.n157 Tryz.prog lays157_ren := {
 mixed := by kernel_rfl
 f157 := Tryz.func144.trans (congrArg some (by kernel_rfl))
 f199 := Tryz.func171.trans (congrArg some (by kernel_rfl))
 f229 := Tryz.func170.trans (congrArg some (by kernel_rfl))
 f261 := Tryz.func184.trans (congrArg some (by kernel_rfl))
 f311 := Tryz.func192.trans (congrArg some (by kernel_rfl))
 f312 := Tryz.func193.trans (congrArg some (by kernel_rfl))
 t0 := Tryz.underlying0
 a0 := Tryz.isAgg0
 z0 := Tryz.sizeOf0
 v0 := Tryz.zeroValue0
 t3 := Tryz.underlying3
 a3 := Tryz.isAgg3
 z3 := Tryz.sizeOf3
 v3 := Tryz.zeroValue3
 t4 := Tryz.underlying4
 a4 := Tryz.isAgg4
 z4 := Tryz.sizeOf4
 v4 := Tryz.zeroValue4
 t5 := Tryz.underlying5
 a5 := Tryz.isAgg5
 z5 := Tryz.sizeOf5
 v5 := Tryz.zeroValue5
 t9 := Tryz.underlying9
 a9 := Tryz.isAgg9
 z9 := Tryz.sizeOf9
 v9 := Tryz.zeroValue9
 t21 := Tryz.underlying21
 a21 := Tryz.isAgg21
 z21 := Tryz.sizeOf21
 v21 := Tryz.zeroValue21
 t31 := Tryz.underlying52
 a31 := Tryz.isAgg52
 z31 := Tryz.sizeOf52
 v31 := Tryz.zeroValue52
 t40 := Tryz.underlying156
 a40 := Tryz.isAgg156
 z40 := Tryz.sizeOf156
 v40 := Tryz.zeroValue156
 t46 := Tryz.underlying152
 a46 := Tryz.isAgg152
 z46 := Tryz.sizeOf152
 v46 := Tryz.zeroValue152
 t49 := Tryz.underlying184
 a49 := Tryz.isAgg184
 z49 := Tryz.sizeOf184
 v49 := Tryz.zeroValue184
 t51 := Tryz.underlying170
 a51 := Tryz.isAgg170
 z51 := Tryz.sizeOf170
 v51 := Tryz.zeroValue170
 t119 := Tryz.underlying151
 a119 := Tryz.isAgg151
 z119 := Tryz.sizeOf151
 t141 := Tryz.underlying172
 a141 := Tryz.isAgg172
 z141 := Tryz.sizeOf172
 v141 := Tryz.zeroValue172
 t152 := Tryz.underlying167
 a152 := Tryz.isAgg167
 z152 := Tryz.sizeOf167
 v152 := Tryz.zeroValue167
 t154 := Tryz.underlying169
 a154 := Tryz.isAgg169
 z154 := Tryz.sizeOf169
 v154 := Tryz.zeroValue169
 t193 := Tryz.underlying180
 a193 := Tryz.isAgg180
 z193 := Tryz.sizeOf180
 v193 := Tryz.zeroValue180
 t194 := Tryz.underlying181
 a194 := Tryz.isAgg181
 z194 := Tryz.sizeOf181
 v194 := Tryz.zeroValue181
 t196 := Tryz.underlying183
 a196 := Tryz.isAgg183
 z196 := Tryz.sizeOf183
 v196 := Tryz.zeroValue183
 t198 := Tryz.underlying186
 a198 := Tryz.isAgg186
 z198 := Tryz.sizeOf186
 v198 := Tryz.zeroValue186
 t201 := Tryz.underlying189
 a201 := Tryz.isAgg189
 z201 := Tryz.sizeOf189
 v201 := Tryz.zeroValue189
 t226 := Tryz.underlying195
 a226 := Tryz.isAgg195
 z226 := Tryz.sizeOf195
 v226 := Tryz.zeroValue195
 t227 := Tryz.underlying196
 a227 := Tryz.isAgg196
 z227 := Tryz.sizeOf196
 v227 := Tryz.zeroValue196
 g0 := by kernel_rfl
 g6 := by kernel_rfl }
theorem strings_Fields (s : ByteArray) (w : World) (hs : s.size < 4294967281) (hascii : ∀ (j : Nat) b, s.data.toList[j]? = some b → b.toNat < 128) (htab : Lib.TabIs Tryz.prog w "strings.asciiSpace" .u8 Lib.asciiSpaceTab) :
 Calls Tryz.prog 144 #[.string s] w fun e w' =>
  e = .returned (.slice (some ⟨w.heap.size, 0, none⟩) (Lib.fields s.data.toList).length (Lib.fields s.data.toList).length) ∧ w' = w.alloc (.cells ((Lib.fields s.data.toList).map fun l => Value.string ⟨l.toArray⟩).toArray 9) := Any.strings_Fields lays157 (by kernel_rfl) (by kernel_rfl) s w hs hascii htab
def lays172_ren : Go.Shelf.Ren := ⟨fun | 172 => 116 | 244 => 150 | 245 => 151 | 247 => 174 | 279 => 175 | 280 => 176 | 281 => 177 | 282 => 178 | 287 => 186 | 316 => 187 | 171 => 189 | 205 => 188 | 321 => 194 | 322 => 195 | 243 => 196 | 246 => 198 | 283 => 200 | 284 => 201 | 285 => 202 | 286 => 203 | 129 => 205 | 317 => 204 | 318 => 206 | 319 => 207 | 320 => 208 | 337 => 209 | 338 => 210 | n => n, fun | 9 => 9 | 3 => 3 | 75 => 97 | 76 => 99 | 4 => 4 | 5 => 5 | 167 => 160 | 37 => 51 | 0 => 0 | 85 => 161 | 2 => 2 | 168 => 163 | 53 => 173 | 175 => 174 | 46 => 152 | 210 => 177 | 127 => 130 | 145 => 194 | 143 => 192 | 21 => 21 | 171 => 198 | 173 => 201 | 212 => 204 | 51 => 170 | 20 => 20 | 213 => 205 | 232 => 209 | 233 => 210 | 80 => 101 | n => n, fun | 15 => 5 | 16 => 6 | 17 => 7 | 18 => 8 | 19 => 9 | n => n⟩
theorem lays172 : Go.Proofs.Lays.n172 Tryz.prog lays172_ren := {
 mixed := by kernel_rfl
 f129 := Tryz.func205.trans (congrArg some (by kernel_rfl))
 f171 := Tryz.func189.trans (congrArg some (by kernel_rfl))
 f172 := Tryz.func116.trans (congrArg some (by kernel_rfl))
 f205 := Tryz.func188.trans (congrArg some (by kernel_rfl))
 f243 := Tryz.func196.trans (congrArg some (by kernel_rfl))
 f244 := Tryz.func150.trans (congrArg some (by kernel_rfl))
 f245 := Tryz.func151.trans (congrArg some (by kernel_rfl))
 f246 := Tryz.func198.trans (congrArg some (by kernel_rfl))
 f247 := Tryz.func174.trans (congrArg some (by kernel_rfl))
 f279 := Tryz.func175.trans (congrArg some (by kernel_rfl))
 f280 := Tryz.func176.trans (congrArg some (by kernel_rfl))
 f281 := Tryz.func177.trans (congrArg some (by kernel_rfl))
 f282 := Tryz.func178.trans (congrArg some (by kernel_rfl))
 f283 := Tryz.func200.trans (congrArg some (by kernel_rfl))
 f284 := Tryz.func201.trans (congrArg some (by kernel_rfl))
 f285 := Tryz.func202.trans (congrArg some (by kernel_rfl))
 f286 := Tryz.func203.trans (congrArg some (by kernel_rfl))
 f287 := Tryz.func186.trans (congrArg some (by kernel_rfl))
 f316 := Tryz.func187.trans (congrArg some (by kernel_rfl))
 f317 := Tryz.func204.trans (congrArg some (by kernel_rfl))
 f318 := Tryz.func206.trans (congrArg some (by kernel_rfl))
 f319 := Tryz.func207.trans (congrArg some (by kernel_rfl))
 f320 := Tryz.func208.trans (congrArg some (by kernel_rfl))
 f321 := Tryz.func194.trans (congrArg some (by kernel_rfl))
 f322 := Tryz.func195.trans (congrArg some (by kernel_rfl))
 f337 := Tryz.func209.trans (congrArg some (by kernel_rfl))
 f338 := Tryz.func210.trans (congrArg some (by kernel_rfl))
 t0 := Tryz.underlying0
 a0 := Tryz.isAgg0
 z0 := Tryz.sizeOf0
 v0 := Tryz.zeroValue0
 t2 := Tryz.underlying2
 a2 := Tryz.isAgg2
 z2 := Tryz.sizeOf2
 v2 := Tryz.zeroValue2
 t3 := Tryz.underlying3
 a3 := Tryz.isAgg3
 z3 := Tryz.sizeOf3
 v3 := Tryz.zeroValue3
 t4 := Tryz.underlying4
 a4 := Tryz.isAgg4
 z4 := Tryz.sizeOf4
 v4 := Tryz.zeroValue4
 t5 := Tryz.underlying5
 a5 := Tryz.isAgg5
 z5 := Tryz.sizeOf5
 v5 := Tryz.zeroValue5
 t9 := Tryz.underlying9
 a9 := Tryz.isAgg9
 z9 := Tryz.sizeOf9
 v9 := Tryz.zeroValue9
 t20 := Tryz.underlying20
 a20 := Tryz.isAgg20
 z20 := Tryz.sizeOf20
 v20 := Tryz.zeroValue20
 t21 := Tryz.underlying21
 a21 := Tryz.isAgg21
 z21 := Tryz.sizeOf21
 v21 := Tryz.zeroValue21
 t37 := Tryz.underlying51
 a37 := Tryz.isAgg51
 z37 := Tryz.sizeOf51
 v37 := Tryz.zeroValue51
 t46 := Tryz.underlying152
 a46 := Tryz.isAgg152
 z46 := Tryz.sizeOf152
 v46 := Tryz.zeroValue152
 t51 := Tryz.underlying170
 a51 := Tryz.isAgg170
 z51 := Tryz.sizeOf170
 v51 := Tryz.zeroValue170
 t53 := Tryz.underlying173
 a53 := Tryz.isAgg173
 z53 := Tryz.sizeOf173
 v53 := Tryz.zeroValue173
 t75 := Tryz.underlying97
 a75 := Tryz.isAgg97
 z75 := Tryz.sizeOf97
 v75 := Tryz.zeroValue97
 t76 := Tryz.underlying99
 a76 := Tryz.isAgg99
 z76 := Tryz.sizeOf99
 v76 := Tryz.zeroValue99
 t85 := Tryz.underlying161
 a85 := Tryz.isAgg161
 z85 := Tryz.sizeOf161
 v85 := Tryz.zeroValue161
 t127 := Tryz.underlying130
 a127 := Tryz.isAgg130
 z127 := Tryz.sizeOf130
 v127 := Tryz.zeroValue130
 t143 := Tryz.underlying192
 a143 := Tryz.isAgg192
 z143 := Tryz.sizeOf192
 v143 := Tryz.zeroValue192
 t145 := Tryz.underlying194
 a145 := Tryz.isAgg194
 z145 := Tryz.sizeOf194
 v145 := Tryz.zeroValue194
 t167 := Tryz.underlying160
 a167 := Tryz.isAgg160
 z167 := Tryz.sizeOf160
 v167 := Tryz.zeroValue160
 t168 := Tryz.underlying163
 a168 := Tryz.isAgg163
 z168 := Tryz.sizeOf163
 v168 := Tryz.zeroValue163
 t171 := Tryz.underlying198
 a171 := Tryz.isAgg198
 z171 := Tryz.sizeOf198
 v171 := Tryz.zeroValue198
 t173 := Tryz.underlying201
 a173 := Tryz.isAgg201
 z173 := Tryz.sizeOf201
 v173 := Tryz.zeroValue201
 t175 := Tryz.underlying174
 a175 := Tryz.isAgg174
 z175 := Tryz.sizeOf174
 v175 := Tryz.zeroValue174
 t210 := Tryz.underlying177
 a210 := Tryz.isAgg177
 z210 := Tryz.sizeOf177
 v210 := Tryz.zeroValue177
 t212 := Tryz.underlying204
 a212 := Tryz.isAgg204
 z212 := Tryz.sizeOf204
 v212 := Tryz.zeroValue204
 t213 := Tryz.underlying205
 a213 := Tryz.isAgg205
 z213 := Tryz.sizeOf205
 t232 := Tryz.underlying209
 a232 := Tryz.isAgg209
 z232 := Tryz.sizeOf209
 v232 := Tryz.zeroValue209
 t233 := Tryz.underlying210
 a233 := Tryz.isAgg210
 z233 := Tryz.sizeOf210
 v233 := Tryz.zeroValue210
 g15 := by kernel_rfl
 g16 := by kernel_rfl
 g17 := by kernel_rfl
 g18 := by kernel_rfl
 g19 := by kernel_rfl }
theorem strconv_Atoi (s : ByteArray) (n : Int) (hl : s.size ≤ 18) (h : Lib.atoi s.data.toList = some n) (w : World) :
 Calls Tryz.prog 116 #[.string s] w fun e w' => e = .returned (.tuple #[.int .i64 n, .nilIface]) ∧ ∃ t, w' = Lib.bytesWorld w 5 t := Any.strconv_Atoi lays172 s n hl h w
end Go.Proofs.YthggagophcnkfaaGreatDoor.sh
namespace Go.Proofs.YthggagophcnkfaaGreatDoor.lx
open Go.RowKit Go.Proofs.YthggagophcnkfaaGreatDoor.agg Go.Proofs.YthggagophcnkfaaGreatDoor.sx
set_option linter.unusedSimpArgs false
set_option linter.unusedVariables false
theorem prefix_walk (s p : ByteArray) (w : World) : Calls Tryz.prog 146 #[.string s, .string p] w fun e w' => e = .returned (.bool (Lib.hasPrefix s.data.toList p.data.toList)) ∧ w = w' :=
 (sh.strings_HasPrefix s p w).mono fun _ _ h => ⟨h.1, h.2.symm⟩
theorem byte_walk (s : ByteArray) (c : UInt8) (w : World) : Calls Tryz.prog 147 #[.string s, .int .u8 c.toNat] w fun e w' => e = .returned (.int .i64 (Lib.indexByte s.data.toList c)) ∧ w = w' := by
 refine (sh.strings_IndexByte s c.toNat w).mono fun _ _ h => ⟨?_, h.2.symm⟩
 rw [h.1]
 have e : (c.toNat : Int).toNat.toUInt8 = c := by
  rw [Int.toNat_natCast]
  exact UInt8.toNat_inj.1 (by rw [Nat.toUInt8, UInt8.toNat_ofNat']; have := c.toNat_lt; omega)
 rw [e]
theorem index_has (l : List UInt8) (c : UInt8) : (decide (0 ≤ Lib.indexByte l c)) = l.contains c := by
 induction l with
 | nil => rfl
 | cons b l ih =>
  rw [Lib.indexByte, List.contains_cons]
  by_cases h : b = c
  ·subst h; simp
  ·have h1 : (b == c) = false := by simpa using h
   have h2 : (c == b) = false := by simpa using fun e => h e.symm
   rw [h1, h2, Bool.false_or, ← ih]
   simp only [Bool.false_eq_true, if_false]
   have := Lib.indexByte_ge l c
   by_cases h3 : Lib.indexByte l c = -1
   ·rw [h3]; decide
   ·have h4 : (Lib.indexByte l c == -1) = false := by simpa using h3
    rw [h4]
    simp only [Bool.false_eq_true, if_false]
    rw [decide_eq_true (by omega), decide_eq_true (by omega)]
def twos : List (List UInt8) := [[61, 61], [33, 61], [60, 61], [62, 61], [46, 46]]
theorem prefix2 (l : List UInt8) (a b : UInt8) : Lib.hasPrefix l [a, b] = match l with | x :: y :: _ => x == a && y == b | _ => false := by
 unfold Lib.hasPrefix
 match l with
 | [] => rfl
 | [x] => simp [List.isPrefixOf]
 | x :: y :: l =>
  simp only [List.isPrefixOf, Bool.and_true]
  rw [Bool.beq_comm (a := a), Bool.beq_comm (a := b)]
theorem symN_two {l : List UInt8} (i : Nat) (hi : i < 5) (h : Lib.hasPrefix l (twos[i]'hi) = true) : symN l = 2 := by
 have h1 : two (l.headD 0) (l.tail.headD 0) = true ∧ 2 ≤ l.length := by
  match i, hi with
  | 0, _ | 1, _ | 2, _ | 3, _ | 4, _ =>
   simp only [twos, List.getElem_cons_zero, List.getElem_cons_succ, prefix2] at h
   match l, h with
   | x :: y :: l, h =>
    simp only [List.headD_cons, List.tail_cons, List.length_cons]
    simp only [Bool.and_eq_true, beq_iff_eq] at h
    obtain ⟨rfl, rfl⟩ := h
    exact ⟨by decide, by omega⟩
 match l, h1 with
 | x :: y :: l, h1 =>
  have h2 : two x y = true := h1.1
  rw [symN, if_pos h2]
theorem symN_one {l : List UInt8} (h : ∀ i (hi : i < 5), Lib.hasPrefix l (twos[i]'hi) = false) : symN l = if ones.contains (l.headD 0) then 1 else 0 := by
 match l with
 | [] => rfl
 | [a] => rfl
 | x :: y :: l =>
  have h0 := h 0 (by decide)
  have h1 := h 1 (by decide)
  have h2 := h 2 (by decide)
  have h3 := h 3 (by decide)
  have h4 := h 4 (by decide)
  simp only [twos, List.getElem_cons_zero, List.getElem_cons_succ, prefix2] at h0 h1 h2 h3 h4
  have ht : two x y = false := by
   unfold two
   rw [h0, h1, h2, h3, h4]
   rfl
  rw [symN, if_neg (by rw [ht]; simp)]
  rfl
set_option maxRecDepth 100000 in
set_option maxHeartbeats 2000000 in
theorem symbol_walk (w : World) (s : ByteArray) (hs : s.size ≤ 100000) :
 Calls Tryz.prog 109 #[.string s] w fun e w' => e = .returned (.int .i64 ((symN s.data.toList : Nat) : Int)) ∧ Below w.heap.size w w' := by
 have hP := Lib.hid (fun (p : ByteArray) (W : World) => prefix_walk s p W)
 have hI := Lib.hid (fun (c : UInt8) (W : World) => byte_walk ⟨#[60, 62, 61, 43, 45, 42, 40, 41, 123, 125, 44, 58, 59]⟩ c W)
 have hlen : s.data.toList.length = s.size := rfl
 go_enter Tryz.func109, Tryz.ntmps109
 go_wp2_with fail
 go_loop [7] (fun i => ∃ j : Nat, j ≤ 5 ∧ i = .int .i64 j ∧ Hid (∀ i (hi : i < 5), i < j → Lib.hasPrefix s.data.toList (twos[i]'hi) = false)) (fun i => 5 - (intOf i).toNat)
 case atStart => exact ⟨0, by omega, rfl, fun i _ h0 => by omega⟩
 case round =>
  obtain ⟨j, hj, rfl, hn⟩ := hrel
  by_cases hlt : j < 5
  ·have hj5 : j = 0 ∨ j = 1 ∨ j = 2 ∨ j = 3 ∨ j = 4 := by omega
   have hnext := Lib.hid (fun (h0 : Lib.hasPrefix s.data.toList (twos[j]'hlt) = false) => (fun i hi hij => by
    by_cases e : i = j
    ·subst e; exact h0
    ·exact hn.out i hi (by omega) : ∀ i (hi : i < 5), i < j + 1 → Lib.hasPrefix s.data.toList (twos[i]'hi) = false))
   have htwo := Lib.hid (fun (h0 : Lib.hasPrefix s.data.toList (twos[j]'hlt) = true) => symN_two j hlt h0)
   have hC := Lib.hid (fun (W : World) => hP.out ⟨(twos[j]'hlt).toArray⟩ W)
   clear hn hP hI
   rcases hj5 with rfl | rfl | rfl | rfl | rfl <;> simp only [twos, List.getElem_cons_zero, List.getElem_cons_succ] at hnext htwo hC <;> generalize Lib.hasPrefix s.data.toList _ = b at * <;> cases b
   all_goals
    go_wp2_with (go_at_call 146; refine (hC.out _).mono ?_; rintro e _ ⟨rfl, rfl⟩)
   all_goals first
    | (go_round
       case rel => first | exact ⟨1, by decide, rfl, hnext.out trivial⟩ | exact ⟨2, by decide, rfl, hnext.out trivial⟩ | exact ⟨3, by decide, rfl, hnext.out trivial⟩ | exact ⟨4, by decide, rfl, hnext.out trivial⟩ | exact ⟨5, by decide, rfl, hnext.out trivial⟩
       case measure => simp [intOf])
    | (go_ret; exact ⟨by rw [htwo.out trivial]; rfl, (Below.refl _ w).alloc (Nat.le_refl _) _⟩)
  ·obtain rfl : j = 5 := by omega
   have hone := Lib.hid (symN_one (fun i hi => hn.out i hi hi))
   clear hn hP
   by_cases h0 : s = ⟨#[]⟩
   ·subst h0
    go_wp2_with fail
    go_ret
    exact ⟨by rw [hone.out]; rfl, (Below.refl _ w).alloc (Nat.le_refl _) _⟩
   ·obtain ⟨c, hc, hpos⟩ : ∃ c, s.data.toList.headD 0 = c ∧ ∃ h : 0 < s.size, s[0] = c := by
     refine ⟨_, rfl, ?_⟩
     obtain ⟨⟨l⟩⟩ := s
     cases l with
     | nil => exact absurd rfl h0
     | cons a l => exact ⟨by simp [ByteArray.size], rfl⟩
    obtain ⟨hp, hs0⟩ := hpos
    have he : s.toList = s.data.toList := ByteArray.toList_eq s
    have he2 : (s.toList == ([] : List UInt8)) = false := by
     rw [he]
     cases hx : s.data.toList with
     | nil => rw [hx] at hlen; simp at hlen; omega
     | cons a l => rfl
    have he3 : s.toList.isEmpty = false := by
     rw [he]
     cases hx : s.data.toList with
     | nil => rw [hx] at hlen; simp at hlen; omega
     | cons a l => rfl
    have hC := Lib.hid (fun (W : World) => hI.out s[0] W)
    have hx : Hid ((decide (0 ≤ Lib.indexByte [60, 62, 61, 43, 45, 42, 40, 41, 123, 125, 44, 58, 59] c)) = ones.contains c) := index_has _ c
    rw [hc] at hone
    rw [hs0] at hC
    clear hI h0 hc he
    have hge := Lib.indexByte_ge [60, 62, 61, 43, 45, 42, 40, 41, 123, 125, 44, 58, 59] c
    have hC2 : Hid (∀ W : World, Calls Tryz.prog 147 #[.string ⟨#[60, 62, 61, 43, 45, 42, 40, 41, 123, 125, 44, 58, 59]⟩, .int .u8 c.toNat] W fun e w' => e = .returned (.int .i64 (Lib.indexByte [60, 62, 61, 43, 45, 42, 40, 41, 123, 125, 44, 58, 59] c)) ∧ W = w') := hC.out
    clear hC
    generalize Lib.indexByte [60, 62, 61, 43, 45, 42, 40, 41, 123, 125, 44, 58, 59] c = r at *
    generalize ones.contains c = b at *
    by_cases hr : 0 ≤ r
    ·have hb : Hid (b = true) := by rw [← hx.out]; exact decide_eq_true hr
     clear hx
     go_wp2_with (go_at_call 147; refine (hC2.out _).mono ?_; rintro e _ ⟨rfl, rfl⟩)
     go_ret
     exact ⟨by rw [hone.out, hb.out]; rfl, (Below.refl _ w).alloc (Nat.le_refl _) _⟩
    ·have hb : Hid (b = false) := by rw [← hx.out]; exact decide_eq_false hr
     clear hx
     have hr2 : r < 0 := by omega
     clear hr
     go_wp2_with (go_at_call 147; refine (hC2.out _).mono ?_; rintro e _ ⟨rfl, rfl⟩)
     go_ret
     exact ⟨by rw [hone.out, hb.out]; rfl, (Below.refl _ w).alloc (Nat.le_refl _) _⟩
end Go.Proofs.YthggagophcnkfaaGreatDoor.lx
namespace Go.Proofs.YthggagophcnkfaaGreatDoor.lx
open Go.RowKit Go.Proofs.YthggagophcnkfaaGreatDoor.agg Go.Proofs.YthggagophcnkfaaGreatDoor.sx
set_option linter.unusedSimpArgs false
set_option linter.unusedVariables false
theorem part_test : TestFn 107 partB := ⟨enters_of Tryz.func107 (by kernel_rfl) rfl, part_fn⟩
theorem digit_test : TestFn 108 digitB := ⟨enters_of Tryz.func108 (by kernel_rfl) rfl, digit_fn⟩
theorem skip1_test : TestFn 145 (fun c => c != 10) := ⟨enters_of Tryz.func145 (by kernel_rfl) rfl, skip1_fn⟩
set_option maxHeartbeats 1000000 in
theorem begins_walk (w : World) (s : ByteArray) (hs : s.size ≤ 100000) (h0 : 0 < s.size) :
 Calls Tryz.prog 111 #[.string s] w fun e w' => e = .returned (.bool (beginsB s.data.toList)) ∧ Below w.heap.size w w' := by
 obtain ⟨c, hc⟩ : ∃ c, s[0] = c := ⟨_, rfl⟩
 have hb : Hid (beginsB s.data.toList = (letterB c || digitB c || decide (0 < symN s.data.toList))) := by
  obtain ⟨⟨l⟩⟩ := s
  cases l with
  | nil => exact absurd h0 (by simp [ByteArray.size])
  | cons a l =>
   have : a = c := hc
   subst this
   rfl
 rw [hb.out]
 have hL := Lib.hid (fun (W : World) => letter_fn c W)
 have hD := Lib.hid (fun (W : World) => digit_fn c W)
 have hS := Lib.hid (fun (W : World) => symbol_walk W s hs)
 have hlen := symN_le s.data.toList
 have hll : s.data.toList.length = s.size := rfl
 rw [← hc] at hL hD
 rw [← hc]
 clear hb hc
 generalize letterB s[0] = x at *
 generalize digitB s[0] = y at *
 obtain ⟨n, hn⟩ : ∃ n, symN s.data.toList = n := ⟨_, rfl⟩
 rw [hn] at hS hlen ⊢
 clear hn
 obtain ⟨_, hlen⟩ := hlen
 cases x with
 | true =>
  go_enter Tryz.func111, Tryz.ntmps111
  go_wp2_with (first
   | (go_at_call 105; refine (hL.out _).mono ?_; rintro e _ ⟨rfl, rfl⟩))
  go_ret
  exact ⟨rfl, Below.refl _ _⟩
 | false =>
  cases y with
  | true =>
   go_enter Tryz.func111, Tryz.ntmps111
   go_wp2_with (first
    | (go_at_call 105; refine (hL.out _).mono ?_; rintro e _ ⟨rfl, rfl⟩)
    | (go_at_call 108; refine (hD.out _).mono ?_; rintro e _ ⟨rfl, rfl⟩))
   go_ret
   exact ⟨rfl, Below.refl _ _⟩
  | false =>
   go_enter Tryz.func111, Tryz.ntmps111
   go_wp2_with (first
    | (go_at_call 105; refine (hL.out _).mono ?_; rintro e _ ⟨rfl, rfl⟩)
    | (go_at_call 108; refine (hD.out _).mono ?_; rintro e _ ⟨rfl, rfl⟩)
    | (go_at_call 109; refine (hS.out _).mono ?_; rintro e w1 ⟨rfl, hb1⟩))
   go_ret
   exact ⟨by simp, hb1⟩
theorem skip_comment (l : List UInt8) : skipS true l = cntN (fun c => c != 10) l + skipS false (l.drop (cntN (fun c => c != 10) l)) := by
 induction l with
 | nil => rfl
 | cons c l ih =>
  rw [skipS, cntN]
  by_cases h : c = 10
  ·subst h; simp [skipS, whiteB]
  ·have h1 : (c == 10) = false := by simpa using h
   have h2 : (c != 10) = true := by simpa using h
   rw [h1, h2]
   simp only [Bool.false_eq_true, if_false, if_true, List.drop_succ_cons]
   omega
theorem skip_white {c : UInt8} {l : List UInt8} (h : whiteB c = true) : skipS false (c :: l) = 1 + skipS false l := by
 rw [skipS, if_pos h, Nat.add_comm]
theorem skip_hash {l : List UInt8} : skipS false (35 :: l) = cntN (fun c => c != 10) (35 :: l) + skipS false ((35 :: l).drop (cntN (fun c => c != 10) (35 :: l))) := by
 have h1 : whiteB 35 = false := by decide
 rw [skipS, if_neg (by rw [h1]; simp), if_pos (by decide), skip_comment, cntN, if_pos (by decide), List.drop_succ_cons]
 omega
theorem skip_other {c : UInt8} {l : List UInt8} (h : whiteB c = false) (h2 : (c == 35) = false) : skipS false (c :: l) = 0 := by
 rw [skipS, if_neg (by rw [h]; simp), if_neg (by rw [h2]; simp)]
theorem drop_get (s : ByteArray) (j : Nat) (h : j < s.size) : s.data.toList.drop j = s[j] :: s.data.toList.drop (j + 1) := List.drop_eq_getElem_cons (l := s.data.toList) h
theorem extract_drop (s : ByteArray) (j : Nat) : (s.extract j s.size).data.toList = s.data.toList.drop j := by
 rw [ByteArray.data_extract, Array.toList_extract, List.extract_eq_take_drop, List.take_of_length_le]
 rw [List.length_drop]
 exact Nat.le_refl _
set_option maxRecDepth 100000 in
set_option maxHeartbeats 2000000 in
theorem skip_walk (w : World) (s : ByteArray) (hs : s.size ≤ 100000) :
 Calls Tryz.prog 104 #[.string s] w fun e w' => e = .returned (.int .i64 ((skipS false s.data.toList : Nat) : Int)) ∧ w = w' := by
 have hR := Lib.hid (fun (W : World) (t : ByteArray) (ht : t.size ≤ 100000) => run_walk W t 145 _ skip1_test ht)
 go_enter Tryz.func104, Tryz.ntmps104
 go_wp2_with fail
 go_loop [3] (fun i => ∃ j : Nat, j ≤ s.size ∧ i = .int .i64 j ∧ Hid (skipS false s.data.toList = j + skipS false (s.data.toList.drop j))) (fun i => s.size - (intOf i).toNat)
 case atStart => exact ⟨0, by omega, rfl, Lib.hid (by simp)⟩
 case round =>
  obtain ⟨j, hj, rfl, hn⟩ := hrel
  by_cases hlt : j < s.size
  ·have hd := Lib.hid (drop_get s j hlt)
   have hW := Lib.hid (fun (W : World) => white_fn s[j] W)
   cases hw : whiteB s[j] with
   | true =>
    rw [hw] at hW
    have hn2 : Hid (skipS false s.data.toList = (j + 1) + skipS false (s.data.toList.drop (j + 1))) := by
     have h1 := hn.out
     rw [hd.out, skip_white hw] at h1
     unfold Hid
     omega
    clear hw hn hd hR
    go_wp2_with (go_at_call 110; refine (hW.out _).mono ?_; rintro e _ ⟨rfl, rfl⟩)
    go_round
    case rel => exact ⟨j + 1, by omega, by go_num, hn2⟩
    case measure => simp [intOf]; omega
   | false =>
    rw [hw] at hW
    by_cases h35 : s[j] = 35
    ·have hb : ((s[j].toNat : Int) == 35) = true := by rw [h35]; rfl
     have hRR := Lib.hid (fun (W : World) => hR.out W (s.extract j s.size) (by rw [ByteArray.size_extract]; omega))
     rw [extract_drop] at hRR
     have hcl : cntN (fun c => c != 10) (s.data.toList.drop j) ≤ s.size - j := by
      have h1 := cntN_le (fun c => c != 10) (s.data.toList.drop j)
      rw [List.length_drop] at h1
      exact h1
     have hc1 : 1 ≤ cntN (fun c => c != 10) (s.data.toList.drop j) := by
      rw [hd.out, h35, cntN, if_pos (by decide)]
      omega
     have hn2 : Hid (skipS false s.data.toList = (j + cntN (fun c => c != 10) (s.data.toList.drop j)) + skipS false (s.data.toList.drop (j + cntN (fun c => c != 10) (s.data.toList.drop j)))) := by
      have h1 := hn.out
      have h2 := skip_hash (l := s.data.toList.drop (j + 1))
      rw [← h35, ← hd.out, List.drop_drop] at h2
      unfold Hid
      omega
     generalize cntN (fun c => c != 10) (s.data.toList.drop j) = k at *
     clear hw hn hd hR h35
     go_wp2_with (first
      | (go_at_call 110; refine (hW.out _).mono ?_; rintro e _ ⟨rfl, rfl⟩)
      | (go_at_call 106; refine (hRR.out _).mono ?_; rintro e _ ⟨rfl, rfl⟩))
     go_round
     case rel => exact ⟨j + k, by omega, by go_num, hn2⟩
     case measure => simp [intOf]; omega
    ·have hb : ((s[j].toNat : Int) == 35) = false := (u8_eq s[j] 35 (by decide)).trans (by simpa using h35)
     have hr : Hid (skipS false s.data.toList = j) := by
      have h1 := hn.out
      rw [hd.out, skip_other hw (by simpa using h35)] at h1
      exact h1
     clear hw hn hd hR h35
     go_wp2_with (go_at_call 110; refine (hW.out _).mono ?_; rintro e _ ⟨rfl, rfl⟩)
     go_ret
     exact ⟨by rw [hr.out]; rfl, rfl⟩
  ·obtain rfl : j = s.size := by omega
   have hr : Hid (skipS false s.data.toList = s.size) := by
    have h1 := hn.out
    have h2 : s.data.toList.drop s.size = [] := List.drop_eq_nil_of_le (Nat.le_refl _)
    rw [h2] at h1
    exact h1
   clear hn hR
   go_wp2_with fail
   go_ret
   exact ⟨by rw [hr.out]; rfl, rfl⟩
end Go.Proofs.YthggagophcnkfaaGreatDoor.lx
namespace Go.Proofs.YthggagophcnkfaaGreatDoor.lx
open Go.RowKit Go.ChangeMaps Go.MapKept Go.Proofs.YthggagophcnkfaaGreatDoor.agg Go.Proofs.YthggagophcnkfaaGreatDoor.sx
set_option linter.unusedSimpArgs false
set_option linter.unusedVariables false
def KMap (w : World) (b : Nat) (m : List (List UInt8)) : Prop :=
 ∃ es clock, w.heap[b]? = some (.map es clock) ∧ es.toList.map (fun e => (e.key, e.val)) = m.map (fun x => (Value.string ⟨x.toArray⟩, Value.bool true))
theorem KMap.same {w w' : World} {b : Nat} {m : List (List UInt8)} (h : KMap w b m) (e : w'.heap[b]? = w.heap[b]?) : KMap w' b m := by
 obtain ⟨es, c, h1, h2⟩ := h
 exact ⟨es, c, e.trans h1, h2⟩
theorem KMap.lt {w : World} {b : Nat} {m : List (List UInt8)} (h : KMap w b m) : b < w.heap.size := by
 obtain ⟨es, c, h1, h2⟩ := h
 exact (Array.getElem?_eq_some_iff.1 h1).1
theorem bytes_eq (x : ByteArray) (l : List UInt8) : (x == ⟨l.toArray⟩) = (x.data.toList == l) := by
 rw [Bool.eq_iff_iff, bytes_beq, beq_iff_eq]
 constructor
 ·intro h; rw [h]
 ·intro h
  obtain ⟨⟨k⟩⟩ := x
  have h' : k = l := h
  rw [h']
theorem findNow_keys (x : ByteArray) : ∀ (es : List MapEntry) (m : List (List UInt8)) (i : Nat), es.map (fun e => (e.key, e.val)) = m.map (fun x => (Value.string ⟨x.toArray⟩, Value.bool true)) →
 ∃ r, Instr.findNow .string (.string x) es i = some r ∧ r.map (·.2) = if m.contains x.data.toList then some (.bool true) else none
 | [], m, i, h => by
  cases m with
  | nil => exact ⟨none, rfl, rfl⟩
  | cons _ _ => simp at h
 | e :: es, m, i, h => by
  cases m with
  | nil => simp at h
  | cons k m =>
   simp only [List.map_cons, List.cons.injEq, Prod.mk.injEq] at h
   obtain ⟨⟨h1, h2⟩, h3⟩ := h
   have hb := bytes_eq x k
   cases hk : (x.data.toList == k) with
   | true =>
    rw [hk] at hb
    refine ⟨some (i, e.val), ?_, ?_⟩
    ·simp [Instr.findNow, Instr.sameNow, h1, hb]
    ·rw [List.contains_cons, hk]
     simp [h2]
   | false =>
    rw [hk] at hb
    obtain ⟨r, hr1, hr2⟩ := findNow_keys x es m (i + 1) h3
    refine ⟨r, ?_, ?_⟩
    ·simp only [Instr.findNow, Instr.sameNow, h1, hb]
     exact hr1
    ·rw [hr2, List.contains_cons, hk]
     rfl
theorem run_check_str (w : World) (e : Bool) (k : ByteArray) : (Instr.checkKey e 10000 9 (.string k)).run Tryz.prog w = .ok () w := by
 unfold Instr.checkKey
 simp only [Sem.run_bind, run_underlying Tryz.underlying9, Result.andThen_ok]
 rfl
theorem zero_bool (w : World) : (zeroValue 4).run Tryz.prog w = .ok (.bool false) w := by kernel_rfl
theorem run_lookup_keys {w : World} {b : Nat} {m : List (List UInt8)} (h : KMap w b m) (x : ByteArray) :
 (Instr.lookup 124 (.map (some b)) (.string x) false).run Tryz.prog w = .ok (.bool (m.contains x.data.toList)) w := by
 obtain ⟨es, clock, h1, h2⟩ := h
 obtain ⟨r, hr1, hr2⟩ := findNow_keys x es.toList m 0 h2
 have hk : (Instr.findKey 9 (.string x) es.toList).run Tryz.prog w = .ok r w := by
  unfold Instr.findKey
  simp only [Sem.run_bind, run_underlying Tryz.underlying9, Result.andThen_ok, hr1]
  rfl
 unfold Instr.lookup
 simp only [Sem.run_bind, run_underlying Tryz.underlying124, Result.andThen_ok, MapKept.run_getObj_map h1, Sem.run_pure, run_check_str, hk]
 cases hg : m.contains x.data.toList with
 | false =>
  rw [hg] at hr2
  have : r = none := by simpa using hr2
  subst this
  simp [Result.andThen, zero_bool]
 | true =>
  rw [hg] at hr2
  obtain ⟨j, v⟩ : ∃ j, r = some j := by
   cases r with
   | none => simp at hr2
   | some j => exact ⟨j, rfl⟩
  subst v
  obtain ⟨j, v⟩ := j
  simp at hr2
  subst hr2
  rfl
theorem run_update_keys {w : World} {b : Nat} {m : List (List UInt8)} (h : KMap w b m) (x : ByteArray) (hn : m.contains x.data.toList = false) :
 ∃ w', (Instr.mapUpdate 124 (.map (some b)) (.string x) (.bool true)).run Tryz.prog w = .ok () w' ∧ KMap w' b (m ++ [x.data.toList]) ∧ w.grownBy w' (some b) := by
 obtain ⟨es, clock, h1, h2⟩ := h
 obtain ⟨r, hr1, hr2⟩ := findNow_keys x es.toList m 0 h2
 rw [hn] at hr2
 have : r = none := by simpa using hr2
 subst this
 have hk : (Instr.findKey 9 (.string x) es.toList).run Tryz.prog w = .ok none w := by
  unfold Instr.findKey
  simp only [Sem.run_bind, run_underlying Tryz.underlying9, Result.andThen_ok, hr1]
  rfl
 refine ⟨setBlock w b (.map (es.push ⟨.string x, .bool true, clock⟩) (clock + 1)), ?_, ⟨_, _, heap_setBlock_same h1 _, ?_⟩, rfl, rfl, rfl, by simp [setBlock], fun i _ hi => heap_setBlock_other h1 _ (fun e => hi (by rw [e]))⟩
 ·unfold Instr.mapUpdate
  simp only [Sem.run_bind, run_underlying Tryz.underlying124, Result.andThen_ok, MapKept.run_getObj_map h1, run_check_str, hk, MapKept.run_setObj_map _ h1]
  rfl
 ·simp [h2]
theorem wpList_update_keys {w : World} {ops : Array Oper} {rest : List Oper} {o : Oper} {a : Act} {Q : Exit → Act → World → Prop} (hg : o.guard = none) (t x v : Operand) (hop : o.op = .mapUpdate 124 t x v) (b : Nat) (m : List (List UInt8)) (k : ByteArray)
 (ht : a.eval t = .map (some b)) (hx : a.eval x = .string k) (hv : a.eval v = .bool true) (hm : KMap w b m) (hn : m.contains k.data.toList = false)
 (hK : ∀ w', KMap w' b (m ++ [k.data.toList]) → w.grownBy w' (some b) → wpList Tryz.prog ops Q rest (a.put o.dst undef) w') : wpList Tryz.prog ops Q (o :: rest) a w := by
 refine wpList_plain hg fun K' hK' => ?_
 obtain ⟨w', hrun, r1, r2⟩ := run_update_keys hm k hn
 unfold Oper.wp
 simp [execOp, hop, ht, hx, hv, hrun, Result.andThen]
 exact hK' _ _ (hK w' r1 r2)
def keyText : ByteArray := ⟨#[115, 111, 114, 116, 32, 114, 101, 108, 97, 116, 105, 111, 110, 32, 99, 111, 117, 110, 116, 101, 114, 32, 115, 101, 116, 32, 114, 101, 103, 105, 115, 116, 101, 114, 32, 105, 110, 118, 97, 114, 105, 97, 110, 116, 32, 111, 112, 101, 114, 97, 116, 105, 111, 110, 32, 107, 101, 121, 32, 114, 101, 102, 101, 114, 101, 110, 99, 101, 32, 116, 111, 32, 99, 111, 117, 110, 116, 32, 97, 99, 121, 99, 108, 105, 99, 32, 97, 108, 108, 32, 115, 117, 109, 32, 105, 110, 32, 97, 100, 100, 119, 105, 110, 115, 32, 114, 101, 109, 111, 118, 101, 119, 105, 110, 115, 32, 108, 97, 115, 116, 32, 109, 117, 108, 116, 105, 32, 104, 105, 100, 101, 32, 111, 114, 100, 101, 114, 101, 100, 32, 114, 101, 113, 117, 105, 114, 101, 32, 104, 111, 108, 100, 32, 105, 110, 115, 101, 114, 116, 32, 100, 101, 108, 101, 116, 101, 32, 97, 100, 100, 32, 102, 114, 111, 109, 32, 112, 117, 116, 32, 100, 114, 111, 112, 32, 97, 115, 115, 105, 103, 110, 32, 102, 111, 114, 32, 119, 104, 101, 114, 101, 32, 97, 110, 100, 32, 111, 114, 32, 110, 111, 116]⟩
theorem key_fields : Lib.fields keyText.data.toList = keys := by decide +kernel
theorem key_ascii : ∀ (j : Nat) b, keyText.data.toList[j]? = some b → b.toNat < 128 := by
 intro j b h
 have h1 : ∀ b ∈ keyText.data.toList, b.toNat < 128 := by decide +kernel
 exact h1 b (List.mem_of_getElem? h)
theorem key_new' : (List.range keys.length).all (fun j => !((keys.take j).contains (keys.getD j []))) = true := by decide +kernel
theorem key_new (j : Nat) (h : j < keys.length) : (keys.take j).contains keys[j] = false := by
 have h1 := key_new'
 rw [List.all_eq_true] at h1
 have h2 := h1 j (List.mem_range.2 h)
 rw [List.getD_eq_getElem?_getD, List.getElem?_eq_getElem h] at h2
 simpa using h2
theorem key_len : keys.length = 35 := by decide +kernel
def TabIn (w : World) : Prop := Lib.TabIs Tryz.prog w "strings.asciiSpace" .u8 Lib.asciiSpaceTab
theorem TabIn.below {w w' : World} (h : TabIn w) (hb : Below w.heap.size w w') : TabIn w' := by
 unfold TabIn Lib.TabIs World.var? at *
 cases hg : Tryz.prog.globalNamed "strings.asciiSpace" with
 | none => simp [hg] at h
 | some g =>
  simp only [hg, Option.bind_some] at h ⊢
  have hlt : g < w.heap.size := by
   rcases Nat.lt_or_ge g w.heap.size with h' | h'
   ·exact h'
   ·rw [Array.getElem?_eq_none h'] at h; simp at h
  rw [hb.block g hlt]
  exact h
theorem fields_key (w : World) (h : TabIn w) : Calls Tryz.prog 144 #[.string keyText] w fun e w' => e = .returned (.slice (some ⟨w.heap.size, 0, none⟩) keys.length keys.length) ∧ w.alloc (.cells (keys.map fun l => Value.string ⟨l.toArray⟩).toArray 9) = w' := by
 refine (sh.strings_Fields keyText w (by decide +kernel) key_ascii h).mono fun _ _ hh => ?_
 rw [key_fields] at hh
 exact ⟨hh.1, hh.2.symm⟩
def KeysEnd (w : World) (e : Ending) (w' : World) : Prop := ∃ b, e = .returned (.map (some b)) ∧ KMap w' b keys ∧ Below w.heap.size w w' ∧ w.heap.size ≤ b
set_option maxRecDepth 100000 in
set_option maxHeartbeats 1000000 in
theorem keywords_walk (w : World) (h : TabIn w) : Calls Tryz.prog 102 #[] w (KeysEnd w) := by
 have hF := Lib.hid (fun (W : World) (hb : Below w.heap.size w W) => fields_key W (h.below hb))
 have hmm := @run_makeMap Tryz.prog
 have hnew := Lib.hid key_new
 have hkl := key_len
 clear h
 unfold keyText at hF
 go_enter Tryz.func102, Tryz.ntmps102
 go_wp2_with (go_at_call 144; refine (hF.out _ ((Below.refl _ _).alloc (Nat.le_refl _) _)).mono ?_; rintro e w1 ⟨rfl, hw1⟩)
 have hm1 : KMap w1 w.heap.size [] := by
  rw [← hw1]
  exact ⟨#[], _, (Below.heap_alloc _ _ _ (by simp)).trans (heap_alloc_new _ _), rfl⟩
 have hb1 : Below w.heap.size w w1 := by
  rw [← hw1]
  exact ((Below.refl _ _).alloc (Nat.le_refl _) _).alloc (by simp) _
 have hc1 : w1.heap[w.heap.size + 1]? = some (.cells (keys.map fun l => Value.string ⟨l.toArray⟩).toArray 9 (0, 0)) := by
  rw [← hw1]
  have := heap_alloc_new (w.alloc (.map #[] 0)) (.cells (keys.map fun l => Value.string ⟨l.toArray⟩).toArray 9)
  rwa [World.size_alloc] at this
 have hm1' := Lib.hid hm1
 have hb1' := Lib.hid hb1
 have hc1' := Lib.hid hc1
 clear hw1 hm1 hb1 hc1 hF
 obtain ⟨ks, hK⟩ : ∃ ks, keys = ks := ⟨_, rfl⟩
 have hKK := Lib.hid hK
 rw [hK] at hc1' hnew hkl
 clear hK
 go_loopw [7] (fun i wr => ∃ j : Nat, j ≤ ks.length ∧ i = .int .i64 j ∧ KMap wr w.heap.size (ks.take j) ∧ Below w.heap.size w wr ∧ wr.heap[w.heap.size + 1]? = some (.cells (ks.map fun l => Value.string ⟨l.toArray⟩).toArray 9 (0, 0))) (fun i wr => ks.length - (intOf i).toNat)
 case atStart => exact ⟨0, by omega, rfl, hm1'.out, hb1'.out, hc1'.out⟩
 case round =>
  obtain ⟨j, hj, rfl, hm, hb, hc⟩ := hrel
  by_cases hlt : j < ks.length
  ·obtain ⟨k, hk⟩ : ∃ k, ks[j] = k := ⟨_, rfl⟩
   have hn := Lib.hid (hnew.out j hlt)
   rw [hk] at hn
   have htk : Hid (ks.take (j + 1) = ks.take j ++ [k]) := by
    rw [← hk]
    exact List.take_succ_eq_append_getElem hlt
   have hcell : wr.cell? ⟨w.heap.size + 1, j, none⟩ = some (.string ⟨k.toArray⟩) := by
    rw [cell_of_row _ _ _ _ _ _ hc]
    simp [hlt, hk]
   have hm' := Lib.hid hm
   have hb' := Lib.hid hb
   have hc' := Lib.hid hc
   clear hm hb hc hk
   go_wp2_with (at_mapUpdate; refine wpList_update_keys rfl (.tmp 11) (.tmp 12) (.const (.bool true)) rfl w.heap.size (ks.take j) ⟨k.toArray⟩ (by rfl) (by rfl) (by rfl) hm'.out hn.out ?_; intro w4 hm4 hg4; have hm4' := Lib.hid hm4; have hg4' := Lib.hid hg4; clear hm4 hg4)
   go_roundw
   case rel => exact ⟨j + 1, by omega, by go_num, by rw [htk.out]; exact hm4'.out, hb'.out.grown hg4'.out hb'.out.size (fun k e => by cases e; exact Nat.le_refl _), (hg4'.out.block _ (lt_of_block hc'.out) (by simp)).trans hc'.out⟩
   case measure => simp [intOf]; omega
  ·obtain rfl : j = ks.length := by omega
   rw [List.take_length] at hm
   have hm' := Lib.hid hm
   have hb' := Lib.hid hb
   clear hm hb hc
   go_wp2_with fail
   go_ret
   exact ⟨w.heap.size, rfl, by rw [hKK.out]; exact hm'.out, hb'.out, Nat.le_refl _⟩
end Go.Proofs.YthggagophcnkfaaGreatDoor.lx
