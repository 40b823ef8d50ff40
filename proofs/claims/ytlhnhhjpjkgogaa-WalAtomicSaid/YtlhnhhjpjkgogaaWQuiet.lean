/- Values of many cells in a region that is walked once in the order of the text ('go_quiet'): loads and comparisons. No function of the program is walked here. -/
import Derived.Test.YtlhnhhjpjkgogaaM1
import Derived.Deep.QuietTactic
import Derived.BigQuiet
import Derived.Lib.QuietBelow
namespace Go.Proofs.Ytlhnhhjpjkgogaa.agg
open Go.RowKit

section
variable {P : Program} {a : Act} {C : World → Prop} {K : Act → Prop} {dst : Option Tmp} {ty : TypeId} {pos : String} {aft : Array Edge} {gd : Option (Nat × Bool)}
theorem quiet_exec {o : Oper} (v : Value) (hx : ∀ w, C w → (execOp a.eval o).run P w = .ok (.value v) w) (hk : K (a.put o.dst v)) : o.quiet P a C K :=
  ⟨v, fun w hw => by unfold Oper.quietAt; rw [hx w hw]; exact ⟨rfl, rfl⟩, hk⟩
theorem quiet_load {T : TypeId} {n : Nat} (hT : IsAgg P T n) (x : Operand) (g o : Nat) (cs : Array Value) (hx : a.eval x = .pointer (some ⟨g, o, none⟩)) (hr : ∀ w, C w → o + n ≤ (rowOf w g).size ∧ 0 < n ∧ cut (rowOf w g) o n = .agg cs)
    (hk : K (a.put dst (.agg cs))) : Oper.quiet P ⟨dst, .load T x, ty, pos, aft, gd⟩ a C K :=
  quiet_exec (.agg cs) (fun w hw => by
    obtain ⟨h1, h2, h3⟩ := hr w hw
    have := exec_load_agg (P := P) (a := a) (w := w) (dst := dst) (ty := ty) (pos := pos) (aft := aft) (gd := gd) hT x (by rw [hx, aggOk_mk]; simpa using ⟨h1, h2⟩)
    rw [this, hx, aggAt_mk, h3]) hk
theorem quiet_neq_sec {T E : TypeId} {n : Nat} (hT : P.underlying T = some (.array n E)) (hE : P.underlying E = some (.int .u8)) (hs : ∀ w, (sizeOf E).run P w = .ok 1 w) (hA : ∀ w, (isAgg E).run P w = .ok false w) (hg : P.eqGuardType P.depth T = false)
    (x y : Operand) {T' : TypeId} (xs ys : List Int) (hx : a.eval x = .agg (sec xs)) (hy : a.eval y = .agg (sec ys)) (hxl : xs.length = n) (hyl : ys.length = n) (hk : K (a.put dst (.bool (!decide (xs = ys))))) :
    Oper.quiet P ⟨dst, .binOp .neq T x y T', ty, pos, aft, gd⟩ a C K :=
  quiet_exec (.bool (!decide (xs = ys))) (fun w _ => by
    unfold execOp
    simp only [hx, hy, Sem.run_bind, run_eqGuard_agg w .neq T x y (sec xs) (sec ys) hg, run_neq_struct w T (sec xs) (sec ys), Result.andThen_ok, run_equal_sec hT hE hs hA xs ys hxl hyl 9998]
    rfl) hk
theorem quiet_build {T : TypeId} {z : Value} (hz : ∀ w, (Instr.build T #[]).run P w = .ok z w) (hk : K (a.put dst z)) : Oper.quiet P ⟨dst, .build T #[], ty, pos, aft, gd⟩ a C K :=
  quiet_exec z (fun w _ => by unfold execOp; simp [hz]) hk
end
end Go.Proofs.Ytlhnhhjpjkgogaa.agg
namespace Go.Proofs.Ytlhnhhjpjkgogaa.wl
open Go.RowKit Go.Proofs.Ytlhnhhjpjkgogaa.agg Go.Proofs.Ytlhnhhjpjkgogaa.dk
section
variable {a : Act} {C : World → Prop} {K : Act → Prop} {dst : Option Tmp} {ty : TypeId} {pos : String} {aft : Array Edge} {gd : Option (Nat × Bool)}
theorem quiet_neq {T' : TypeId} (x y : Operand) (xs ys : List Int) (hx : a.eval x = .agg (sec xs)) (hy : a.eval y = .agg (sec ys)) (hxl : xs.length = 64) (hyl : ys.length = 64) (hk : K (a.put dst (.bool (!decide (xs = ys))))) :
    Oper.quiet Try.prog ⟨dst, .binOp .neq 26 x y T', ty, pos, aft, gd⟩ a C K :=
  quiet_neq_sec (P := Try.prog) (T := 26) (E := 5) (by kernel_rfl) (by kernel_rfl) (fun _ => by kernel_rfl) (fun _ => by kernel_rfl) (by kernel_rfl) x y xs ys hx hy hxl hyl hk
theorem quiet_eql {T' : TypeId} (x y : Operand) (xs ys : List Int) (hx : a.eval x = .agg (sec xs)) (hy : a.eval y = .agg (sec ys)) (hxl : xs.length = 64) (hyl : ys.length = 64) (hk : K (a.put dst (.bool (decide (xs = ys))))) :
    Oper.quiet Try.prog ⟨dst, .binOp .eql 26 x y T', ty, pos, aft, gd⟩ a C K :=
  quiet_exec (.bool (decide (xs = ys))) (fun w _ => by
    unfold execOp
    simp only [hx, hy, Sem.run_bind, run_eqGuard_agg (P := Try.prog) w .eql 26 x y (sec xs) (sec ys) (by kernel_rfl), run_eql_struct (P := Try.prog) w 26 (sec xs) (sec ys), Result.andThen_ok, run_equal_sec (P := Try.prog) (T := 26) (E := 5) (n := 64) (by kernel_rfl) (by kernel_rfl) (fun _ => by kernel_rfl) (fun _ => by kernel_rfl) xs ys hxl hyl 9998]
    rfl) hk
end
end Go.Proofs.Ytlhnhhjpjkgogaa.wl
