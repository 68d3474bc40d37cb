/- Steps of a region. No condition. -/
import Derived.Test.YtchjhngfkngljaaDoorTape2
import Derived.Deep.RegionHeld3
import Derived.RegionTactic
set_option linter.unusedVariables false
namespace Go.Proofs.YtchjhngfkngljaaDoor
open Go.RowKit

theorem exec_take (ρ : Operand → Value) (o : Oper) (x y : Operand) (w : World) (s : ByteArray) (K : Nat) (ho : o.op = .slice 9 x none (some y) none) (hx : ρ x = .string s) (hy : ρ y = .int .i64 (K : Int)) (hK : K ≤ s.size) :
    (execOp ρ o).run Tryd.prog w = .ok (.value (.string (s.extract 0 K))) w := by
  have hKi : (K : Int) ≤ (s.size : Int) := by omega
  have h0 : (0 : Int) ≤ (K : Int) := by omega
  unfold execOp
  rw [ho]
  go_simp
theorem exec_eql (ρ : Operand → Value) (o : Oper) (x y : Operand) (w : World) (R : ByteArray) (ho : o.op = .binOp .eql 9 x y 9) (hx : ρ x = .string R) (hy : ρ y = .string R) :
    (execOp ρ o).run Tryd.prog w = .ok (.value (.bool true)) w := by
  unfold execOp
  rw [ho]
  go_simp
theorem wpOp_want {P : Program} {ops : Array Oper} {Q : Exit → Act → World → Prop} {i : Nat} {o : Oper} {K : Act → World → Prop} {a : Act} {w : World} (ho : ops[i]? = some o) (hw : Region.wanted o (yielded ops a.tmps) = true)
    (h : ∀ K' : Act → World → Prop, (∀ a w, K a w → K' a w) → Oper.wp P o a w K' Q) : wpOp P ops Q i K a w :=
  wpOp_step ho (fun K' hK => by rw [if_pos hw]; exact h K' hK)
end Go.Proofs.YtchjhngfkngljaaDoor
