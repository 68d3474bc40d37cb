/- Steps of a region. No condition. -/
import Derived.Test.YtibjiadgmlpceaaTape2
import Derived.Deep.RegionHeld3
import Derived.RegionTactic
set_option linter.unusedVariables false
namespace Go.Proofs.Ytibjiadgmlpceaa
open Go.RowKit

theorem exec_take (ρ : Operand → Value) (o : Oper) (x y : Operand) (w : World) (s : ByteArray) (K : Nat) (ho : o.op = .slice 9 x none (some y) none) (hx : ρ x = .string s) (hy : ρ y = .int .i64 (K : Int)) (hK : K ≤ s.size) :
    (execOp ρ o).run Try.prog w = .ok (.value (.string (s.extract 0 K))) w := by
  have hKi : (K : Int) ≤ (s.size : Int) := by omega
  have h0 : (0 : Int) ≤ (K : Int) := by omega
  unfold execOp
  rw [ho]
  go_simp
theorem exec_eql (ρ : Operand → Value) (o : Oper) (x y : Operand) (w : World) (R : ByteArray) (ho : o.op = .binOp .eql 9 x y 9) (hx : ρ x = .string R) (hy : ρ y = .string R) :
    (execOp ρ o).run Try.prog w = .ok (.value (.bool true)) w := by
  unfold execOp
  rw [ho]
  go_simp
theorem wpOp_want {P : Program} {ops : Array Oper} {Q : Exit → Act → World → Prop} {i : Nat} {o : Oper} {K : Act → World → Prop} {a : Act} {w : World} (ho : ops[i]? = some o) (hw : Region.wanted o (yielded ops a.tmps) = true)
    (h : ∀ K' : Act → World → Prop, (∀ a w, K a w → K' a w) → Oper.wp P o a w K' Q) : wpOp P ops Q i K a w :=
  wpOp_step ho (fun K' hK => by rw [if_pos hw]; exact h K' hK)
theorem wp_calls {a : Act} {w : World} {o : Oper} {K : Act → World → Prop} {Q : Exit → Act → World → Prop} {v1 v2 : Value} {R : ByteArray} (i j : Nat)
    (ho : o.op = .call { callee := .value (.func 18), args := #[.tmp i, .tmp j], argTypes := #[9, 9] }) (hx : a.tmps[i]?.getD undef = v1) (hy : a.tmps[j]?.getD undef = v2)
    (hc : Calls Try.prog 18 #[v1, v2] w fun e w' => e = .returned (.string R) ∧ Below w.heap.size w w') (h : ∀ w', Below w.heap.size w w' → K (a.put o.dst (.string R)) w') : Oper.wp Try.prog o a w K Q := by
  have HH := Lib.hid h
  have HC := Lib.hid hc
  clear h hc
  unfold Oper.wp execOp
  simp only [ho]
  go_simp
  refine HC.out.mono ?_
  rintro e w' ⟨rfl, hb⟩
  exact HH.out w' hb
theorem wpAnyH_xor {ops : Array Oper} {Q : Exit → Act → World → Prop} {md : Region.Mode} {S : World → Prop} {n : Nat} {o : Oper} {fuel : Nat} {listed : Array Bool} {a : Act} {w : World} {v1 v2 : Value} {R : ByteArray} {i j : Nat}
    (hn : ops[n]? = some o) (ho : o.op = .call { callee := .value (.func 18), args := #[.tmp i, .tmp j], argTypes := #[9, 9] })
    (hr : Region.ready md ops listed = [n]) (hw : Region.wanted o (yielded ops a.tmps) = true) (hx : a.tmps[i]?.getD undef = v1) (hy : a.tmps[j]?.getD undef = v2)
    (hc : Calls Try.prog 18 #[v1, v2] w fun e w' => e = .returned (.string R) ∧ Below w.heap.size w w')
    (hS : ∀ w', Below w.heap.size w w' → S w')
    (h : ∀ w', S w' → wpAnyH Try.prog md ops Q S fuel (listed.setIfInBounds n true) (a.put o.dst (.string R)) w') : wpAnyH Try.prog md ops Q S (fuel + 1) listed a w := by
  refine wpAnyH_all hr (by simp) ?_
  intro k hk
  obtain rfl : k = n := by simpa using hk
  exact wpOp_want hn hw fun K' hK' => wp_calls i j ho hx hy hc fun w' hb => hK' _ _ ⟨hS w' hb, h w' (hS w' hb)⟩
end Go.Proofs.Ytibjiadgmlpceaa
