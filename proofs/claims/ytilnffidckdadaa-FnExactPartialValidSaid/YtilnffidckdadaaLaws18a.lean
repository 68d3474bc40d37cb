/- The walks of laws on partial words. No condition. -/
import Derived.Test.YtilnffidckdadaaVal
namespace Go.Proofs.Ytilnffidckdadaa
open Go.RowKit

theorem walk_FnExactPartialValid (a0 : ByteArray) (w : World) (w0 : a0.size ≤ maxLen) :
    Calls Try.prog 3 #[.string a0] w fun e w' => e = .returned (.bool true) ∧ Below w.heap.size w w' := by
  have w0' := w0
  unfold maxLen at w0'
  by_cases hbig : 1048576 < a0.size
  · go_enter Try.func3, Try.ntmps3
    go_wp2_with fail
    go_ret
    exact ⟨rfl, Below.refl _ _⟩
  · cases hp : pv (nb a0)
    all_goals
      go_enter Try.func3, Try.ntmps3
      go_wp2_with (first | (go_at_call 15; refine (spec_PartialValid _ _ w0).mono ?_; rintro e w' ⟨rfl, rfl⟩) | (go_at_call 16; refine (impl_PartialValid _ _ w0).mono ?_; rintro e w' ⟨rfl, rfl⟩))
      go_ret
      exact ⟨rfl, Below.refl _ _⟩
end Go.Proofs.Ytilnffidckdadaa
