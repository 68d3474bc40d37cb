/- The walk of the law on merging in either order. No condition. -/
import Derived.Test.YtilnffidckdadaaDraw18b
import Derived.Test.YtilnffidckdadaaMerge
import Derived.Test.YtilnffidckdadaaPlain18b
set_option linter.unusedVariables false
namespace Go.Proofs.Ytilnffidckdadaa
open Go.RowKit

set_option maxHeartbeats 1000000 in
theorem walk_FnMergeTurned (a0 : Option Addr) (len0 cap0 : Nat) (z0 : List Int) (w : World) (w0 : IsRow .u8 w a0 len0 cap0 z0) :
    Calls Try.prog 11 #[.slice a0 len0 cap0] w fun e w' => e = .returned (.bool true) ∧ Below w.heap.size w w' := by
  have hl := w0.len_le
  by_cases hbig : 1048576 < len0
  · clear w0
    go_enter Try.func11, Try.ntmps11
    go_wp2_with fail
    go_ret
    exact ⟨rfl, Below.refl _ _⟩
  · have W0 := Lib.hid w0
    clear w0
    go_enter Try.func11, Try.ntmps11
    go_wp2_with fail
    refine (spec_DrawMergePartials _ _ _ _ _ W0.out).mono ?_
    rintro e v1 ⟨p, q, rfl, hp, hq, hb1⟩
    have hpm : p.size ≤ maxLen := by unfold maxLen; omega
    have hqm : q.size ≤ maxLen := by unfold maxLen; omega
    go_wp2_with fail
    refine (impl_MergePartials p q v1 hpm hqm).mono ?_
    rintro e v2 ⟨r1, rfl, hr1, hb2⟩
    have Hr1 := Lib.hid hr1
    have hB2 := bthen hb1 hb2
    clear hr1
    go_wp2_with fail
    refine (spec_MergePartials p q v2 hpm hqm).mono ?_
    rintro e v3 ⟨r2, rfl, hr2, hb3⟩
    obtain rfl : r1 = r2 := nb_inj (by rw [Hr1.out, hr2])
    have hB3 := bthen hB2 hb3
    clear hr2
    have hcomm := mgOk_comm (nb p) (nb q)
    have hself := mgOk_self (nb p)
    cases hv : pv (nb p)
    · go_wp2_with fail
      refine (impl_MergePartials q p v3 hqm hpm).mono ?_
      rintro e v4 ⟨r4, rfl, hr4, hb4⟩
      obtain rfl : r1 = r4 := nb_inj (by rw [Hr1.out, hr4, mg_comm])
      have hB4 := bthen hB3 hb4
      clear hr4
      go_wp2_with fail
      refine (impl_MergePartials p p v4 hpm hpm).mono ?_
      rintro e v5 ⟨r5, rfl, hr5, hb5⟩
      have hB5 := bthen hB4 hb5
      clear hr5
      go_wp2_with fail
      refine (impl_PartialValid p v5 hpm).mono ?_
      rintro e v6 ⟨rfl, rfl⟩
      go_wp2_with fail
      go_ret
      exact ⟨rfl, hB5⟩
    · have Hv := Lib.hid hv
      go_wp2_with fail
      refine (impl_MergePartials q p v3 hqm hpm).mono ?_
      rintro e v4 ⟨r4, rfl, hr4, hb4⟩
      obtain rfl : r1 = r4 := nb_inj (by rw [Hr1.out, hr4, mg_comm])
      have hB4 := bthen hB3 hb4
      clear hr4
      go_wp2_with fail
      refine (impl_MergePartials p p v4 hpm hpm).mono ?_
      rintro e v5 ⟨r5, rfl, hr5, hb5⟩
      obtain rfl : r5 = p := nb_inj (by rw [hr5, mg_self Hv.out])
      have hB5 := bthen hB4 hb5
      clear hr5
      go_wp2_with fail
      refine (impl_PartialValid r5 v5 hpm).mono ?_
      rintro e v6 ⟨rfl, rfl⟩
      go_wp2_with fail
      go_ret
      exact ⟨rfl, hB5⟩
end Go.Proofs.Ytilnffidckdadaa
