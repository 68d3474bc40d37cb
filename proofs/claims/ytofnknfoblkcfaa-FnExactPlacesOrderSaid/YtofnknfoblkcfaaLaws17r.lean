/- The walk of the exact law on the repetitions of an order. No condition. -/
import Derived.Test.YtofnknfoblkcfaaOrder2
set_option linter.unusedVariables false
namespace Go.Proofs.Ytofnknfoblkcfaa
open Go.RowKit

set_option maxHeartbeats 1000000 in
theorem walk_FnExactPlacesOrder (a0 : Option Addr) (len0 cap0 : Nat) (z0 : List Int) (w : World) (w0 : IsRow .i64 w a0 len0 cap0 z0) :
    Calls Try.prog 3 #[.slice a0 len0 cap0] w fun e w' => e = .returned (.bool true) ∧ Below w.heap.size w w' := by
  obtain ⟨hI, hl⟩ := Ints.of_row w0
  have hm := w0.len_le
  generalize z0.take len0 = f at *
  clear w0
  have Hl := Lib.hid hl
  clear hl
  by_cases hbig1 : 1048576 < len0
  · go_enter Try.func3, Try.ntmps3
    go_wp2_with fail
    go_ret
    exact ⟨rfl, Below.refl _ _⟩
  · go_enter Try.func3, Try.ntmps3
    go_wp2_with fail
    refine (laws_toIntS _ _ _ _ _ hI Hl.out (by omega)).mono ?_
    rintro e v1 ⟨rfl, hb1, hB1⟩
    go_wp2_with fail
    refine (spec_PlacesOrder _ _ _ _ _ (Ints.of_buf hb1) Hl.out (by omega)).mono ?_
    rintro e v2 ⟨rfl, hB2⟩
    have hC2 := bthen hB1 hB2
    go_wp2_with fail
    refine (laws_toIntS _ _ _ _ _ (hI.next hC2) Hl.out (by omega)).mono ?_
    rintro e v3 ⟨rfl, hb3, hB3⟩
    have hC3 := bthen hC2 hB3
    go_wp2_with fail
    refine (impl_PlacesOrder _ _ _ _ _ (Ints.of_buf hb3) Hl.out (by omega)).mono ?_
    rintro e v4 ⟨rfl, hB4⟩
    have hC4 := bthen hC3 hB4
    generalize po f = q
    have hqq : ((q : Int) != (q : Int)) = false := by simp
    go_wp2_with fail
    refine (laws_toIntS _ _ _ _ _ (hI.next hC4) Hl.out (by omega)).mono ?_
    rintro e v5 ⟨rfl, hb5, hB5⟩
    have hC5 := bthen hC4 hB5
    go_wp2_with fail
    refine (laws_eqIntS _ _ _ _ _ _ f f _ (Ints.of_buf ((hb3.next hB4).next hB5)) (Ints.of_buf hb5) Hl.out Hl.out (by omega) (by omega) rfl).mono ?_
    rintro e v6 ⟨rfl, hB6⟩
    go_wp2_with fail
    go_ret
    exact ⟨rfl, bthen hC5 hB6⟩
end Go.Proofs.Ytofnknfoblkcfaa
