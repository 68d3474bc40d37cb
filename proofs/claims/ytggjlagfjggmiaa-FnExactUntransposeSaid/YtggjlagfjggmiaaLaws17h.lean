/- The walks of the exact laws on transposing. No condition. Written by mk_laws17h.py. -/
import Derived.Test.YtggjlagfjggmiaaTrans
set_option linter.unusedVariables false
namespace Go.Proofs.Ytggjlagfjggmiaa
open Go.RowKit

theorem walk_FnExactTranspose (a0 a1 : ByteArray) (w : World) (w0 : a0.size ≤ maxLen) (w1 : a1.size ≤ maxLen) :
    Calls Try.prog 8 #[.string a0, .string a1] w fun e w' => e = .returned (.bool true) ∧ Below w.heap.size w w' := by
  have w0' := w0
  have w1' := w1
  unfold maxLen at w0' w1'
  by_cases hbig : 1048576 < a0.size
  · go_enter Try.func8, Try.ntmps8
    go_wp2_with fail
    go_ret
    exact ⟨rfl, Below.refl _ _⟩
  · by_cases hbig1 : 1048576 < a1.size
    · go_enter Try.func8, Try.ntmps8
      go_wp2_with fail
      go_ret
      exact ⟨rfl, Below.refl _ _⟩
    · go_enter Try.func8, Try.ntmps8
      go_wp2_with fail
      refine (spec_Transpose a0 a1 w w0 w1).mono ?_
      rintro e v1 ⟨r1, rfl, hr1, hb1⟩
      have Hr1 := Lib.hid hr1
      clear hr1
      go_wp2_with fail
      refine (impl_Transpose a0 a1 v1 w0 w1).mono ?_
      rintro e v2 ⟨r2, rfl, hr2, hb2⟩
      obtain rfl : r1 = r2 := nb_inj (by rw [Hr1.out, hr2])
      clear hr2
      go_wp2_with fail
      go_ret
      exact ⟨rfl, bthen hb1 hb2⟩

theorem walk_FnExactUntranspose (a0 a1 : ByteArray) (w : World) (w0 : a0.size ≤ maxLen) (w1 : a1.size ≤ maxLen) :
    Calls Try.prog 9 #[.string a0, .string a1] w fun e w' => e = .returned (.bool true) ∧ Below w.heap.size w w' := by
  have w0' := w0
  have w1' := w1
  unfold maxLen at w0' w1'
  by_cases hbig : 1048576 < a0.size
  · go_enter Try.func9, Try.ntmps9
    go_wp2_with fail
    go_ret
    exact ⟨rfl, Below.refl _ _⟩
  · by_cases hbig1 : 1048576 < a1.size
    · go_enter Try.func9, Try.ntmps9
      go_wp2_with fail
      go_ret
      exact ⟨rfl, Below.refl _ _⟩
    · go_enter Try.func9, Try.ntmps9
      go_wp2_with fail
      refine (spec_Untranspose a0 a1 w w0 w1).mono ?_
      rintro e v1 ⟨r1, rfl, hr1, hb1⟩
      have Hr1 := Lib.hid hr1
      clear hr1
      go_wp2_with fail
      refine (impl_Untranspose a0 a1 v1 w0 w1).mono ?_
      rintro e v2 ⟨r2, rfl, hr2, hb2⟩
      obtain rfl : r1 = r2 := nb_inj (by rw [Hr1.out, hr2])
      clear hr2
      go_wp2_with fail
      go_ret
      exact ⟨rfl, bthen hb1 hb2⟩
end Go.Proofs.Ytggjlagfjggmiaa
