/- The walks of laws on words with gaps. No condition. -/
import Derived.Test.YtilnffidckdadaaKey
set_option linter.unusedVariables false
namespace Go.Proofs.Ytilnffidckdadaa
open Go.RowKit

theorem walk_FnExactKeyFrom (a0 a1 : ByteArray) (w : World) (w0 : a0.size ≤ maxLen) (w1 : a1.size ≤ maxLen) :
    Calls Try.prog 6 #[.string a0, .string a1] w fun e w' => e = .returned (.bool true) ∧ Below w.heap.size w w' := by
  have w0' := w0
  have w1' := w1
  unfold maxLen at w0' w1'
  by_cases hbig : 1048576 < a0.size
  · go_enter Try.func6, Try.ntmps6
    go_wp2_with fail
    go_ret
    exact ⟨rfl, Below.refl _ _⟩
  · by_cases hbig1 : 1048576 < a1.size
    · go_enter Try.func6, Try.ntmps6
      go_wp2_with fail
      go_ret
      exact ⟨rfl, Below.refl _ _⟩
    · go_enter Try.func6, Try.ntmps6
      go_wp2_with fail
      refine (spec_KeyFrom a0 a1 w w0 w1).mono ?_
      rintro e v1 ⟨r1, rfl, hr1, hb1⟩
      have Hr1 := Lib.hid hr1
      clear hr1
      go_wp2_with fail
      refine (impl_KeyFrom a0 a1 v1 w0 w1).mono ?_
      rintro e v2 ⟨r2, rfl, hr2, hb2⟩
      obtain rfl : r1 = r2 := nb_inj (by rw [Hr1.out, hr2])
      clear hr2
      go_wp2_with fail
      go_ret
      exact ⟨rfl, bthen hb1 hb2⟩

theorem walk_FnExactReadWith (a0 a1 : ByteArray) (w : World) (w0 : a0.size ≤ maxLen) (w1 : a1.size ≤ maxLen) :
    Calls Try.prog 7 #[.string a0, .string a1] w fun e w' => e = .returned (.bool true) ∧ Below w.heap.size w w' := by
  have w0' := w0
  have w1' := w1
  unfold maxLen at w0' w1'
  by_cases hbig : 1048576 < a0.size
  · go_enter Try.func7, Try.ntmps7
    go_wp2_with fail
    go_ret
    exact ⟨rfl, Below.refl _ _⟩
  · by_cases hbig1 : 1048576 < a1.size
    · go_enter Try.func7, Try.ntmps7
      go_wp2_with fail
      go_ret
      exact ⟨rfl, Below.refl _ _⟩
    · go_enter Try.func7, Try.ntmps7
      go_wp2_with fail
      refine (spec_ReadWith a0 a1 w w0 w1).mono ?_
      rintro e v1 ⟨r1, rfl, hr1, hb1⟩
      have Hr1 := Lib.hid hr1
      clear hr1
      go_wp2_with fail
      refine (impl_ReadWith a0 a1 v1 w0 w1).mono ?_
      rintro e v2 ⟨r2, rfl, hr2, hb2⟩
      obtain rfl : r1 = r2 := nb_inj (by rw [Hr1.out, hr2])
      clear hr2
      go_wp2_with fail
      go_ret
      exact ⟨rfl, bthen hb1 hb2⟩

theorem walk_FnExactReadDepth (a0 a1 a2 : ByteArray) (w : World) (w0 : a0.size ≤ maxLen) (w1 : a1.size ≤ maxLen) (w2 : a2.size ≤ maxLen) :
    Calls Try.prog 8 #[.string a0, .string a1, .string a2] w fun e w' => e = .returned (.bool true) ∧ Below w.heap.size w w' := by
  have w0' := w0
  have w1' := w1
  have w2' := w2
  unfold maxLen at w0' w1' w2'
  by_cases hbig : 1048576 < a0.size ∨ 1048576 < a1.size ∨ 1048576 < a2.size
  · by_cases h0 : 1048576 < a0.size
    · clear hbig
      go_enter Try.func8, Try.ntmps8
      go_wp2_with fail
      go_ret
      exact ⟨rfl, Below.refl _ _⟩
    · by_cases h1 : 1048576 < a1.size
      · clear hbig
        go_enter Try.func8, Try.ntmps8
        go_wp2_with fail
        go_ret
        exact ⟨rfl, Below.refl _ _⟩
      · have h2 : 1048576 < a2.size := by omega
        clear hbig
        go_enter Try.func8, Try.ntmps8
        go_wp2_with fail
        go_ret
        exact ⟨rfl, Below.refl _ _⟩
  · have h0 : a0.size ≤ 1048576 := by omega
    have h1 : a1.size ≤ 1048576 := by omega
    have h2 : a2.size ≤ 1048576 := by omega
    clear hbig
    go_enter Try.func8, Try.ntmps8
    go_wp2_with fail
    refine (spec_ReadDepth a0 a1 a2 w w0 w1 w2).mono ?_
    rintro e v1 ⟨r1, rfl, hr1, hb1⟩
    have Hr1 := Lib.hid hr1
    clear hr1
    go_wp2_with fail
    refine (impl_ReadDepth a0 a1 a2 v1 w0 w1 w2).mono ?_
    rintro e v2 ⟨r2, rfl, hr2, hb2⟩
    obtain rfl : r1 = r2 := nb_inj (by rw [Hr1.out, hr2])
    clear hr2
    go_wp2_with fail
    go_ret
    exact ⟨rfl, bthen hb1 hb2⟩
end Go.Proofs.Ytilnffidckdadaa
