/- The walk of the exact law on reading. No condition. -/
import Derived.Test.YtbekeaijkfmgbaaRead
set_option linter.unusedVariables false
namespace Go.Proofs.Ytbekeaijkfmgbaa
open Go.RowKit

set_option maxHeartbeats 1000000 in
theorem walk_FnExactReadPlaces (a0 : ByteArray) (a1 : Option Addr) (len1 cap1 : Nat) (z1 : List Int) (w : World) (w0 : a0.size ≤ maxLen) (w1 : IsRow .i64 w a1 len1 cap1 z1) :
    Calls Try.prog 7 #[.string a0, .slice a1 len1 cap1] w fun e w' => e = .returned (.bool true) ∧ Below w.heap.size w w' := by
  obtain ⟨hI, hl⟩ := Ints.of_row w1
  have hm := w1.len_le
  generalize z1.take len1 = f at *
  clear w1
  have Hl := Lib.hid hl
  clear hl
  have w0' := w0
  unfold maxLen at w0'
  by_cases hbig : 1048576 < a0.size
  · go_enter Try.func7, Try.ntmps7
    go_wp2_with fail
    go_ret
    exact ⟨rfl, Below.refl _ _⟩
  by_cases hbig1 : 1048576 < len1
  · go_enter Try.func7, Try.ntmps7
    go_wp2_with fail
    go_ret
    exact ⟨rfl, Below.refl _ _⟩
  · go_enter Try.func7, Try.ntmps7
    go_wp2_with fail
    refine (laws_toIntS _ _ _ _ _ hI Hl.out (by omega)).mono ?_
    rintro e v1 ⟨rfl, hb1, hB1⟩
    go_wp2_with fail
    refine (spec_ReadPlaces _ _ _ _ _ _ w0 (Ints.of_buf hb1) Hl.out (by omega)).mono ?_
    rintro e v2 ⟨r2, rfl, hr2, hB2⟩
    have Hr2 := Lib.hid hr2
    clear hr2
    have hC2 := bthen hB1 hB2
    go_wp2_with fail
    refine (laws_toIntS _ _ _ _ _ (hI.next hC2) Hl.out (by omega)).mono ?_
    rintro e v3 ⟨rfl, hb3, hB3⟩
    have hC3 := bthen hC2 hB3
    go_wp2_with fail
    refine (impl_ReadPlaces _ _ _ _ _ _ w0 (Ints.of_buf hb3) Hl.out (by omega)).mono ?_
    rintro e v4 ⟨r4, rfl, hr4, hB4⟩
    obtain rfl : r2 = r4 := nb_inj (by rw [Hr2.out, hr4])
    clear hr4
    have hC4 := bthen hC3 hB4
    go_wp2_with fail
    refine (laws_toIntS _ _ _ _ _ (hI.next hC4) Hl.out (by omega)).mono ?_
    rintro e v5 ⟨rfl, hb5, hB5⟩
    have hC5 := bthen hC4 hB5
    go_wp2_with fail
    refine (laws_eqIntS _ _ _ _ _ _ f f _ (Ints.of_buf ((hb3.next hB4).next hB5)) (Ints.of_buf hb5) Hl.out Hl.out (by omega) (by omega) rfl).mono ?_
    rintro e v6 ⟨rfl, hB6⟩
    have hC6 := bthen hC5 hB6
    go_wp2_with fail
    go_ret
    exact ⟨rfl, hC6⟩
end Go.Proofs.Ytbekeaijkfmgbaa
