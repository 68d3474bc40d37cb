/- The walk of FnExactRailPlaces. No condition. Written by mk_exact.py. -/
import Derived.Test.YtloihiodddgihaaRail3
import Derived.Test.YtloihiodddgihaaInts
set_option linter.unusedVariables false
namespace Go.Proofs.Ytloihiodddgihaa
open Go.RowKit

set_option maxHeartbeats 2000000 in
theorem walk_FnExactRailPlaces (a0 : Int) (a1 : Int) (w : World)  :
    Calls Try.prog 3 #[.int .i64 a0, .int .i64 a1] w fun e w' => e = .returned (.bool true) ∧ Below w.heap.size w w' := by
  have HP := Lib.hid (show (rpl a0 a1).length ≤ 200 from (rpl_len _ _))
  go_enter Try.func3, Try.ntmps3
  go_wp2_with fail
  refine (spec_RailPlaces a0 a1 _ ).mono ?_
  rintro e v2 ⟨A2, n2, c2, rfl, hl2, ho2, hB2⟩
  have hn2 : n2 ≤ 1048576 := by have := HP.out; omega
  have Hl2 := Lib.hid hl2
  have hW := ho2.into
  clear hl2 ho2
  go_wp2_with fail
  refine (impl_RailPlaces a0 a1 _ ).mono ?_
  rintro e v4 ⟨A4, n4, c4, rfl, hl4, ho4, hB4⟩
  obtain rfl : n2 = n4 := by have := Hl2.out; omega
  have hC4 := bthen hB2 hB4
  have hW4 := hW.next hB4
  have hG4 := ho4.into
  clear hl4 ho4 hW
  go_wp2_with fail
  refine (laws_eqIntS _ _ _ _ _ _ _ _ _ hG4.ints hW4.ints Hl2.out Hl2.out (by omega) (by omega) rfl).mono ?_
  rintro e v9 ⟨rfl, hB9⟩
  have hC9 := bthen hC4 hB9
  have hW9 := hW4.next hB9
  have hG9 := hG4.next hB9
  clear hW4 hG4
  go_wp2_with fail
  refine (laws_markIntS _ _ _ _ _ 1 _ _ hG9 Hl2.out (by omega) (by omega) (by omega)).mono ?_
  rintro e v10 ⟨rfl, hG10, hK10⟩
  have hW10 := hW9.kept hK10 (.inl (Nat.le_refl _))
  have hC10 := hC9.trans (hK10.below hB2.size hC9.size)
  clear hW9 hG9
  go_wp2_with fail
  refine (laws_heldIntS _ _ _ 1 _ hG10.ints (by omega) (by omega) (by omega)).mono ?_
  rintro e v10' ⟨rfl, rfl⟩
  go_wp2_with fail
  refine (impl_RailPlaces a0 a1 _ ).mono ?_
  rintro e v12 ⟨A12, n12, c12, rfl, hl12, ho12, hB12⟩
  obtain rfl : n2 = n12 := by have := Hl2.out; omega
  have hC12 := bthen hC10 hB12
  have hW12 := hW10.next hB12
  have hG12 := hG10.next hB12
  clear hW10 hG10
  go_wp2_with fail
  refine (laws_eqIntS _ _ _ _ _ _ _ _ _ ho12.ints hW12.ints Hl2.out Hl2.out (by omega) (by omega) rfl).mono ?_
  rintro e v13 ⟨rfl, hB13⟩
  have hG13 := hG12.next hB13
  go_wp2_with fail
  refine (laws_heldIntS _ _ _ 1 _ hG13.ints (by omega) (by omega) (by omega)).mono ?_
  rintro e v14 ⟨rfl, rfl⟩
  go_wp2_with fail
  go_ret
  exact ⟨rfl, bthen hC12 hB13⟩
end Go.Proofs.Ytloihiodddgihaa
