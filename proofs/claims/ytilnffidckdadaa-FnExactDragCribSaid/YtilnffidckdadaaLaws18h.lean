/- The walk of the exact law on dragging a crib. No condition. -/
import Derived.Test.YtilnffidckdadaaDrag
import Derived.Test.YtilnffidckdadaaMarkS
set_option linter.unusedVariables false
namespace Go.Proofs.Ytilnffidckdadaa
open Go.RowKit

theorem nbs_inj {xs ys : List ByteArray} (h : xs.map nb = ys.map nb) : xs = ys := (List.map_inj_right (fun _ _ h => nb_inj h)).1 h
theorem dg_len (c p o : List Nat) : (dg c p o).length ≤ 201 := by
  unfold dg
  split
  · rename_i h
    have := wv_len (dgOk_yes h).1
    have := dgN_le c p
    simp [dgK]; omega
  · simp
set_option maxHeartbeats 2000000 in
theorem walk_FnExactDragCrib (a0 a1 a2 : ByteArray) (w : World) (w0 : a0.size ≤ maxLen) (w1 : a1.size ≤ maxLen) (w2 : a2.size ≤ maxLen) :
    Calls Try.prog 10 #[.string a0, .string a1, .string a2] w fun e w' => e = .returned (.bool true) ∧ Below w.heap.size w w' := by
  have HP := Lib.hid (dg_len (nb a0) (nb a1) (nb a2))
  have w0' := w0
  have w1' := w1
  have w2' := w2
  unfold maxLen at w0' w1' w2'
  by_cases hbig0 : 1048576 < a0.size
  · go_enter Try.func10, Try.ntmps10
    go_wp2_with fail
    go_ret
    exact ⟨rfl, Below.refl _ _⟩
  by_cases hbig1 : 1048576 < a1.size
  · go_enter Try.func10, Try.ntmps10
    go_wp2_with fail
    go_ret
    exact ⟨rfl, Below.refl _ _⟩
  by_cases hbig2 : 1048576 < a2.size
  · go_enter Try.func10, Try.ntmps10
    go_wp2_with fail
    go_ret
    exact ⟨rfl, Below.refl _ _⟩
  · go_enter Try.func10, Try.ntmps10
    go_wp2_with fail
    refine (spec_DragCrib a0 a1 a2 _ w0 w1 w2).mono ?_
    rintro e v2 ⟨A2, n2, c2, zs, rfl, hl2, hz2, hW, hB2⟩
    have hn2 : n2 ≤ 201 := by have := HP.out; rw [← hz2, List.length_map] at this; omega
    have Hl2 := Lib.hid hl2
    have Hz2 := Lib.hid hz2
    clear hl2 hz2
    go_wp2_with fail
    refine (impl_DragCrib a0 a1 a2 _ w0 w1 w2).mono ?_
    rintro e v4 ⟨A4, n4, c4, ys, rfl, hl4, hz4, hG, hB4⟩
    obtain rfl : ys = zs := nbs_inj (by rw [hz4, Hz2.out])
    obtain rfl : n2 = n4 := by have := Hl2.out; omega
    have hC4 := bthen hB2 hB4
    have hW4 := hW.next hB4
    clear hl4 hz4 hW
    go_wp2_with fail
    refine (laws_eqStringS _ _ _ _ _ _ _ _ _ hG.strs hW4.strs Hl2.out Hl2.out (by omega) rfl).mono ?_
    rintro e v9 ⟨rfl, hB9⟩
    have hC9 := bthen hC4 hB9
    have hW9 := hW4.next hB9
    have hG9 := hG.next hB9
    clear hW4 hG
    go_wp2_with fail
    refine (laws_markStringS _ _ _ _ _ 1 _ _ hG9 Hl2.out (by omega) (by omega) (by omega)).mono ?_
    rintro e v10 ⟨rfl, hG10, hK10⟩
    have hW10 := hW9.kept hK10 (.inl (Nat.le_refl _))
    have hC10 := hC9.trans (hK10.below hB2.size hC9.size)
    clear hW9 hG9
    go_wp2_with fail
    refine (laws_heldStringS _ _ _ 1 _ hG10.strs (by omega) (by omega) (by omega)).mono ?_
    rintro e v11 ⟨rfl, hB11⟩
    have hC11 := bthen hC10 hB11
    have hW11 := hW10.next hB11
    have hG11 := hG10.next hB11
    clear hW10 hG10
    go_wp2_with fail
    refine (impl_DragCrib a0 a1 a2 _ w0 w1 w2).mono ?_
    rintro e v12 ⟨A12, n12, c12, xs, rfl, hl12, hz12, hH, hB12⟩
    obtain rfl : xs = ys := nbs_inj (by rw [hz12, Hz2.out])
    obtain rfl : n2 = n12 := by have := Hl2.out; omega
    have hC12 := bthen hC11 hB12
    have hW12 := hW11.next hB12
    have hG12 := hG11.next hB12
    clear hl12 hz12 hW11 hG11
    go_wp2_with fail
    refine (laws_eqStringS _ _ _ _ _ _ _ _ _ hH.strs hW12.strs Hl2.out Hl2.out (by omega) rfl).mono ?_
    rintro e v13 ⟨rfl, hB13⟩
    have hG13 := hG12.next hB13
    have hC13 := bthen hC12 hB13
    go_wp2_with fail
    refine (laws_heldStringS _ _ _ 1 _ hG13.strs (by omega) (by omega) (by omega)).mono ?_
    rintro e v14 ⟨rfl, hB14⟩
    go_wp2_with fail
    go_ret
    exact ⟨rfl, bthen hC13 hB14⟩
end Go.Proofs.Ytilnffidckdadaa
