/- The walks of the exact laws on joined and undoing orders. No condition. -/
import Derived.Test.YtbekeaijkfmgbaaJoin
import Derived.Test.YtbekeaijkfmgbaaUndo
set_option linter.unusedVariables false
namespace Go.Proofs.Ytbekeaijkfmgbaa
open Go.RowKit

theorem jp_le (f s : List Int) (n : Nat) (hs : s.length = n) : (jp f s).length ≤ n := by
  unfold jp
  split
  · rw [joinL_len, hs]; exact Nat.le_refl _
  · simp
theorem up_le (f : List Int) (n : Nat) (hs : f.length = n) : (up f).length ≤ n := by
  unfold up
  split
  · rw [undoL_len, hs]; exact Nat.le_refl _
  · simp

set_option maxHeartbeats 2000000 in
theorem walk_FnExactUndoPlaces (a0 : Option Addr) (len0 cap0 : Nat) (z0 : List Int) (w : World) (w0 : IsRow .i64 w a0 len0 cap0 z0) :
    Calls Try.prog 6 #[.slice a0 len0 cap0] w fun e w' => e = .returned (.bool true) ∧ Below w.heap.size w w' := by
  obtain ⟨hI, hl⟩ := Ints.of_row w0
  have hm := w0.len_le
  generalize z0.take len0 = f at *
  clear w0
  have Hl := Lib.hid hl
  clear hl
  by_cases hbig : 1048576 < len0
  · go_enter Try.func6, Try.ntmps6
    go_wp2_with fail
    go_ret
    exact ⟨rfl, Below.refl _ _⟩
  · go_enter Try.func6, Try.ntmps6
    go_wp2_with fail
    refine (laws_toIntS _ _ _ _ _ hI Hl.out (by omega)).mono ?_
    rintro e v1 ⟨rfl, hb1, hB1⟩
    go_wp2_with fail
    refine (spec_UndoPlaces _ _ _ _ _ (Ints.of_buf hb1) Hl.out (by omega)).mono ?_
    rintro e v2 ⟨A2, n2, c2, rfl, hl2, ho2, hB2⟩
    have hn2 : n2 ≤ 1048576 := by have := up_le f len0 Hl.out; omega
    have Hl2 := Lib.hid hl2
    have hW := ho2.into
    clear hl2 ho2
    have hC2 := bthen hB1 hB2
    go_wp2_with fail
    refine (laws_toIntS _ _ _ _ _ (hI.next hC2) Hl.out (by omega)).mono ?_
    rintro e v3 ⟨rfl, hb3, hB3⟩
    have hC3 := bthen hC2 hB3
    have hW3 := hW.next hB3
    have hX3 := OwnIn.of_buf hb3
    have hx3 : v2.heap.size + 1 ≤ v3.heap.size := hb3.lt
    clear hW hb1
    go_wp2_with fail
    refine (impl_UndoPlaces _ _ _ _ _ (Ints.of_buf hb3) Hl.out (by omega)).mono ?_
    rintro e v4 ⟨A4, n4, c4, rfl, hl4, ho4, hB4⟩
    obtain rfl : n2 = n4 := by have := Hl2.out; omega
    have hC4 := bthen hC3 hB4
    have hW4 := hW3.next hB4
    have hX4 := hX3.next hB4
    have hG4 := ho4.into
    clear hl4 ho4 hW3 hX3 hb3
    go_wp2_with fail
    refine (laws_eqIntS _ _ _ _ _ _ _ _ _ hG4.ints hW4.ints Hl2.out Hl2.out (by omega) (by omega) rfl).mono ?_
    rintro e v5 ⟨rfl, hB5⟩
    have hC5 := bthen hC4 hB5
    go_wp2_with fail
    refine (laws_toIntS _ _ _ _ _ (hI.next hC5) Hl.out (by omega)).mono ?_
    rintro e v6 ⟨rfl, hb6, hB6⟩
    have hC6 := bthen hC5 hB6
    go_wp2_with fail
    refine (laws_eqIntS _ _ _ _ _ _ f f _ ((hX4.next hB5).next hB6).ints (Ints.of_buf hb6) Hl.out Hl.out (by omega) (by omega) rfl).mono ?_
    rintro e v7 ⟨rfl, hB7⟩
    have hC7 := bthen hC6 hB7
    have hB57 := bthen (bthen hB5 hB6) hB7
    have hX7 := hX4.next hB57
    have hW7 := hW4.next hB57
    have hG7 := hG4.next hB57
    clear hX4 hW4 hG4 hb6
    go_wp2_with fail
    refine (laws_markIntS _ _ _ _ _ 1 _ _ hX7 Hl.out (by omega) (by omega) (by omega)).mono ?_
    rintro e v8 ⟨rfl, hX8, hK8⟩
    have hW8 := hW7.kept hK8 (.inl (Nat.le_refl _))
    have hG8 := hG7.kept hK8 (.inr hx3)
    have hC8 := hC7.trans (hK8.below hC2.size hC7.size)
    clear hW7 hG7 hX7
    go_wp2_with fail
    refine (laws_eqIntS _ _ _ _ _ _ _ _ _ hG8.ints hW8.ints Hl2.out Hl2.out (by omega) (by omega) rfl).mono ?_
    rintro e v9 ⟨rfl, hB9⟩
    have hC9 := bthen hC8 hB9
    have hW9 := hW8.next hB9
    have hG9 := hG8.next hB9
    clear hW8 hG8
    go_wp2_with fail
    refine (laws_markIntS _ _ _ _ _ 1 _ _ hG9 Hl2.out (by omega) (by omega) (by omega)).mono ?_
    rintro e v10 ⟨rfl, hG10, hK10⟩
    have hW10 := hW9.kept hK10 (.inl hB3.size)
    have hC10 := hC9.trans (hK10.below hC3.size hC9.size)
    clear hW9 hG9
    go_wp2_with fail
    refine (laws_heldIntS _ _ _ 1 _ hG10.ints (by omega) (by omega) (by omega)).mono ?_
    rintro e v10' ⟨rfl, rfl⟩
    go_wp2_with fail
    refine (laws_toIntS _ _ _ _ _ (hI.next hC10) Hl.out (by omega)).mono ?_
    rintro e v11 ⟨rfl, hb11, hB11⟩
    have hC11 := bthen hC10 hB11
    go_wp2_with fail
    refine (impl_UndoPlaces _ _ _ _ _ (Ints.of_buf hb11) Hl.out (by omega)).mono ?_
    rintro e v12 ⟨A12, n12, c12, rfl, hl12, ho12, hB12⟩
    obtain rfl : n2 = n12 := by have := Hl2.out; omega
    have hC12 := bthen hC11 hB12
    have hW12 := (hW10.next hB11).next hB12
    have hG12 := (hG10.next hB11).next hB12
    have hH12 := ho12.into
    clear hl12 ho12 hW10 hG10 hb11
    go_wp2_with fail
    refine (laws_eqIntS _ _ _ _ _ _ _ _ _ hH12.ints hW12.ints Hl2.out Hl2.out (by omega) (by omega) rfl).mono ?_
    rintro e v13 ⟨rfl, hB13⟩
    have hC13 := bthen hC12 hB13
    have hG13 := hG12.next hB13
    clear hG12 hW12 hH12
    go_wp2_with fail
    refine (laws_heldIntS _ _ _ 1 _ hG13.ints (by omega) (by omega) (by omega)).mono ?_
    rintro e v14 ⟨rfl, rfl⟩
    go_wp2_with fail
    go_ret
    exact ⟨rfl, hC13⟩

set_option maxHeartbeats 2000000 in
theorem walk_FnExactJoinPlaces (a0 : Option Addr) (len0 cap0 : Nat) (z0 : List Int) (a1 : Option Addr) (len1 cap1 : Nat) (z1 : List Int) (w : World) (w0 : IsRow .i64 w a0 len0 cap0 z0) (w1 : IsRow .i64 w a1 len1 cap1 z1) :
    Calls Try.prog 5 #[.slice a0 len0 cap0, .slice a1 len1 cap1] w fun e w' => e = .returned (.bool true) ∧ Below w.heap.size w w' := by
  obtain ⟨hI, hl⟩ := Ints.of_row w0
  obtain ⟨hJ, hlj⟩ := Ints.of_row w1
  have hm := w0.len_le
  have hmj := w1.len_le
  generalize z0.take len0 = f at *
  generalize z1.take len1 = s at *
  clear w0 w1
  have Hl := Lib.hid hl
  have Hlj := Lib.hid hlj
  clear hl hlj
  by_cases hbig : 1048576 < len0
  · go_enter Try.func5, Try.ntmps5
    go_wp2_with fail
    go_ret
    exact ⟨rfl, Below.refl _ _⟩
  by_cases hbigj : 1048576 < len1
  · go_enter Try.func5, Try.ntmps5
    go_wp2_with fail
    go_ret
    exact ⟨rfl, Below.refl _ _⟩
  · go_enter Try.func5, Try.ntmps5
    go_wp2_with fail
    refine (laws_toIntS _ _ _ _ _ hI Hl.out (by omega)).mono ?_
    rintro e u1 ⟨rfl, hbu1, hBu1⟩
    go_wp2_with fail
    refine (laws_toIntS _ _ _ _ _ (hJ.next hBu1) Hlj.out (by omega)).mono ?_
    rintro e v1 ⟨rfl, hb1, hBv1⟩
    have hB1 := bthen hBu1 hBv1
    go_wp2_with fail
    refine (spec_JoinPlaces _ _ _ _ _ _ _ _ _ (Ints.of_buf (hbu1.next hBv1)) (Ints.of_buf hb1) Hl.out Hlj.out (by omega) (by omega)).mono ?_
    rintro e v2 ⟨A2, n2, c2, rfl, hl2, ho2, hB2⟩
    have hn2 : n2 ≤ 1048576 := by have := jp_le f s len1 Hlj.out; omega
    have Hl2 := Lib.hid hl2
    have hW := ho2.into
    clear hl2 ho2
    have hC2 := bthen hB1 hB2
    go_wp2_with fail
    refine (laws_toIntS _ _ _ _ _ (hI.next hC2) Hl.out (by omega)).mono ?_
    rintro e u3 ⟨rfl, hbu3, hBu3⟩
    have hCu3 := bthen hC2 hBu3
    have hx3 : v2.heap.size + 1 ≤ u3.heap.size := hbu3.lt
    go_wp2_with fail
    refine (laws_toIntS _ _ _ _ _ (hJ.next hCu3) Hlj.out (by omega)).mono ?_
    rintro e v3 ⟨rfl, hb3, hBv3⟩
    have hB3 := bthen hBu3 hBv3
    have hC3 := bthen hC2 hB3
    have hy3 : u3.heap.size + 1 ≤ v3.heap.size := hb3.lt
    have hW3 := hW.next hB3
    have hX3 := OwnIn.of_buf (hbu3.next hBv3)
    have hY3 := OwnIn.of_buf hb3
    clear hW hb1 hbu1 hbu3 hb3
    go_wp2_with fail
    refine (impl_JoinPlaces _ _ _ _ _ _ _ _ _ hX3.ints hY3.ints Hl.out Hlj.out (by omega) (by omega)).mono ?_
    rintro e v4 ⟨A4, n4, c4, rfl, hl4, ho4, hB4⟩
    obtain rfl : n2 = n4 := by have := Hl2.out; omega
    have hC4 := bthen hC3 hB4
    have hW4 := hW3.next hB4
    have hX4 := hX3.next hB4
    have hY4 := hY3.next hB4
    have hG4 := ho4.into
    clear hl4 ho4 hW3 hX3 hY3
    go_wp2_with fail
    refine (laws_eqIntS _ _ _ _ _ _ _ _ _ hG4.ints hW4.ints Hl2.out Hl2.out (by omega) (by omega) rfl).mono ?_
    rintro e v5 ⟨rfl, hB5⟩
    have hC5 := bthen hC4 hB5
    go_wp2_with fail
    refine (laws_toIntS _ _ _ _ _ (hI.next hC5) Hl.out (by omega)).mono ?_
    rintro e v6 ⟨rfl, hb6, hB6⟩
    have hC6 := bthen hC5 hB6
    go_wp2_with fail
    refine (laws_eqIntS _ _ _ _ _ _ f f _ ((hX4.next hB5).next hB6).ints (Ints.of_buf hb6) Hl.out Hl.out (by omega) (by omega) rfl).mono ?_
    rintro e u7 ⟨rfl, hBu7⟩
    have hCu7 := bthen hC6 hBu7
    have hBu57 := bthen (bthen hB5 hB6) hBu7
    clear hb6
    go_wp2_with fail
    refine (laws_toIntS _ _ _ _ _ (hJ.next hCu7) Hlj.out (by omega)).mono ?_
    rintro e u8 ⟨rfl, hbu8, hBu8⟩
    have hCu8 := bthen hCu7 hBu8
    go_wp2_with fail
    refine (laws_eqIntS _ _ _ _ _ _ s s _ ((hY4.next hBu57).next hBu8).ints (Ints.of_buf hbu8) Hlj.out Hlj.out (by omega) (by omega) rfl).mono ?_
    rintro e v7 ⟨rfl, hB7⟩
    have hC7 := bthen hCu8 hB7
    have hB57 := bthen (bthen hBu57 hBu8) hB7
    have hX7 := hX4.next hB57
    have hY7 := hY4.next hB57
    have hW7 := hW4.next hB57
    have hG7 := hG4.next hB57
    clear hX4 hW4 hG4 hY4 hbu8
    go_wp2_with fail
    refine (laws_markIntS _ _ _ _ _ 1 _ _ hX7 Hl.out (by omega) (by omega) (by omega)).mono ?_
    rintro e v8 ⟨rfl, hX8, hK8⟩
    have hW8 := hW7.kept hK8 (.inl (Nat.le_refl _))
    have hG8 := hG7.kept hK8 (.inr (Nat.le_trans hx3 hBv3.size))
    have hY8 := hY7.kept hK8 (.inr hx3)
    have hC8 := hC7.trans (hK8.below hC2.size hC7.size)
    clear hW7 hG7 hX7 hY7
    go_wp2_with fail
    refine (laws_markIntS _ _ _ _ _ (1 + (len0 : Int)) _ _ hY8 Hlj.out (by omega) (by omega) (by omega)).mono ?_
    rintro e u9 ⟨rfl, hY9, hKu9⟩
    have hWu9 := hW8.kept hKu9 (.inl hBu3.size)
    have hGu9 := hG8.kept hKu9 (.inr hy3)
    have hCu9 := hC8.trans (hKu9.below hCu3.size hC8.size)
    clear hW8 hG8 hY8
    go_wp2_with fail
    refine (laws_eqIntS _ _ _ _ _ _ _ _ _ hGu9.ints hWu9.ints Hl2.out Hl2.out (by omega) (by omega) rfl).mono ?_
    rintro e v9 ⟨rfl, hB9⟩
    have hC9 := bthen hCu9 hB9
    have hW9 := hWu9.next hB9
    have hG9 := hGu9.next hB9
    clear hWu9 hGu9
    go_wp2_with fail
    refine (laws_markIntS _ _ _ _ _ 1 _ _ hG9 Hl2.out (by omega) (by omega) (by omega)).mono ?_
    rintro e v10 ⟨rfl, hG10, hK10⟩
    have hW10 := hW9.kept hK10 (.inl hB3.size)
    have hC10 := hC9.trans (hK10.below hC3.size hC9.size)
    clear hW9 hG9
    go_wp2_with fail
    refine (laws_heldIntS _ _ _ 1 _ hG10.ints (by omega) (by omega) (by omega)).mono ?_
    rintro e v10' ⟨rfl, rfl⟩
    go_wp2_with fail
    refine (laws_toIntS _ _ _ _ _ (hI.next hC10) Hl.out (by omega)).mono ?_
    rintro e u11 ⟨rfl, hbu11, hBu11⟩
    have hCu11 := bthen hC10 hBu11
    go_wp2_with fail
    refine (laws_toIntS _ _ _ _ _ (hJ.next hCu11) Hlj.out (by omega)).mono ?_
    rintro e v11 ⟨rfl, hb11, hBv11⟩
    have hB11 := bthen hBu11 hBv11
    have hC11 := bthen hC10 hB11
    go_wp2_with fail
    refine (impl_JoinPlaces _ _ _ _ _ _ _ _ _ (Ints.of_buf (hbu11.next hBv11)) (Ints.of_buf hb11) Hl.out Hlj.out (by omega) (by omega)).mono ?_
    rintro e v12 ⟨A12, n12, c12, rfl, hl12, ho12, hB12⟩
    obtain rfl : n2 = n12 := by have := Hl2.out; omega
    have hC12 := bthen hC11 hB12
    have hW12 := (hW10.next hB11).next hB12
    have hG12 := (hG10.next hB11).next hB12
    have hH12 := ho12.into
    clear hl12 ho12 hW10 hG10 hb11
    go_wp2_with fail
    refine (laws_eqIntS _ _ _ _ _ _ _ _ _ hH12.ints hW12.ints Hl2.out Hl2.out (by omega) (by omega) rfl).mono ?_
    rintro e v13 ⟨rfl, hB13⟩
    have hC13 := bthen hC12 hB13
    have hG13 := hG12.next hB13
    clear hG12 hW12 hH12
    go_wp2_with fail
    refine (laws_heldIntS _ _ _ 1 _ hG13.ints (by omega) (by omega) (by omega)).mono ?_
    rintro e v14 ⟨rfl, rfl⟩
    go_wp2_with fail
    go_ret
    exact ⟨rfl, hC13⟩

end Go.Proofs.Ytbekeaijkfmgbaa
