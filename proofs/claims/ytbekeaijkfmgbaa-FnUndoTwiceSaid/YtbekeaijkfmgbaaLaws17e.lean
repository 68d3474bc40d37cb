/- The walk of the law on undoing twice. No condition. -/
import Derived.Test.YtbekeaijkfmgbaaDraw17
import Derived.Test.YtbekeaijkfmgbaaPlain17c
import Derived.Test.YtbekeaijkfmgbaaRc
set_option linter.unusedVariables false
namespace Go.Proofs.Ytbekeaijkfmgbaa
open Go.RowKit

set_option maxHeartbeats 2000000 in
theorem walk_FnUndoTwice (a0 : Option Addr) (len0 cap0 : Nat) (z0 : List Int) (w : World) (w0 : IsRow .u8 w a0 len0 cap0 z0) :
    Calls Try.prog 8 #[.slice a0 len0 cap0] w fun e w' => e = .returned (.bool true) ∧ Below w.heap.size w w' := by
  have hl := w0.len_le
  by_cases hbig : 1048576 < len0
  · clear w0
    go_enter Try.func8, Try.ntmps8
    go_wp2_with fail
    go_ret
    exact ⟨rfl, Below.refl _ _⟩
  · have W0 := Lib.hid w0
    clear w0
    go_enter Try.func8, Try.ntmps8
    go_wp2_with fail
    refine (spec_DrawUndoPlaces _ _ _ _ _ W0.out).mono ?_
    rintro e v1 ⟨A, n, c, zs, rfl, hlz, hn, ho, hb1⟩
    have Hl := Lib.hid hlz
    have hI := ho.ints
    clear hlz ho
    go_wp2_with fail
    refine (impl_UndoPlaces _ _ _ _ _ hI Hl.out (by omega)).mono ?_
    rintro e v2 ⟨A2, n2, c2, rfl, hl2, ho2, hb2⟩
    have hn2 : n2 ≤ n := by
      have : (up zs).length ≤ zs.length := by unfold up; split; rw [undoL_len]; exact Nat.le_refl _; simp
      have := Hl.out; omega
    have Hl2 := Lib.hid hl2
    have hU := ho2.ints
    have hI2 := hI.next hb2
    have hB2 := bthen hb1 hb2
    clear hl2 ho2 hI
    go_wp2_with fail
    refine (spec_UndoPlaces _ _ _ _ _ hI2 Hl.out (by omega)).mono ?_
    rintro e v3 ⟨A3, n3, c3, rfl, hl3, ho3, hb3⟩
    obtain rfl : n2 = n3 := by have := Hl2.out; omega
    have hU3 := hU.next hb3
    have hW3 := ho3.ints
    have hI3 := hI2.next hb3
    have hB3 := bthen hB2 hb3
    clear hl3 ho3 hI2 hU
    have hsame := same_refl (up zs)
    cases hv : plv zs
    · go_wp2_with fail
      refine (laws_rcInts _ _ _ _ _ _ _ _ _ hU3 hW3 Hl2.out Hl2.out (by omega) (by omega)).mono ?_
      rintro e v4 ⟨rfl, hb4⟩
      have hB4 := bthen hB3 hb4
      go_wp2_with fail
      refine (impl_PlacesValid _ _ _ _ _ (hI3.next hb4) Hl.out (by omega)).mono ?_
      rintro e v5 ⟨rfl, hb5⟩
      have hB5 := bthen hB4 hb5
      have hb45 := bthen hb4 hb5
      go_wp2_with fail
      refine (laws_rcInts _ _ _ _ _ _ _ _ _ (hU3.next hb45) (hW3.next hb45) Hl2.out Hl2.out (by omega) (by omega)).mono ?_
      rintro e v6 ⟨rfl, hb6⟩
      have hB6 := bthen hB5 hb6
      have hb46 := bthen hb45 hb6
      go_wp2_with fail
      refine (impl_PlacesValid _ _ _ _ _ (hI3.next hb46) Hl.out (by omega)).mono ?_
      rintro e v7 ⟨rfl, hb7⟩
      go_wp2_with fail
      go_ret
      exact ⟨rfl, bthen hB6 hb7⟩
    · have hup := up_yes hv
      have hnn : n2 = n := by have := Hl2.out; rw [hup, undoL_len, Hl.out] at this; exact this.symm
      subst hnn
      have hpu : plv (up zs) = true := by rw [hup]; exact plv_undo hv
      have hj1 : jpOk zs (up zs) = true := by unfold jpOk; rw [hv, hpu, Hl.out, Hl2.out]; simp [g3]
      have hj2 : jpOk (up zs) zs = true := by unfold jpOk; rw [hv, hpu, Hl.out, Hl2.out]; simp [g3]
      have Hag : Hid (up (up zs) = zs) := by show _ = _; rw [up_yes hpu, hup, undo_undo hv]
      have Hno : Hid (jp zs (up zs) = iota n2) := by show _ = _; rw [jp, hj1, if_pos rfl, hup, join_undo hv, Hl.out]
      have Hot : Hid (jp (up zs) zs = iota n2) := by show _ = _; rw [jp, hj2, if_pos rfl, hup, undo_join hv, Hl.out]
      have Hup := Lib.hid hup
      have hsz := same_refl zs
      clear hup
      go_wp2_with fail
      refine (laws_rcInts _ _ _ _ _ _ _ _ _ hU3 hW3 Hl2.out Hl2.out (by omega) (by omega)).mono ?_
      rintro e v4 ⟨rfl, hb4⟩
      have hB4 := bthen hB3 hb4
      go_wp2_with fail
      refine (impl_PlacesValid _ _ _ _ _ (hI3.next hb4) Hl.out (by omega)).mono ?_
      rintro e v5 ⟨rfl, hb5⟩
      have hB5 := bthen hB4 hb5
      have hb45 := bthen hb4 hb5
      have hU5 := hU3.next hb45
      have hI5 := hI3.next hb45
      clear hU3 hI3 hW3
      go_wp2_with fail
      refine (impl_UndoPlaces _ _ _ _ _ hU5 Hl2.out (by omega)).mono ?_
      rintro e v6 ⟨A6, n6, c6, rfl, hl6, ho6, hb6⟩
      rw [Hag.out] at hl6 ho6
      obtain rfl : n2 = n6 := by have := Hl.out; omega
      have hB6 := bthen hB5 hb6
      have hU6 := hU5.next hb6
      have hI6 := hI5.next hb6
      have hG6 := ho6.ints
      clear hl6 ho6 hU5 hI5
      go_wp2_with fail
      refine (impl_JoinPlaces _ _ _ _ _ _ _ _ _ hI6 hU6 Hl.out Hl2.out (by omega) (by omega)).mono ?_
      rintro e v7 ⟨A7, n7, c7, rfl, hl7, ho7, hb7⟩
      rw [Hno.out] at hl7 ho7
      rw [iota_len] at hl7
      subst hl7
      have hB7 := bthen hB6 hb7
      have hU7 := hU6.next hb7
      have hI7 := hI6.next hb7
      have hG7 := hG6.next hb7
      have hN7 := ho7.ints
      clear ho7 hU6 hI6 hG6
      go_wp2_with fail
      refine (impl_JoinPlaces _ _ _ _ _ _ _ _ _ hU7 hI7 Hl2.out Hl.out (by omega) (by omega)).mono ?_
      rintro e v8 ⟨A8, n8, c8, rfl, hl8, ho8, hb8⟩
      rw [Hot.out] at hl8 ho8
      rw [iota_len] at hl8
      subst hl8
      have hB8 := bthen hB7 hb8
      have hI8 := hI7.next hb8
      have hG8 := hG7.next hb8
      have hN8 := hN7.next hb8
      have hO8 := ho8.ints
      clear ho8 hU7 hI7 hG7 hN7
      go_wp2_with fail
      go_loop [14] (fun i => ∃ (k : Nat), k ≤ n2 ∧ i = .int .i64 k) (fun i => n2 - (intOf i).toNat)
      case atStart => exact ⟨0, Nat.zero_le _, rfl⟩
      case round =>
        obtain ⟨k, hk, rfl⟩ := hrel
        by_cases hlt : k < n2
        · obtain ⟨b, off, rfl, hbl, hc⟩ := hN8.at_ (iota_at n2 k hlt)
          obtain ⟨b2, off2, rfl, hbl2, hc2⟩ := hO8.at_ (iota_at n2 k hlt)
          go_wp2
          go_round
          case rel => exact ⟨k + 1, by omega, by go_num⟩
          case measure => simp [intOf]; omega
        · go_wp2_with fail
          refine (laws_rcInts _ _ _ _ _ _ _ _ _ hG8 hI8 Hl.out Hl.out (by omega) (by omega)).mono ?_
          rintro e v9 ⟨rfl, hb9⟩
          go_wp2_with fail
          go_ret
          exact ⟨rfl, bthen hB8 hb9⟩
end Go.Proofs.Ytbekeaijkfmgbaa
