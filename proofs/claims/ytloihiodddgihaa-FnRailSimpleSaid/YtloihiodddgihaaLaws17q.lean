/- The walk of the law on simple fences. No condition. Written by mk_laws17o.py. -/
import Derived.Test.YtloihiodddgihaaDraw17c
import Derived.Test.YtloihiodddgihaaRail3
import Derived.Test.YtloihiodddgihaaPlainR2
import Derived.Test.YtloihiodddgihaaRc
set_option linter.unusedVariables false
namespace Go.Proofs.Ytloihiodddgihaa
open Go.RowKit

set_option maxRecDepth 20000 in
set_option maxHeartbeats 2000000 in
theorem walk_FnRailSimple (a0 : Option Addr) (len0 cap0 : Nat) (z0 : List Int) (w : World) (w0 : IsRow .u8 w a0 len0 cap0 z0) :
    Calls Try.prog 4 #[.slice a0 len0 cap0] w fun e w' => e = .returned (.bool true) ∧ Below w.heap.size w w' := by
  have hl := w0.len_le
  by_cases hbig : 1048576 < len0
  · clear w0
    go_enter Try.func4, Try.ntmps4
    go_wp2_with fail
    go_ret
    exact ⟨rfl, Below.refl _ _⟩
  · have W0 := Lib.hid w0
    clear w0
    go_enter Try.func4, Try.ntmps4
    go_wp2_with fail
    refine (spec_DrawRailPlaces _ _ _ _ _ W0.out).mono ?_
    rintro e v1 ⟨y, z, rfl, hb1⟩
    go_wp2_with fail
    refine (impl_RailPlaces y z _).mono ?_
    rintro e v2 ⟨A2, n2, c2, rfl, hl2, ho2, hb2⟩
    have hn2 : n2 ≤ 200 := by have := rpl_len y z; omega
    have hI2 := ho2.ints
    have hB2 := bthen hb1 hb2
    have Hl2 := Lib.hid hl2
    clear hl2 ho2
    have hsame := same_refl (rpl y z)
    go_wp2_with fail
    refine (spec_RailPlaces y z _).mono ?_
    rintro e v4 ⟨A4, n4, c4, rfl, hl4, ho4, hb4⟩
    obtain rfl : n4 = n2 := by have := Hl2.out; omega
    have hB4 := bthen hB2 hb4
    clear hl4
    go_wp2_with fail
    refine (laws_rcInts _ _ _ _ _ _ _ _ _ (hI2.next hb4) ho4.ints Hl2.out Hl2.out (by omega) (by omega)).mono ?_
    rintro e v5 ⟨rfl, hb5⟩
    have hB5 := bthen hB4 hb5
    have hI5 := (hI2.next hb4).next hb5
    clear ho4 hI2
    by_cases hbad : z < 0 ∨ 200 < z
    · have hcase : z < 0 ∨ (¬ z < 0 ∧ 200 < z) := by omega
      clear hbad
      rcases hcase with h1 | ⟨h1, h2⟩
      all_goals
        go_wp2_with fail
        refine (spec_RailPlaces y z _).mono ?_
        rintro e v6 ⟨A6, n6, c6, rfl, hl6, ho6, hb6⟩
        obtain rfl : n6 = n4 := by have := Hl2.out; omega
        have hB6 := bthen hB5 hb6
        clear hl6
        go_wp2_with fail
        refine (laws_rcInts _ _ _ _ _ _ _ _ _ (hI5.next hb6) ho6.ints Hl2.out Hl2.out (by omega) (by omega)).mono ?_
        rintro e v7 ⟨rfl, hb7⟩
        go_wp2_with fail
        go_ret
        exact ⟨rfl, bthen hB6 hb7⟩
    · obtain ⟨N, rfl, hN⟩ : ∃ N : Nat, z = (N : Int) ∧ N ≤ 200 := ⟨z.toNat, by omega, by omega⟩
      have Hone : Hid (rpl 1 (N : Int) = iota N) := (rpl_yes (R := 1) (by omega) (by omega) hN).trans (rail_one N)
      have Htwo : Hid (rpl 2 (N : Int) = evod N) := (rpl_yes (R := 2) (by omega) (by omega) hN).trans (rail_two N)
      have z1 : ¬ (N : Int) < 0 := by omega
      have z2 : ¬ (200 : Int) < (N : Int) := by omega
      clear hbad
      have Hwide : Hid (n4 = N → (N : Int) ≤ y → rpl y (N : Int) = iota N) := by
        intro h1 h2
        by_cases hv : rpv y (N : Int) = true
        · obtain ⟨R, N', rfl, hN', hR1, hR2, _⟩ := rpv_yes hv
          obtain rfl : N = N' := by omega
          rw [rpl_yes hR1 hR2 hN]
          exact rail_wide hR1 (by omega)
        · have hr : rpl y (N : Int) = [] := by rw [rpl, if_neg hv]
          have := Hl2.out
          rw [hr] at this
          have hN0 : N = 0 := by rw [← h1]; exact this.symm
          rw [hr, hN0]; rfl
      go_wp2_with fail
      refine (impl_RailPlaces 1 _ _).mono ?_
      rw [Hone.out]
      rintro e v6 ⟨A6, n6, c6, rfl, hl6, ho6, hb6⟩
      obtain rfl : n6 = N := by rw [iota_len] at hl6; exact hl6.symm
      have hB6 := bthen hB5 hb6
      have hI6 := hI5.next hb6
      have hO6 := ho6.ints
      clear hI5 hl6 ho6
      go_wp2_with fail
      refine (impl_RailPlaces 2 _ _).mono ?_
      rw [Htwo.out]
      rintro e v7 ⟨A7, n7, c7, rfl, hl7, ho7, hb7⟩
      obtain rfl : n7 = n6 := by rw [evod_len] at hl7; exact hl7.symm
      have hB7 := bthen hB6 hb7
      have hI7 := hI6.next hb7
      have hO7 := hO6.next hb7
      have hT7 := ho7.ints
      clear hI6 hO6 hl7 ho7
      have hne : ((n7 : Int) != (n7 : Int)) = false := by simp
      have hhalf : ((n7 : Int) + 1).tdiv 2 = (((n7 + 1) / 2 : Nat) : Int) := by
        rw [Int.tdiv_eq_ediv_of_nonneg (by omega)]; omega
      have Hhalf := Lib.hid (show (n7 + 1) / 2 = (n7 + 1) / 2 from rfl)
      generalize hH : (n7 + 1) / 2 = half at hhalf
      have hhb : half ≤ n7 + 1 := by omega
      have HH := Lib.hid hH
      clear hH
      go_wp2_with fail
      go_loopw [9] (fun i wr => ∃ (k : Nat), k ≤ n7 ∧ i = .int .i64 k ∧ Below v7.heap.size v7 wr) (fun i _ => n7 - (intOf i).toNat)
      case atStart => exact ⟨0, Nat.zero_le _, rfl, Below.refl _ _⟩
      case round =>
        obtain ⟨k, hk, rfl, hbe⟩ := hrel
        by_cases hlt : k < n7
        · obtain ⟨b1, off1, rfl, hbl1, hc1⟩ := (hO7.next hbe).at_ (iota_at n7 k hlt)
          have hev := evod_at n7 k hlt
          rw [HH.out] at hev
          have HO := Lib.hid hO7
          have HT := Lib.hid hT7
          have HI := Lib.hid hI7
          have hkk : ((k : Int) != (k : Int)) = false := by simp
          by_cases hkh : k < half
          · rw [if_pos hkh] at hev
            obtain ⟨b2, off2, rfl, hbl2, hc2⟩ := (HT.out.next hbe).at_ hev
            have e2 : ((2 * k : Nat) : Int) = 2 * (k : Int) := by omega
            rw [e2] at hc2
            have hkhi : (k : Int) < (half : Int) := by omega
            have hkge : ¬ (half : Int) ≤ (k : Int) := by omega
            clear hO7 hT7 hI7 hev e2
            by_cases hw : n4 = n7 ∧ (n7 : Int) ≤ y
            · obtain ⟨hw1, hw2⟩ := hw
              subst hw1
              obtain ⟨b3, off3, rfl, hbl3, hc3⟩ : ∃ b off, A2 = some ⟨b, off, none⟩ ∧ b < wr.heap.size ∧ wr.cell? ⟨b, off + k, none⟩ = some (.int .i64 (k : Int)) := by
                have h := HI.out
                rw [Hwide.out rfl hw2] at h
                exact (h.next hbe).at_ (iota_at _ k hlt)
              go_wp2_with fail
              go_roundw
              case rel => exact ⟨k + 1, by omega, by go_num, hbe⟩
              case measure => simp [intOf]; omega
            · have hcase : ((n4 : Int) == (n7 : Int)) = false ∨ (((n4 : Int) == (n7 : Int)) = true ∧ ¬ (n7 : Int) ≤ y) := by
                by_cases h1 : n4 = n7
                · exact .inr ⟨by rw [beq_iff_eq]; omega, fun h2 => hw ⟨h1, h2⟩⟩
                · exact .inl (by rw [beq_eq_false_iff_ne]; omega)
              clear hw
              rcases hcase with h1 | ⟨h1, h2⟩
              all_goals
                go_wp2_with fail
                go_roundw
                case rel => exact ⟨k + 1, by omega, by go_num, hbe⟩
                case measure => simp [intOf]; omega
          · rw [if_neg hkh] at hev
            obtain ⟨b2, off2, rfl, hbl2, hc2⟩ := (HT.out.next hbe).at_ hev
            have e2 : ((2 * (k - half) + 1 : Nat) : Int) = 2 * ((k : Int) - (half : Int)) + 1 := by omega
            rw [e2] at hc2
            have hkhi : ¬ (k : Int) < (half : Int) := by omega
            have hkge : (half : Int) ≤ (k : Int) := by omega
            clear hO7 hT7 hI7 hev e2
            by_cases hw : n4 = n7 ∧ (n7 : Int) ≤ y
            · obtain ⟨hw1, hw2⟩ := hw
              subst hw1
              obtain ⟨b3, off3, rfl, hbl3, hc3⟩ : ∃ b off, A2 = some ⟨b, off, none⟩ ∧ b < wr.heap.size ∧ wr.cell? ⟨b, off + k, none⟩ = some (.int .i64 (k : Int)) := by
                have h := HI.out
                rw [Hwide.out rfl hw2] at h
                exact (h.next hbe).at_ (iota_at _ k hlt)
              go_wp2_with fail
              go_roundw
              case rel => exact ⟨k + 1, by omega, by go_num, hbe⟩
              case measure => simp [intOf]; omega
            · have hcase : ((n4 : Int) == (n7 : Int)) = false ∨ (((n4 : Int) == (n7 : Int)) = true ∧ ¬ (n7 : Int) ≤ y) := by
                by_cases h1 : n4 = n7
                · exact .inr ⟨by rw [beq_iff_eq]; omega, fun h2 => hw ⟨h1, h2⟩⟩
                · exact .inl (by rw [beq_eq_false_iff_ne]; omega)
              clear hw
              rcases hcase with h1 | ⟨h1, h2⟩
              all_goals
                go_wp2_with fail
                go_roundw
                case rel => exact ⟨k + 1, by omega, by go_num, hbe⟩
                case measure => simp [intOf]; omega
        · go_wp2_with fail
          go_ret
          exact ⟨rfl, bthen hB7 hbe⟩
end Go.Proofs.Ytloihiodddgihaa
