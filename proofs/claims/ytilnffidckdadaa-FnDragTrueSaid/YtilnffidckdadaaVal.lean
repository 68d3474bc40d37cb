/- The tests on words with gaps return what the plain test says. No condition. -/
import Derived.Test.YtilnffidckdadaaRows
import Derived.Test.YtilnffidckdadaaWords
set_option linter.unusedVariables false
namespace Go.Proofs.Ytilnffidckdadaa
open Go.RowKit

set_option maxHeartbeats 400000 in
theorem impl_PartialValid (s : ByteArray) (w : World) (hs : s.size ≤ maxLen) :
    Calls Try.prog 16 #[.string s] w fun e w' => e = .returned (.bool (pv (nb s))) ∧ w = w' := by
  unfold maxLen at hs
  by_cases hlen : 200 < s.size
  · go_enter Try.func16, Try.ntmps16
    go_wp2
    go_ret
    exact ⟨ret_bool (by simp [pv, nb_length]; omega), rfl⟩
  · go_enter Try.func16, Try.ntmps16
    go_wp2
    go_loop [9] (fun i => ∃ k : Nat, k ≤ s.size ∧ i = .int .i64 k ∧ upto isP (nb s) k) (fun i => s.size - (intOf i).toNat)
    case atStart => exact ⟨0, Nat.zero_le _, rfl, upto_zero _ _⟩
    case round =>
      obtain ⟨k, hk, rfl, hu⟩ := hrel
      by_cases hlt : k < s.size
      · have hg := nb_get? s k hlt
        have Hg := Lib.hid hg
        clear hg
        cases hq : (((s[k].toNat : Nat) : Int) != 45)
        · go_wp2
          go_round
          case rel => exact ⟨k + 1, by omega, by go_num, upto_succ hu Hg.out (isP_gap hq)⟩
          case measure => simp [intOf]; omega
        · cases hl : isL s[k].toNat
          · go_wp2_with (go_at_call 43; refine (impl_isLetter _ _).mono ?_; rintro e w' ⟨rfl, rfl⟩)
            go_ret
            exact ⟨ret_bool (by simp only [pv]; rw [not_all Hg.out (isP_no hq hl)]; simp), rfl⟩
          · go_wp2_with (go_at_call 43; refine (impl_isLetter _ _).mono ?_; rintro e w' ⟨rfl, rfl⟩)
            go_round
            case rel => exact ⟨k + 1, by omega, by go_num, upto_succ hu Hg.out (isP_letter hl)⟩
            case measure => simp [intOf]; omega
      · go_wp2
        go_ret
        exact ⟨ret_bool (by
          obtain rfl : k = s.size := by omega
          rw [← nb_length] at hu
          simp [pv, nb_length, upto_all hu]; omega), rfl⟩

theorem spec_l1Is (s : ByteArray) (c : Nat) (w : World) (h : nb s = [c]) :
    Calls Try.prog 42 #[.string s] w fun e w' => e = .returned (.bool (isL c)) ∧ w = w' := by
  have hz : s.size = 1 := by rw [← nb_length, h]; rfl
  have hp : 0 < s.size := by omega
  have hc : s[0].toNat = c := by have := nb_get s 0 hp; simp only [h] at this; simpa using this.symm
  have hz' : ((s.size : Int) == 1) = true := by simp; omega
  have Hc := Lib.hid hc
  clear h hz hc
  by_cases h1 : (97 : Int) ≤ (s[0].toNat : Int)
  · go_enter Try.func42, Try.ntmps42
    go_wp2
    go_ret
    exact ⟨ret_bool (by rw [← Hc.out]; exact isL_dec h1), rfl⟩
  · go_enter Try.func42, Try.ntmps42
    go_wp2
    go_ret
    exact ⟨ret_bool (by rw [← Hc.out]; exact isL_low (by omega)), rfl⟩

set_option maxHeartbeats 400000 in
theorem spec_PartialValid (s : ByteArray) (w : World) (hs : s.size ≤ maxLen) :
    Calls Try.prog 15 #[.string s] w fun e w' => e = .returned (.bool (pv (nb s))) ∧ w = w' := by
  unfold maxLen at hs
  by_cases hlen : 200 < s.size
  · go_enter Try.func15, Try.ntmps15
    go_wp2
    go_ret
    exact ⟨ret_bool (by simp [pv, nb_length]; omega), rfl⟩
  · go_enter Try.func15, Try.ntmps15
    go_wp2
    go_loop [3] (fun i => ∃ k : Nat, k ≤ s.size ∧ i = .int .i64 k ∧ upto isP (nb s) k) (fun i => s.size - (intOf i).toNat)
    case atStart => exact ⟨0, Nat.zero_le _, rfl, upto_zero _ _⟩
    case round =>
      obtain ⟨k, hk, rfl, hu⟩ := hrel
      by_cases hlt : k < s.size
      · have Hg := Lib.hid (nb_get? s k hlt)
        have He := Lib.hid (nb_one s k hlt)
        cases hq : (((s[k].toNat : Nat) : Int) != 45)
        · go_wp2
          go_round
          case rel => exact ⟨k + 1, by omega, by go_num, upto_succ hu Hg.out (isP_gap hq)⟩
          case measure => simp [intOf]; omega
        · cases hl : isL s[k].toNat
          · go_wp2_with (go_at_call 42; refine (spec_l1Is _ _ _ He.out).mono ?_; rintro e w' ⟨rfl, rfl⟩)
            go_ret
            exact ⟨ret_bool (by simp only [pv]; rw [not_all Hg.out (isP_no hq hl)]; simp), rfl⟩
          · go_wp2_with (go_at_call 42; refine (spec_l1Is _ _ _ He.out).mono ?_; rintro e w' ⟨rfl, rfl⟩)
            go_round
            case rel => exact ⟨k + 1, by omega, by go_num, upto_succ hu Hg.out (isP_letter hl)⟩
            case measure => simp [intOf]; omega
      · go_wp2
        go_ret
        exact ⟨ret_bool (by
          obtain rfl : k = s.size := by omega
          rw [← nb_length] at hu
          simp [pv, nb_length, upto_all hu]; omega), rfl⟩
end Go.Proofs.Ytilnffidckdadaa
