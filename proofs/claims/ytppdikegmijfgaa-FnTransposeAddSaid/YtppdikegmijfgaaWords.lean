/- The tests on words return what the plain test says. No condition. -/
import Derived.Test.YtppdikegmijfgaaConv
set_option linter.unusedVariables false
namespace Go.Proofs.Ytppdikegmijfgaa
open Go.RowKit

theorem impl_isLetter (c : Nat) (w : World) :
    Calls Try.prog 35 #[.int .u8 c] w fun e w' => e = .returned (.bool (isL c)) ∧ w = w' := by
  by_cases h1 : (97 : Int) ≤ (c : Int)
  · go_enter Try.func35, Try.ntmps35
    go_wp2
    go_ret
    exact ⟨ret_bool (isL_dec h1), rfl⟩
  · go_enter Try.func35, Try.ntmps35
    go_wp2
    go_ret
    exact ⟨ret_bool (isL_low (by omega)), rfl⟩
set_option maxHeartbeats 400000 in
theorem impl_WordValid (s : ByteArray) (w : World) (hs : s.size ≤ maxLen) :
    Calls Try.prog 16 #[.string s] w fun e w' => e = .returned (.bool (wv (nb s))) ∧ w = w' := by
  unfold maxLen at hs
  by_cases hlen : 200 < s.size
  · go_enter Try.func16, Try.ntmps16
    go_wp2
    go_ret
    exact ⟨ret_bool (by simp [wv, nb_length]; omega), rfl⟩
  · go_enter Try.func16, Try.ntmps16
    go_wp2
    go_loop [9] (fun i => ∃ k : Nat, k ≤ s.size ∧ i = .int .i64 k ∧ upto isL (nb s) k) (fun i => s.size - (intOf i).toNat)
    case atStart => exact ⟨0, Nat.zero_le _, rfl, upto_zero _ _⟩
    case round =>
      obtain ⟨k, hk, rfl, hu⟩ := hrel
      by_cases hlt : k < s.size
      · have Hg := Lib.hid (nb_get? s k hlt)
        cases hl : isL s[k].toNat
        · go_wp2_with (go_at_call 35; refine (impl_isLetter _ _).mono ?_; rintro e w' ⟨rfl, rfl⟩)
          go_ret
          exact ⟨ret_bool (by simp only [wv]; rw [not_all Hg.out hl]; simp), rfl⟩
        · go_wp2_with (go_at_call 35; refine (impl_isLetter _ _).mono ?_; rintro e w' ⟨rfl, rfl⟩)
          go_round
          case rel => exact ⟨k + 1, by omega, by go_num, upto_succ hu Hg.out hl⟩
          case measure => simp [intOf]; omega
      · go_wp2
        go_ret
        exact ⟨ret_bool (by
          obtain rfl : k = s.size := by omega
          rw [← nb_length] at hu
          simp [wv, nb_length, upto_all hu]; omega), rfl⟩
set_option maxHeartbeats 400000 in
theorem spec_WordValid (s : ByteArray) (w : World) (hs : s.size ≤ maxLen) :
    Calls Try.prog 20 #[.string s] w fun e w' => e = .returned (.bool (wv (nb s))) ∧ w = w' := by
  unfold maxLen at hs
  by_cases hlen : 200 < s.size
  · go_enter Try.func20, Try.ntmps20
    go_wp2
    go_ret
    exact ⟨ret_bool (by simp [wv, nb_length]; omega), rfl⟩
  · go_enter Try.func20, Try.ntmps20
    go_wp2
    go_loop [3] (fun i => ∃ k : Nat, k ≤ s.size ∧ i = .int .i64 k ∧ upto isL (nb s) k) (fun i => s.size - (intOf i).toNat)
    case atStart => exact ⟨0, Nat.zero_le _, rfl, upto_zero _ _⟩
    case round =>
      obtain ⟨k, hk, rfl, hu⟩ := hrel
      by_cases hlt : k < s.size
      · obtain ⟨c, hc⟩ : ∃ c, (nb s)[k]? = some c := ⟨_, nb_get? s k hlt⟩
        have Hg := Lib.hid hc
        clear hc
        cases hl : isL c
        · go_wp2_with (first | (go_at_call 40; refine (spec_l1Digit _ _ k c _ rfl Hg.out).mono ?_; rintro e w' ⟨rfl, rfl⟩) | (go_at_call 39; refine (spec_l1In _ _ _ _ false (isL_in0 hl)).mono ?_; rintro e w' ⟨rfl, rfl⟩))
          go_ret
          exact ⟨ret_bool (by simp only [wv]; rw [not_all Hg.out hl]; simp), rfl⟩
        · go_wp2_with (first | (go_at_call 40; refine (spec_l1Digit _ _ k c _ rfl Hg.out).mono ?_; rintro e w' ⟨rfl, rfl⟩) | (go_at_call 39; refine (spec_l1In _ _ _ _ true (isL_in1 hl)).mono ?_; rintro e w' ⟨rfl, rfl⟩))
          go_round
          case rel => exact ⟨k + 1, by omega, by go_num, upto_succ hu Hg.out hl⟩
          case measure => simp [intOf]; omega
      · go_wp2
        go_ret
        exact ⟨ret_bool (by
          obtain rfl : k = s.size := by omega
          rw [← nb_length] at hu
          simp [wv, nb_length, upto_all hu]; omega), rfl⟩
end Go.Proofs.Ytppdikegmijfgaa
