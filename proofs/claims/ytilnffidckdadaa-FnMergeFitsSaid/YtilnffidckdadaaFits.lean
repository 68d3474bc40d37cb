/- Whether a word has the known letters of a word with gaps: both programs return what the plain test says. No condition. -/
import Derived.Test.YtilnffidckdadaaVal
import Derived.Test.YtilnffidckdadaaPlain18
import Derived.BigQuiet
import Derived.Deep.QuietTactic
set_option linter.unusedVariables false
namespace Go.Proofs.Ytilnffidckdadaa
open Go.RowKit
theorem fit1_gap {p c : Nat} (h : ((p : Int) != 45) = false) : fit1 p c = true := by
  rw [bne_eq_false_iff_eq] at h
  simp [fit1]; omega
theorem fit1_same {p c : Nat} (h : ((p : Int) != (c : Int)) = false) : fit1 p c = true := by
  rw [bne_eq_false_iff_eq] at h
  simp [fit1]; omega
theorem fit1_no {p c : Nat} (h1 : ((p : Int) != 45) = true) (h : ((p : Int) != (c : Int)) = true) : fit1 p c = false := by
  rw [bne_iff_ne] at h1 h
  simp [fit1]; omega

theorem spec_PartialFits_no (a b : ByteArray) (w : World) (h : fitV (nb a) (nb b) = false) (hma : a.size ≤ maxLen) (hmb : b.size ≤ maxLen) :
    Calls Try.prog 19 #[.string a, .string b] w fun e w' => e = .returned (.bool false) ∧ Below w.heap.size w w' := by
  unfold fitV at h
  rw [nb_length, nb_length] at h
  rcases g3_no h with h1 | ⟨h1, h2⟩ | ⟨h1, h2, h3⟩
  all_goals
    clear h
    go_enter Try.func19, Try.ntmps19
    go_wp2_with (first | (go_at_call 15; refine (spec_PartialValid _ _ (by assumption)).mono ?_; rintro e w' ⟨rfl, rfl⟩) | (go_at_call 44; refine (spec_WordValid _ _ (by assumption)).mono ?_; rintro e w' ⟨rfl, rfl⟩))
    go_ret
    exact ⟨rfl, Below.refl _ _⟩
set_option maxHeartbeats 1000000 in
theorem spec_PartialFits_ok (a b : ByteArray) (w : World) (h : fitV (nb a) (nb b) = true) :
    Calls Try.prog 19 #[.string a, .string b] w fun e w' => e = .returned (.bool (fits (nb a) (nb b))) ∧ Below w.heap.size w w' := by
  obtain ⟨ha, hb, hl⟩ := g3_yes h
  have la := pv_len ha
  rw [nb_length] at la
  have hma : a.size ≤ maxLen := by unfold maxLen; omega
  have hl' : a.size = b.size := by rw [← nb_length, ← nb_length]; exact hl
  have hmb : b.size ≤ maxLen := by unfold maxLen; omega
  have hn := ne_no hl'
  have hL : (List.zipWith fit1 (nb a) (nb b)).length = a.size := by simp [nb_length]; omega
  have HL := Lib.hid hL
  have Hh := Lib.hid h
  have lab : a.size ≤ b.size := by omega
  clear hl hl' hL h
  go_enter Try.func19, Try.ntmps19
  go_wp2_with (first | (go_at_call 15; refine (spec_PartialValid _ _ (by assumption)).mono ?_; rintro e w' ⟨rfl, rfl⟩) | (go_at_call 44; refine (spec_WordValid _ _ (by assumption)).mono ?_; rintro e w' ⟨rfl, rfl⟩))
  go_loopw [5] (fun i wr => ∃ k : Nat, k ≤ a.size ∧ i = .int .i64 k ∧ bup (List.zipWith fit1 (nb a) (nb b)) k ∧ Below w.heap.size w wr) (fun i _ => a.size - (intOf i).toNat)
  case atStart => exact ⟨0, Nat.zero_le _, rfl, bup_zero _, Below.refl _ _⟩
  case round =>
    obtain ⟨k, hk, rfl, hu, hbe⟩ := hrel
    by_cases hlt : k < a.size
    · have hkb : k < b.size := by omega
      obtain ⟨p, hp⟩ : ∃ c, (nb a)[k]? = some c := ⟨_, nb_get? a k hlt⟩
      obtain ⟨c, hc⟩ : ∃ d, (nb b)[k]? = some d := ⟨_, nb_get? b k hkb⟩
      have hpk : a[k].toNat = p := by have := nb_get? a k hlt; rw [hp] at this; injection this with this; exact this.symm
      have hck : b[k].toNat = c := by have := nb_get? b k hkb; rw [hc] at this; injection this with this; exact this.symm
      have Hn := Lib.hid (zipWith_at (f := fit1) hp hc)
      clear hc hp
      cases hq : ((p : Int) != 45)
      · go_wp2_with fail
        go_quiet (fail)
        go_wp2
        go_roundw
        case rel => exact ⟨k + 1, by omega, by go_num, bup_succ hu (by rw [Hn.out, fit1_gap hq]), bel_drewN hbe _⟩
        case measure => simp [intOf]; omega
      · cases hd : ((p : Int) != (c : Int))
        · go_wp2_with fail
          go_quiet (fail)
          go_wp2
          go_roundw
          case rel => exact ⟨k + 1, by omega, by go_num, bup_succ hu (by rw [Hn.out, fit1_same hd]), bel_drewN hbe _⟩
          case measure => simp [intOf]; omega
        · go_wp2_with fail
          go_quiet (fail)
          go_wp2
          go_ret
          exact ⟨ret_bool (by rw [fits_no (by rw [Hn.out, fit1_no hq hd])]), bel_drewN hbe _⟩
    · go_wp2
      go_ret
      exact ⟨ret_bool (by
        obtain rfl : k = a.size := by omega
        rw [fits_yes Hh.out (by rw [HL.out]; exact hu)]), hbe⟩
theorem spec_PartialFits (a b : ByteArray) (w : World) (hma : a.size ≤ maxLen) (hmb : b.size ≤ maxLen) :
    Calls Try.prog 19 #[.string a, .string b] w fun e w' => e = .returned (.bool (fits (nb a) (nb b))) ∧ Below w.heap.size w w' := by
  cases h : fitV (nb a) (nb b)
  · rw [fits, h, Bool.false_and]
    exact spec_PartialFits_no a b w h hma hmb
  · exact spec_PartialFits_ok a b w h

theorem impl_PartialFits_no (a b : ByteArray) (w : World) (h : fitV (nb a) (nb b) = false) (hma : a.size ≤ maxLen) (hmb : b.size ≤ maxLen) :
    Calls Try.prog 20 #[.string a, .string b] w fun e w' => e = .returned (.bool false) ∧ Below w.heap.size w w' := by
  unfold fitV at h
  rw [nb_length, nb_length] at h
  rcases g3_no h with h1 | ⟨h1, h2⟩ | ⟨h1, h2, h3⟩
  all_goals
    clear h
    go_enter Try.func20, Try.ntmps20
    go_wp2_with (first | (go_at_call 16; refine (impl_PartialValid _ _ (by assumption)).mono ?_; rintro e w' ⟨rfl, rfl⟩) | (go_at_call 28; refine (impl_WordValid _ _ (by assumption)).mono ?_; rintro e w' ⟨rfl, rfl⟩))
    go_ret
    exact ⟨rfl, Below.refl _ _⟩
set_option maxHeartbeats 1000000 in
theorem impl_PartialFits_ok (a b : ByteArray) (w : World) (h : fitV (nb a) (nb b) = true) :
    Calls Try.prog 20 #[.string a, .string b] w fun e w' => e = .returned (.bool (fits (nb a) (nb b))) ∧ Below w.heap.size w w' := by
  obtain ⟨ha, hb, hl⟩ := g3_yes h
  have la := pv_len ha
  rw [nb_length] at la
  have hma : a.size ≤ maxLen := by unfold maxLen; omega
  have hl' : a.size = b.size := by rw [← nb_length, ← nb_length]; exact hl
  have hmb : b.size ≤ maxLen := by unfold maxLen; omega
  have hn := ne_no hl'
  have hL : (List.zipWith fit1 (nb a) (nb b)).length = a.size := by simp [nb_length]; omega
  have HL := Lib.hid hL
  have Hh := Lib.hid h
  have lab : a.size ≤ b.size := by omega
  clear hl hl' hL h
  go_enter Try.func20, Try.ntmps20
  go_wp2_with (first | (go_at_call 16; refine (impl_PartialValid _ _ (by assumption)).mono ?_; rintro e w' ⟨rfl, rfl⟩) | (go_at_call 28; refine (impl_WordValid _ _ (by assumption)).mono ?_; rintro e w' ⟨rfl, rfl⟩))
  go_loopw [23] (fun i wr => ∃ k : Nat, k ≤ a.size ∧ i = .int .i64 k ∧ bup (List.zipWith fit1 (nb a) (nb b)) k ∧ Below w.heap.size w wr) (fun i _ => a.size - (intOf i).toNat)
  case atStart => exact ⟨0, Nat.zero_le _, rfl, bup_zero _, Below.refl _ _⟩
  case round =>
    obtain ⟨k, hk, rfl, hu, hbe⟩ := hrel
    by_cases hlt : k < a.size
    · have hkb : k < b.size := by omega
      obtain ⟨p, hp⟩ : ∃ c, (nb a)[k]? = some c := ⟨_, nb_get? a k hlt⟩
      obtain ⟨c, hc⟩ : ∃ d, (nb b)[k]? = some d := ⟨_, nb_get? b k hkb⟩
      have hpk : a[k].toNat = p := by have := nb_get? a k hlt; rw [hp] at this; injection this with this; exact this.symm
      have hck : b[k].toNat = c := by have := nb_get? b k hkb; rw [hc] at this; injection this with this; exact this.symm
      have Hn := Lib.hid (zipWith_at (f := fit1) hp hc)
      clear hc hp
      cases hq : ((p : Int) != 45)
      · go_wp2_with fail
        go_quiet (fail)
        go_wp2
        go_roundw
        case rel => exact ⟨k + 1, by omega, by go_num, bup_succ hu (by rw [Hn.out, fit1_gap hq]), bel_drewN hbe _⟩
        case measure => simp [intOf]; omega
      · cases hd : ((p : Int) != (c : Int))
        · go_wp2_with fail
          go_quiet (fail)
          go_wp2
          go_roundw
          case rel => exact ⟨k + 1, by omega, by go_num, bup_succ hu (by rw [Hn.out, fit1_same hd]), bel_drewN hbe _⟩
          case measure => simp [intOf]; omega
        · go_wp2_with fail
          go_quiet (fail)
          go_wp2
          go_ret
          exact ⟨ret_bool (by rw [fits_no (by rw [Hn.out, fit1_no hq hd])]), bel_drewN hbe _⟩
    · go_wp2
      go_ret
      exact ⟨ret_bool (by
        obtain rfl : k = a.size := by omega
        rw [fits_yes Hh.out (by rw [HL.out]; exact hu)]), hbe⟩
theorem impl_PartialFits (a b : ByteArray) (w : World) (hma : a.size ≤ maxLen) (hmb : b.size ≤ maxLen) :
    Calls Try.prog 20 #[.string a, .string b] w fun e w' => e = .returned (.bool (fits (nb a) (nb b))) ∧ Below w.heap.size w w' := by
  cases h : fitV (nb a) (nb b)
  · rw [fits, h, Bool.false_and]
    exact impl_PartialFits_no a b w h hma hmb
  · exact impl_PartialFits_ok a b w h

end Go.Proofs.Ytilnffidckdadaa
