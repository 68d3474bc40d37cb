/- Wheels, and the letters that they give. No condition. -/
import Derived.Test.YtchjhngfkngljaaDoorTape2
import Derived.Test.YtchjhngfkngljaaDoorStrs
set_option linter.unusedVariables false
namespace Go.Proofs.YtchjhngfkngljaaDoor
open Go.RowKit

def isB (c : Nat) : Bool := c == 48 || c == 49
theorem isB_yes {c : Nat} (h : isB c = true) : c = 48 ∨ c = 49 := by simpa [isB] using h
theorem isB_no {c : Nat} (h : isB c = false) : ((c : Int) != 48) = true ∧ ((c : Int) != 49) = true := by
  have h' : ¬ c = 48 ∧ ¬ c = 49 := by simpa [isB] using h
  constructor <;> (rw [bne_iff_ne]; omega)
def wheel (l : List Nat) : Bool := decide (2 ≤ l.length ∧ l.length ≤ 9) && l.all isB
theorem wheel_len {l : List Nat} (h : wheel l = true) : 2 ≤ l.length ∧ l.length ≤ 9 := by simp only [wheel, Bool.and_eq_true, decide_eq_true_eq] at h; exact h.1
theorem wheel_at {l : List Nat} {k c : Nat} (h : wheel l = true) (hc : l[k]? = some c) : c = 48 ∨ c = 49 := by
  simp only [wheel, Bool.and_eq_true, decide_eq_true_eq, List.all_eq_true] at h
  exact isB_yes (h.2 c (List.mem_of_getElem? hc))
/-- The bit of a wheel after some steps. -/
def bitAt (s : ByteArray) (i : Nat) : Nat := (nb s).getD (i % s.size) 48 - 48
theorem bitAt_spec {s : ByteArray} (h : wheel (nb s) = true) (i : Nat) : ∃ (hk : i % s.size < s.size), s[i % s.size].toNat = 48 + bitAt s i ∧ bitAt s i ≤ 1 := by
  have hl := wheel_len h
  rw [nb_length] at hl
  have hk : i % s.size < s.size := Nat.mod_lt _ (by omega)
  refine ⟨hk, ?_⟩
  have hc := nb_get? s _ hk
  unfold bitAt
  rw [List.getD_eq_getElem?_getD, hc]
  rcases wheel_at h hc with e | e <;> simp [e]
set_option maxHeartbeats 400000 in
theorem impl_wheelValid (s : ByteArray) (w : World) (hs : s.size ≤ maxLen) :
    Calls Tryd.prog 20 #[.string s] w fun e w' => e = .returned (.bool (wheel (nb s))) ∧ w = w' := by
  unfold maxLen at hs
  by_cases h2 : s.size < 2
  · go_enter Tryd.func20, Tryd.ntmps20
    go_wp2
    go_ret
    exact ⟨ret_bool (by simp [wheel, nb_length]; omega), rfl⟩
  by_cases h9 : 9 < s.size
  · go_enter Tryd.func20, Tryd.ntmps20
    go_wp2
    go_ret
    exact ⟨ret_bool (by simp [wheel, nb_length]; omega), rfl⟩
  · go_enter Tryd.func20, Tryd.ntmps20
    go_wp2
    go_loop [14] (fun i => ∃ k : Nat, k ≤ s.size ∧ i = .int .i64 k ∧ upto isB (nb s) k) (fun i => s.size - (intOf i).toNat)
    case atStart => exact ⟨0, Nat.zero_le _, rfl, upto_zero _ _⟩
    case round =>
      obtain ⟨k, hk, rfl, hu⟩ := hrel
      by_cases hlt : k < s.size
      · have Hg := Lib.hid (nb_get? s k hlt)
        cases hl : isB s[k].toNat
        · have Hl := Lib.hid hl
          obtain ⟨h1, h2⟩ := isB_no hl
          clear hl
          go_wp2
          go_ret
          exact ⟨ret_bool (by simp only [wheel]; rw [not_all Hg.out Hl.out]; simp), rfl⟩
        · have Hl := Lib.hid hl
          rcases isB_yes hl with h1 | h1
          all_goals
            clear hl
            go_wp2
            go_round
            case rel => exact ⟨k + 1, by omega, by go_num, upto_succ hu Hg.out Hl.out⟩
            case measure => simp [intOf]; omega
      · go_wp2
        go_ret
        exact ⟨ret_bool (by
          obtain rfl : k = s.size := by omega
          rw [← nb_length] at hu
          simp [wheel, nb_length, upto_all hu]; omega), rfl⟩
set_option maxHeartbeats 400000 in
theorem spec_l15Bits (s : ByteArray) (w : World) (hs : s.size ≤ maxLen) :
    Calls Tryd.prog 34 #[.string s] w fun e w' => e = .returned (.bool (wheel (nb s))) ∧ w = w' := by
  unfold maxLen at hs
  go_enter Tryd.func34, Tryd.ntmps34
  go_wp2
  go_loop [3] (fun i => ∃ k : Nat, k ≤ s.size ∧ i = .int .i64 k ∧ upto isB (nb s) k) (fun i => s.size - (intOf i).toNat)
  case atStart => exact ⟨0, Nat.zero_le _, rfl, upto_zero _ _⟩
  case round =>
    obtain ⟨k, hk, rfl, hu⟩ := hrel
    by_cases hlt : k < s.size
    · have Hg := Lib.hid (nb_get? s k hlt)
      cases hl : isB s[k].toNat
      · have Hl := Lib.hid hl
        obtain ⟨h1, h2⟩ := isB_no hl
        clear hl
        go_wp2
        go_ret
        exact ⟨ret_bool (by simp only [wheel]; rw [not_all Hg.out Hl.out]; simp), rfl⟩
      · have Hl := Lib.hid hl
        rcases isB_yes hl with h1 | h1
        all_goals
          clear hl
          go_wp2
          go_round
          case rel => exact ⟨k + 1, by omega, by go_num, upto_succ hu Hg.out Hl.out⟩
          case measure => simp [intOf]; omega
    · go_wp2_with fail
      refine (spec_l1In _ _ _ _ _ rfl).mono ?_
      rintro e w' ⟨rfl, rfl⟩
      go_wp2
      go_ret
      exact ⟨ret_bool (by
        obtain rfl : k = s.size := by omega
        rw [← nb_length] at hu
        simp only [wheel, upto_all hu, Bool.and_true, nb_length]
        rw [Bool.eq_iff_iff]; simp; omega), rfl⟩
end Go.Proofs.YtchjhngfkngljaaDoor
