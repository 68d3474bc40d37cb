/- The places along a fence: both programs return what the plain function says. No condition. -/
import Derived.Test.YtloihiodddgihaaPlainR
import Derived.Test.YtloihiodddgihaaPeriod
import Derived.Lib.AppendZeros
set_option linter.unusedVariables false
namespace Go.Proofs.Ytloihiodddgihaa
open Go.RowKit

set_option maxHeartbeats 400000 in
theorem spec_l17Rail (R a : Nat) (w : World) (h1 : 1 ≤ R) (h2 : R ≤ 12) (ha : a ≤ 1000) : Calls Try.prog 20 #[.int .i64 (R : Int), .int .i64 (a : Int)] w fun e w' => e = .returned (.int .i64 (rl R a : Int)) ∧ w = w' := by
  by_cases hR : R = 1
  · subst hR
    go_enter Try.func20, Try.ntmps20
    go_wp2
    go_ret
    exact ⟨rfl, rfl⟩
  · have hb : ((R : Int) == 1) = false := by rw [beq_eq_false_iff_ne]; omega
    have hm : (a : Int).tmod (2 * (R : Int) - 2) = ((a % (2 * R - 2) : Nat) : Int) := by
      rw [Int.tmod_eq_emod_of_nonneg (by omega)]
      have : (2 * (R : Int) - 2) = ((2 * R - 2 : Nat) : Int) := by omega
      rw [this]; rfl
    have hlt := Nat.mod_lt a (by omega : 0 < 2 * R - 2)
    have he := rl_eq (by omega : 2 ≤ R) a
    have He := Lib.hid he
    clear he
    generalize a % (2 * R - 2) = m at hm hlt He
    by_cases hmR : m < R
    · go_enter Try.func20, Try.ntmps20
      go_wp2
      go_ret
      exact ⟨ret_int (by rw [He.out, if_pos hmR]), rfl⟩
    · go_enter Try.func20, Try.ntmps20
      go_wp2
      go_ret
      exact ⟨ret_int (by rw [He.out, if_neg hmR]; omega), rfl⟩
theorem emptyRowR (w : World) (B : Nat) (hB : B ≤ w.heap.size) : (w.alloc (.cells #[] 3)).ownsRow B 3 1 (.slice (some ⟨w.heap.size, 0, none⟩) 0 0) 0 (icells []) :=
  World.ownsRow_lit w #[] 0 hB (Nat.zero_le _) rfl
set_option maxHeartbeats 2000000 in
theorem spec_RailPlaces (r n : Int) (w : World) : Calls Try.prog 7 #[.int .i64 r, .int .i64 n] w (RetI w (rpl r n)) := by
  have hbw : Below w.heap.size w (w.alloc (.cells #[] 3)) := (Below.refl _ _).alloc (Nat.le_refl _) _
  cases hv : rpv r n
  · have hr : rpl r n = [] := by rw [rpl, hv]; rfl
    rw [hr]
    clear hr
    cases hp : decide (1 ≤ r ∧ r ≤ 12)
    · go_enter Try.func7, Try.ntmps7
      go_wp2_with fail
      refine (spec_l14Period _ _).mono ?_
      rintro e v1 ⟨rfl, rfl⟩
      go_wp2_with fail
      go_ret
      exact ⟨_, 0, 0, rfl, rfl, .inl rfl, hbw⟩
    · have hq : decide (0 ≤ n ∧ n ≤ 200) = false := by rw [rpv, hp, Bool.true_and] at hv; exact hv
      go_enter Try.func7, Try.ntmps7
      go_wp2_with fail
      refine (spec_l14Period _ _).mono ?_
      rintro e v1 ⟨rfl, rfl⟩
      go_wp2_with fail
      refine (spec_l1In _ _ _ _ _ hq).mono ?_
      rintro e v2 ⟨rfl, rfl⟩
      go_wp2_with fail
      go_ret
      exact ⟨_, 0, 0, rfl, rfl, .inl rfl, hbw⟩
  · obtain ⟨R, N, rfl, rfl, hR1, hR2, hN⟩ := rpv_yes hv
    have hr : rpl (R : Int) (N : Int) = (rows R N R).flatten := by rw [rpl, hv]; rfl
    rw [hr]
    clear hr
    have hp : decide (1 ≤ (R : Int) ∧ (R : Int) ≤ 12) = true := by rw [decide_eq_true_eq]; omega
    have hq : decide (0 ≤ (N : Int) ∧ (N : Int) ≤ 200) = true := by rw [decide_eq_true_eq]; omega
    have hrow := emptyRowR w w.heap.size (Nat.le_refl _)
    go_enter Try.func7, Try.ntmps7
    go_wp2_with fail
    refine (spec_l14Period _ _).mono ?_
    rintro e v1 ⟨rfl, rfl⟩
    go_wp2_with fail
    refine (spec_l1In _ _ _ _ _ hq).mono ?_
    rintro e v2 ⟨rfl, rfl⟩
    go_wp2_with fail
    clear hv hp hq
    go_loopw [5, 6] (fun o i wr => ∃ k : Nat, k ≤ R ∧ i = .int .i64 k ∧ wr.ownsRow w.heap.size 3 1 o ((rows R N k).flatten).length (icells (rows R N k).flatten) ∧ Below w.heap.size w wr) (fun _ i _ => R - (intOf i).toNat)
    case atStart => exact ⟨0, Nat.zero_le _, rfl, hrow, hbw⟩
    case round =>
      obtain ⟨k, hk, rfl, hrk, hbe⟩ := hrel
      clear hrow hbw
      by_cases hlt : k < R
      · have hfl := flat_len (n := N) hR1 hk
        have Hrk := Lib.hid hrk
        clear hrk
        go_wp2_with fail
        go_loopw [5, 7] (fun o i wt => ∃ j : Nat, j ≤ N ∧ i = .int .i64 j ∧ wt.ownsRow w.heap.size 3 1 o (((rows R N k).flatten) ++ railK R k j).length (icells ((rows R N k).flatten ++ railK R k j)) ∧ Below w.heap.size w wt) (fun _ i _ => N - (intOf i).toNat)
        case atStart => exact ⟨0, Nat.zero_le _, rfl, by rw [railK_zero, List.append_nil]; exact Hrk.out, hbe⟩
        case round =>
          obtain ⟨j, hj, rfl, hrj, hbj⟩ := hrel
          by_cases hlj : j < N
          · have hlen : ((rows R N k).flatten ++ railK R k j).length ≤ 1000 := by rw [List.length_append]; have := railK_len R k j; omega
            have Hrj := Lib.hid hrj
            clear hrj
            by_cases hrl : rl R j = k
            · have Hs := Lib.hid (railK_yes hrl)
              have hbq : ((rl R j : Int) == (k : Int)) = true := by rw [hrl]; simp
              clear hrl
              go_wp2_with fail
              refine (spec_l17Rail R j _ hR1 hR2 (by omega)).mono ?_
              rintro e v3 ⟨rfl, rfl⟩
              go_wp2_with (at_builtin; go_must (refine wpList_append_int wr rfl _ _ rfl w.heap.size _ _ _ (j : Int) Hrj.out rfl rfl (by omega) hbj.size ?_); intro v' w1 hown' hbel'; have Ho := Lib.hid hown'; clear hown')
              go_roundw
              case rel => exact ⟨j + 1, by omega, by go_num, by rw [Hs.out, ← List.append_assoc, List.length_append (bs := [(j : Int)])]; exact Ho.out, hbj.trans hbel'⟩
              case measure => simp [intOf]; omega
            · have Hs := Lib.hid (railK_no hrl)
              have hbq : ((rl R j : Int) == (k : Int)) = false := by rw [beq_eq_false_iff_ne]; omega
              clear hrl
              go_wp2_with fail
              refine (spec_l17Rail R j _ hR1 hR2 (by omega)).mono ?_
              rintro e v3 ⟨rfl, rfl⟩
              go_wp2_with fail
              go_roundw
              case rel => exact ⟨j + 1, by omega, by go_num, by rw [Hs.out]; exact Hrj.out, hbj⟩
              case measure => simp [intOf]; omega
          · have hjn : j = N := by omega
            subst hjn
            rw [← flat_succ] at hrj
            have Hrj := Lib.hid hrj
            clear hrj
            go_wp2_with fail
            go_roundw
            case rel => exact ⟨k + 1, by omega, by go_num, Hrj.out, hbj⟩
            case measure => simp [intOf]; omega
      · have hkn : k = R := by omega
        subst hkn
        have Hrk := Lib.hid hrk
        clear hrk
        go_wp2_with fail
        go_ret
        exact RetI.of_row Hrk.out hbe
end Go.Proofs.Ytloihiodddgihaa
