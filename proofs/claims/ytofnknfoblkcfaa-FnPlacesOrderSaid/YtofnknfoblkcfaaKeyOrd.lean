/- The order of a key: both programs return what the plain function says. No condition. -/
import Derived.Test.YtofnknfoblkcfaaSort
import Derived.Test.YtofnknfoblkcfaaPeriod
import Derived.Test.YtofnknfoblkcfaaWords
set_option linter.unusedVariables false
namespace Go.Proofs.Ytofnknfoblkcfaa
open Go.RowKit

theorem kval_size (key : ByteArray) : kval (nb key) = (decide (1 ≤ (key.size : Int) ∧ (key.size : Int) ≤ 12) && wv (nb key)) := by rw [kval, nb_length]
theorem spec_l17Key (key : ByteArray) (w : World) (hs : key.size ≤ maxLen) : Calls Try.prog 34 #[.string key] w fun e w' => e = .returned (.bool (kval (nb key))) ∧ w = w' := by
  rw [kval_size]
  cases hp : wv (nb key)
  · go_enter Try.func34, Try.ntmps34
    go_wp2_with fail
    refine (spec_WordValid _ _ hs).mono ?_
    rintro e v1 ⟨rfl, rfl⟩
    go_wp2_with fail
    go_ret
    exact ⟨ret_bool (by simp), rfl⟩
  · go_enter Try.func34, Try.ntmps34
    go_wp2_with fail
    refine (spec_WordValid _ _ hs).mono ?_
    rintro e v1 ⟨rfl, rfl⟩
    go_wp2_with fail
    refine (spec_l14Period _ _).mono ?_
    rintro e v2 ⟨rfl, rfl⟩
    go_wp2_with fail
    go_ret
    exact ⟨ret_bool (by simp), rfl⟩
theorem emptyRowK (w : World) (B : Nat) (hB : B ≤ w.heap.size) : (w.alloc (.cells #[] 3)).ownsRow B 3 1 (.slice (some ⟨w.heap.size, 0, none⟩) 0 0) 0 (icells []) :=
  World.ownsRow_lit w #[] 0 hB (Nat.zero_le _) rfl
set_option maxHeartbeats 2000000 in
theorem spec_KeyOrder (key : ByteArray) (w : World) (hs : key.size ≤ maxLen) : Calls Try.prog 29 #[.string key] w (RetI w (ko (nb key))) := by
  have hbw : Below w.heap.size w (w.alloc (.cells #[] 3)) := (Below.refl _ _).alloc (Nat.le_refl _) _
  have hrow := emptyRowK w w.heap.size (Nat.le_refl _)
  cases hk : kval (nb key)
  · have hr : ko (nb key) = [] := by rw [ko, hk]; rfl
    rw [hr]
    clear hr
    go_enter Try.func29, Try.ntmps29
    go_wp2_with fail
    refine wp_loop_rounds 1 ?_
    rw [rounds_succ]
    go_wp2_with fail
    refine (spec_l17Key _ _ hs).mono ?_
    rw [hk]
    rintro e v1 ⟨rfl, rfl⟩
    go_wp2_with fail
    go_ret
    exact ⟨_, 0, 0, rfl, rfl, .inl rfl, hbw⟩
  · have hr : ko (nb key) = (kxs (nb key) 10).flatten := by rw [ko, hk]; rfl
    rw [hr]
    clear hr
    obtain ⟨k1, k2, hw⟩ := kval_yes hk
    have Hw := Lib.hid hw
    rw [nb_length] at k1 k2
    clear hw
    go_enter Try.func29, Try.ntmps29
    go_wp2_with fail
    go_loopw [3, 4] (fun o i wr => ∃ k : Nat, k ≤ 10 ∧ i = .int .i64 k ∧ wr.ownsRow w.heap.size 3 1 o ((kxs (nb key) k).flatten).length (icells (kxs (nb key) k).flatten) ∧ Below w.heap.size w wr) (fun _ i _ => 10 - (intOf i).toNat)
    case atStart => exact ⟨0, Nat.zero_le _, rfl, hrow, hbw⟩
    case round =>
      obtain ⟨k, hkk, rfl, hrk, hbe⟩ := hrel
      clear hrow hbw
      by_cases hlt : k < 10
      · have hfl := kxs_len (nb key) k
        rw [nb_length] at hfl
        have Hrk := Lib.hid hrk
        clear hrk
        go_wp2_with fail
        refine (spec_l17Key _ _ hs).mono ?_
        rw [hk]
        rintro e v1 ⟨rfl, rfl⟩
        go_wp2_with fail
        go_loopw [3, 5] (fun o i wt => ∃ j : Nat, j ≤ key.size ∧ i = .int .i64 j ∧ wt.ownsRow w.heap.size 3 1 o (((kxs (nb key) k).flatten) ++ kx (nb key) k j).length (icells ((kxs (nb key) k).flatten ++ kx (nb key) k j)) ∧ Below w.heap.size w wt) (fun _ i _ => key.size - (intOf i).toNat)
        case atStart => exact ⟨0, Nat.zero_le _, rfl, by rw [kx_zero, List.append_nil]; exact Hrk.out, hbe⟩
        case round =>
          obtain ⟨j, hj, rfl, hrj, hbj⟩ := hrel
          clear Hrk hbe
          by_cases hlj : j < key.size
          · have hlen : ((kxs (nb key) k).flatten ++ kx (nb key) k j).length ≤ 1000 := by rw [List.length_append]; have := kx_len (nb key) k j; omega
            have Hrj := Lib.hid hrj
            clear hrj
            obtain ⟨c, hc⟩ : ∃ c, (nb key)[j]? = some c := ⟨_, nb_get? key j hlj⟩
            have hcr := wv_mem Hw.out (List.mem_of_getElem? hc)
            by_cases hrl : c = 97 + k
            · have Hs := Lib.hid (kx_yes hc hrl)
              have hbq : (((c : Int) - 97) == (k : Int)) = true := by rw [beq_iff_eq]; omega
              have Hc := Lib.hid hc
              clear hc hrl
              go_wp2_with fail
              refine (spec_l1Digit key _ j c _ rfl Hc.out).mono ?_
              rintro e v3 ⟨rfl, rfl⟩
              go_wp2_with (at_builtin; go_must (refine wpList_append_int wr rfl _ _ rfl w.heap.size _ _ _ (j : Int) Hrj.out rfl rfl (by omega) hbj.size ?_); intro v' w1 hown' hbel'; have Ho := Lib.hid hown'; clear hown')
              go_roundw
              case rel => exact ⟨j + 1, by omega, by go_num, by rw [Hs.out, ← List.append_assoc, List.length_append (bs := [(j : Int)])]; exact Ho.out, hbj.trans hbel'⟩
              case measure => simp [intOf]; omega
            · have Hs := Lib.hid (kx_no hc hrl)
              have hbq : (((c : Int) - 97) == (k : Int)) = false := by rw [beq_eq_false_iff_ne]; omega
              have Hc := Lib.hid hc
              clear hc hrl
              go_wp2_with fail
              refine (spec_l1Digit key _ j c _ rfl Hc.out).mono ?_
              rintro e v3 ⟨rfl, rfl⟩
              go_wp2_with fail
              go_roundw
              case rel => exact ⟨j + 1, by omega, by go_num, by rw [Hs.out]; exact Hrj.out, hbj⟩
              case measure => simp [intOf]; omega
          · have hjn : j = key.size := by omega
            subst hjn
            have hrj' := hrj
            rw [← nb_length key, ← kxs_succ] at hrj'
            have Hrj := Lib.hid hrj'
            clear hrj hrj'
            go_wp2_with fail
            go_roundw
            case rel => exact ⟨k + 1, by omega, by go_num, Hrj.out, hbj⟩
            case measure => simp [intOf]; omega
      · have hkn : k = 10 := by omega
        subst hkn
        have Hrk := Lib.hid hrk
        clear hrk
        go_wp2_with fail
        go_ret
        exact RetI.of_row Hrk.out hbe
end Go.Proofs.Ytofnknfoblkcfaa
