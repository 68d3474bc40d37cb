/- The walk of the law on the repetitions of an order. No condition. -/
import Derived.Test.YtofnknfoblkcfaaDraw17d
import Derived.Test.YtofnknfoblkcfaaOrder2
import Derived.Test.YtofnknfoblkcfaaPlainO2
import Derived.Test.YtofnknfoblkcfaaRail3
import Derived.Test.YtofnknfoblkcfaaPlainR2
import Derived.Test.YtofnknfoblkcfaaRc
set_option linter.unusedVariables false
namespace Go.Proofs.Ytofnknfoblkcfaa
open Go.RowKit

set_option maxHeartbeats 2000000 in
theorem walk_FnPlacesOrder (a0 : Option Addr) (len0 cap0 : Nat) (z0 : List Int) (w : World) (w0 : IsRow .u8 w a0 len0 cap0 z0) :
    Calls Try.prog 5 #[.slice a0 len0 cap0] w fun e w' => e = .returned (.bool true) ∧ Below w.heap.size w w' := by
  have hl := w0.len_le
  by_cases hbig : 1048576 < len0
  · clear w0
    go_enter Try.func5, Try.ntmps5
    go_wp2_with fail
    go_ret
    exact ⟨rfl, Below.refl _ _⟩
  · have W0 := Lib.hid w0
    clear w0
    go_enter Try.func5, Try.ntmps5
    go_wp2_with fail
    refine (spec_DrawPlacesOrder _ _ _ _ _ W0.out).mono ?_
    rintro e v1 ⟨A, n, c, zs, rfl, hlz, hn, ho, hb1⟩
    have Hl := Lib.hid hlz
    have hI := ho.ints
    clear hlz ho
    go_wp2_with fail
    refine (impl_PlacesOrder _ _ _ _ _ hI Hl.out (by omega)).mono ?_
    rintro e v2 ⟨rfl, hb2⟩
    have hB2 := bthen hb1 hb2
    have hI2 := hI.next hb2
    clear hI
    go_wp2_with fail
    refine (spec_PlacesOrder _ _ _ _ _ hI2 Hl.out (by omega)).mono ?_
    rintro e v3 ⟨rfl, hb3⟩
    have hB3 := bthen hB2 hb3
    have hI3 := hI2.next hb3
    clear hI2
    have hle := po_le zs
    have hqq : ((po zs : Int) != (po zs : Int)) = false := by simp
    have hqe : ((po zs : Int) == (po zs : Int)) = true := by simp
    by_cases hp0 : po zs = 0
    · have hqz : ((po zs : Int) == 0) = true := by rw [beq_iff_eq]; omega
      have hqg : ¬ (0 : Int) < (po zs : Int) := by omega
      have hqn : ¬ 0 < po zs := by omega
      have hcase : plv zs = false ∨ (plv zs = true ∧ decide ((n : Int) ≤ 44) = false) := by
        cases hv : plv zs
        · exact .inl rfl
        · refine .inr ⟨rfl, decide_eq_false fun h4 => ?_⟩
          have := po_pos hv (by rw [Hl.out]; omega)
          omega
      clear hp0
      rcases hcase with hv | ⟨hv, h4⟩
      all_goals
        go_wp2_with fail
        refine (impl_PlacesValid _ _ _ _ _ hI3 Hl.out (by omega)).mono ?_
        rintro e v4 ⟨rfl, hb4⟩
        have hB4 := bthen hB3 hb4
        have hI4 := hI3.next hb4
        clear hI3
        go_wp2_with fail
        refine (spec_PlacesOrder _ _ _ _ _ hI4 Hl.out (by omega)).mono ?_
        rintro e v5 ⟨rfl, hb5⟩
        have hB5 := bthen hB4 hb5
        have hI5 := hI4.next hb5
        clear hI4
        go_wp2_with fail
        refine (impl_PlacesValid _ _ _ _ _ hI5 Hl.out (by omega)).mono ?_
        rintro e v6 ⟨rfl, hb6⟩
        go_wp2_with fail
        go_ret
        first | exact ⟨rfl, bthen hB5 hb6⟩ | exact ⟨ret_bool (a := !decide ((n : Int) ≤ 44)) (by rw [h4]; rfl), bthen hB5 hb6⟩
    · obtain ⟨hv, h44⟩ := po_zero hp0
      have Hund : Hid (po (up zs) = po zs) := by show _ = _; rw [up_yes hv]; exact po_undo hv h44
      have Hul : Hid ((up zs).length = n) := by show _ = _; rw [up_yes hv, undoL_len, Hl.out]
      have Hfirst : Hid (∀ k, 1 ≤ k → k ≤ po zs → Same (pw zs k) (iota n) = ((k : Int) == (po zs : Int))) := by
        intro k h1 h2
        have := pw_first hv h44 h1 h2
        rwa [Hl.out] at this
      have Hjp : Hid (∀ k, jpOk (pw zs k) zs = true ∧ jp (pw zs k) zs = pw zs (k + 1)) := by
        intro k
        have := jpOk_of (pw_plv hv k) hv (pw_len zs k)
        exact ⟨this.1, by rw [this.2, pw_succ hv]⟩
      have Hpl : Hid (∀ k, (pw zs k).length = n) := fun k => by rw [pw_len, Hl.out]
      have Hp0 : Hid (pw zs 0 = iota n) := by show _ = _; rw [pw_zero, Hl.out]
      rw [Hl.out] at h44
      have hqz : ((po zs : Int) == 0) = false := by rw [beq_eq_false_iff_ne]; omega
      have hqg : (0 : Int) < (po zs : Int) := by omega
      have hqn : 0 < po zs := by omega
      have h44i : (n : Int) ≤ 44 := by omega
      have Hrail : Hid (rpl 1 (n : Int) = iota n) := (rpl_yes (R := 1) (by omega) (by omega) (by omega : n ≤ 200)).trans (rail_one n)
      clear hp0
      go_wp2_with fail
      refine (impl_PlacesValid _ _ _ _ _ hI3 Hl.out (by omega)).mono ?_
      rintro e v4 ⟨rfl, hb4⟩
      have hB4 := bthen hB3 hb4
      have hI4 := hI3.next hb4
      clear hI3
      generalize hq : po zs = q at *
      have Hq := Lib.hid hq
      clear hq
      go_wp2_with fail
      refine (impl_RailPlaces 1 _ _).mono ?_
      rw [Hrail.out]
      rintro e v5 ⟨A5, n5, c5, rfl, hl5, ho5, hb5⟩
      obtain rfl : n5 = n := by rw [iota_len] at hl5; exact hl5.symm
      have hB5 := bthen hB4 hb5
      have hI5 := hI4.next hb5
      have hZ5 := ho5.ints
      clear hI4 hl5 ho5
      go_wp2_with fail
      go_loopw [6, 7] (fun vl i wr => ∃ (j k : Nat) (A' : Option Addr) (c' : Nat), Hid (k = j + 1) ∧ 1 ≤ k ∧ k ≤ q + 1 ∧ k ≤ 81 ∧ i = .int .i64 k ∧ vl = .slice A' n5 c' ∧ Hid (Ints wr A' (pw zs j)) ∧ Below v5.heap.size v5 wr) (fun _ i _ => q + 1 - (intOf i).toNat)
      case atStart => exact ⟨0, 1, A5, c5, rfl, Nat.le_refl _, by omega, by omega, by go_num, rfl, (show Ints _ _ _ by rw [Hp0.out]; exact hZ5), Below.refl _ _⟩
      case round =>
        obtain ⟨j, k, A', c', Hkj, hk1, hk2, hk3, rfl, rfl, HIl, hbe⟩ := hrel
        have hB6 := bthen hB5 hbe
        have hI6 := hI5.next hbe
        have hZ6 := hZ5.next hbe
        by_cases hgo : k ≤ q ∧ k ≤ 80
        · obtain ⟨hg1, hg2⟩ := hgo
          have hg1i : (k : Int) ≤ (q : Int) := by omega
          have hg2i : (k : Int) ≤ 80 := by omega
          have hfirst := Hfirst.out k hk1 hg1
          have Hj := Lib.hid (Hjp.out j)
          have HI5 := Lib.hid hI5
          have HZ5 := Lib.hid hZ5
          clear hI5 hZ5
          go_wp2_with fail
          refine (impl_JoinPlaces _ _ _ _ _ _ _ _ _ HIl.out hI6 (Hpl.out j) Hl.out (by omega) (by omega)).mono ?_
          rw [Hj.out.1, Hj.out.2, ← Hkj.out]
          rintro e v7 ⟨A7, n7, c7, rfl, hl7, ho7, hb7⟩
          obtain rfl : n7 = n5 := by have := Hpl.out k; omega
          have hbe7 := hbe.trans (hb7.mono hbe.size)
          have hJ7 := ho7.ints
          have hZ7 := hZ6.next hb7
          clear hl7 ho7 hI6 hZ6
          by_cases hkq : k = q
          · have e1 : ((k : Int) == (q : Int)) = true := by rw [beq_iff_eq]; omega
            rw [e1] at hfirst
            clear hkq
            go_wp2_with fail
            refine (laws_rcInts _ _ _ _ _ _ _ _ _ hJ7 hZ7 (Hpl.out k) (iota_len _) (by omega) (by omega)).mono ?_
            rw [hfirst]
            rintro e v8 ⟨rfl, hb8⟩
            have hbe8 := hbe7.trans (hb8.mono hbe7.size)
            have HJ8 := Lib.hid (hJ7.next hb8)
            clear hJ7 hZ7 hfirst
            go_wp2_with fail
            go_roundw
            case rel => exact ⟨k, k + 1, A7, c7, rfl, by omega, by omega, by omega, by go_num, rfl, HJ8.out, hbe8⟩
            case measure => simp [intOf]; omega
          · have e1 : ((k : Int) == (q : Int)) = false := by rw [beq_eq_false_iff_ne]; omega
            rw [e1] at hfirst
            clear hkq
            go_wp2_with fail
            refine (laws_rcInts _ _ _ _ _ _ _ _ _ hJ7 hZ7 (Hpl.out k) (iota_len _) (by omega) (by omega)).mono ?_
            rw [hfirst]
            rintro e v8 ⟨rfl, hb8⟩
            have hbe8 := hbe7.trans (hb8.mono hbe7.size)
            have HJ8 := Lib.hid (hJ7.next hb8)
            clear hJ7 hZ7 hfirst
            go_wp2_with fail
            go_roundw
            case rel => exact ⟨k, k + 1, A7, c7, rfl, by omega, by omega, by omega, by go_num, rfl, HJ8.out, hbe8⟩
            case measure => simp [intOf]; omega
        · have hcase : ¬ (k : Int) ≤ (q : Int) ∨ ((k : Int) ≤ (q : Int) ∧ ¬ (k : Int) ≤ 80) := by omega
          clear hgo
          rcases hcase with h1 | ⟨h1, h2⟩
          all_goals
            go_wp2_with fail
            refine (impl_UndoPlaces _ _ _ _ _ hI6 Hl.out (by omega)).mono ?_
            rintro e v7 ⟨A7, n7, c7, rfl, hl7, ho7, hb7⟩
            obtain rfl : n7 = n5 := by have := Hul.out; omega
            have hB7 := bthen hB6 hb7
            have hU7 := ho7.ints
            clear hl7 ho7
            go_wp2_with fail
            refine (impl_PlacesOrder _ _ _ _ _ hU7 Hul.out (by omega)).mono ?_
            rw [Hund.out]
            rintro e v8 ⟨rfl, hb8⟩
            go_wp2_with fail
            go_ret
            exact ⟨rfl, bthen hB7 hb8⟩
end Go.Proofs.Ytofnknfoblkcfaa
