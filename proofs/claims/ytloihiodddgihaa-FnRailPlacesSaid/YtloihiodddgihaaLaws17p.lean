/- The walk of the law on the places along a fence. No condition. Written by mk_laws17o.py. -/
import Derived.Test.YtloihiodddgihaaDraw17c
import Derived.Test.YtloihiodddgihaaRail3
import Derived.Test.YtloihiodddgihaaPlainR2
import Derived.Test.YtloihiodddgihaaRc
set_option linter.unusedVariables false
namespace Go.Proofs.Ytloihiodddgihaa
open Go.RowKit

set_option maxHeartbeats 2000000 in
theorem walk_FnRailPlaces (a0 : Option Addr) (len0 cap0 : Nat) (z0 : List Int) (w : World) (w0 : IsRow .u8 w a0 len0 cap0 z0) :
    Calls Try.prog 5 #[.slice a0 len0 cap0] w fun e w' => e = .returned (.bool true) ∧ Below w.heap.size w w' := by
  have hl := w0.len_le
  by_cases hbig : 1048576 < len0
  · clear w0
    go_enter Try.func5, Try.ntmps5
    go_wp2_with fail
    go_ret
    exact ⟨rfl, Below.refl _ _⟩
  · have W0 := Lib.hid w0
    clear w0
    go_enter Try.func5, Try.ntmps5
    go_wp2_with fail
    refine (spec_DrawRailPlaces _ _ _ _ _ W0.out).mono ?_
    rintro e v1 ⟨y, z, rfl, hb1⟩
    go_wp2_with fail
    refine (impl_RailPlaces y z _).mono ?_
    rintro e v2 ⟨A2, n2, c2, rfl, hl2, ho2, hb2⟩
    have hn2 : n2 ≤ 200 := by have := rpl_len y z; omega
    have hI2 := ho2.ints
    have hB2 := bthen hb1 hb2
    have Hl2 := Lib.hid hl2
    clear hl2 ho2
    have hsame := same_refl (rpl y z)
    go_wp2_with fail
    refine (spec_RailPlaces y z _).mono ?_
    rintro e v4 ⟨A4, n4, c4, rfl, hl4, ho4, hb4⟩
    obtain rfl : n4 = n2 := by have := Hl2.out; omega
    have hB4 := bthen hB2 hb4
    clear hl4
    go_wp2_with fail
    refine (laws_rcInts _ _ _ _ _ _ _ _ _ (hI2.next hb4) ho4.ints Hl2.out Hl2.out (by omega) (by omega)).mono ?_
    rintro e v5 ⟨rfl, hb5⟩
    have hB5 := bthen hB4 hb5
    have hI5 := (hI2.next hb4).next hb5
    clear ho4 hI2
    by_cases hbad : y < 1 ∨ 12 < y ∨ z < 0 ∨ 200 < z
    · have hcase : y < 1 ∨ (¬ y < 1 ∧ 12 < y) ∨ (¬ y < 1 ∧ ¬ 12 < y ∧ z < 0) ∨ (¬ y < 1 ∧ ¬ 12 < y ∧ ¬ z < 0 ∧ 200 < z) := by omega
      clear hbad
      rcases hcase with h1 | ⟨h1, h2⟩ | ⟨h1, h2, h3⟩ | ⟨h1, h2, h3, h4⟩
      all_goals
        go_wp2_with fail
        refine (spec_RailPlaces y z _).mono ?_
        rintro e v6 ⟨A6, n6, c6, rfl, hl6, ho6, hb6⟩
        obtain rfl : n6 = n4 := by have := Hl2.out; omega
        have hB6 := bthen hB5 hb6
        clear hl6
        go_wp2_with fail
        refine (laws_rcInts _ _ _ _ _ _ _ _ _ (hI5.next hb6) ho6.ints Hl2.out Hl2.out (by omega) (by omega)).mono ?_
        rintro e v7 ⟨rfl, hb7⟩
        go_wp2_with fail
        go_ret
        exact ⟨rfl, bthen hB6 hb7⟩
    · obtain ⟨R, rfl, hR1, hR12⟩ : ∃ R : Nat, y = (R : Int) ∧ 1 ≤ R ∧ R ≤ 12 := ⟨y.toNat, by omega, by omega, by omega⟩
      obtain ⟨N, rfl, hN⟩ : ∃ N : Nat, z = (N : Int) ∧ N ≤ 200 := ⟨z.toNat, by omega, by omega⟩
      have hrp := rpl_yes hR1 hR12 hN
      have hlr := railL_len (n := N) hR1
      obtain rfl : n4 = N := by have := Hl2.out; rw [hrp] at this; omega
      rw [hrp] at hI5
      have Hrp := Lib.hid hrp
      have Hlr := Lib.hid hlr
      have hplv : plv (railL R n4) = true := plv_rail hR1 hN
      have Hplv := Lib.hid hplv
      have Hso := Lib.hid (railL_sorted R n4)
      have y1 : ¬ (R : Int) < 1 := by omega
      have y2 : ¬ (12 : Int) < (R : Int) := by omega
      have z1 : ¬ (n4 : Int) < 0 := by omega
      have z2 : ¬ (200 : Int) < (n4 : Int) := by omega
      have HL : Hid ((rlL R n4).length = (List.replicate n4 (0 : Int)).length) := by show _ = _; rw [rlL_len]; simp
      clear hbad hrp hlr
      obtain ⟨wm, hmk, hbuf, hbel, hsz⟩ := make_ints n4 (by omega) v5
      go_wp2_with fail
      clear y1 y2 z1 z2
      go_loopw [7, 8, 9] (fun vk vs i wr => ∃ (a q : Nat) (d : Bool), a ≤ n4 ∧ q < R ∧ i = .int .i64 a ∧ vk = .int .i64 q ∧ vs = .int .i64 (if d then 1 else -1) ∧ Hid (fence R a q d) ∧ Buf wr v5.heap.size 3 (icells (mix (rlL R n4) (List.replicate n4 0) a)) ∧ Below v5.heap.size v5 wr) (fun _ _ i _ => n4 - (intOf i).toNat)
      case atStart => exact ⟨0, 0, true, Nat.zero_le _, hR1, rfl, rfl, rfl, fence_zero R hR1, by rw [mix_zero]; exact hbuf, hbel⟩
      case round =>
        obtain ⟨a, q, d, ha, hqR, rfl, rfl, rfl, Hf, hbk, hbe⟩ := hrel
        clear hmk hbuf hbel hsz
        by_cases hlt : a < n4
        · have hfree := hbk.free (j := a) (by rw [icells_len, mix_len _ _ _ HL.out]; simp; exact hlt)
          obtain ⟨u, hcell⟩ : ∃ u, wr.cell? ⟨v5.heap.size, a, none⟩ = some u := by
            obtain ⟨u, hu⟩ := get_some (icells (mix (rlL R n4) (List.replicate n4 0) a)) a (by rw [icells_len, mix_len _ _ _ HL.out]; simp; exact hlt)
            exact ⟨u, hbk.cell hu⟩
          have Hz : Hid ((rlL R n4)[a]? = some (q : Int)) := by show _ = _; rw [rlL_at R n4 a hlt, ← fence_rl Hf.out]
          have HI5 := Lib.hid hI5
          clear hI5
          by_cases hR : R = 1
          · have Hnx : Hid (fence R (a + 1) q true) := by
              have := Hf.out
              subst hR
              rcases this with ⟨_, h0⟩ | ⟨h0, _⟩
              · exact .inl ⟨rfl, h0⟩
              · omega
            have hq0 : q = 0 := by omega
            have hqb : ((q : Int) == (R : Int) - 1) = true := by rw [beq_iff_eq]; omega
            have hqz : ((q : Int) == 0) = true := by rw [beq_iff_eq]; omega
            have hR' : decide ((1 : Int) < (R : Int)) = false := decide_eq_false (by omega)
            have hR'' : ¬ (1 : Int) < (R : Int) := by omega
            have hRn : ¬ 1 < R := by omega
            clear hR hq0
            go_wp2_with fail
            go_roundw
            case rel => exact ⟨a + 1, q, true, by omega, hqR, by go_num, rfl, rfl, Hnx.out, hbk.iput HL.out Hz.out, hbe.setCell (Nat.le_refl _) _⟩
            case measure => simp [intOf]; omega
          · have hR2' : 2 ≤ R := by omega
            have hRi : (1 : Int) < (R : Int) := by omega
            by_cases hqt : q + 1 = R
            · have hd := fence_top Hf.out hR2' hqt
              subst hd
              have Hnx := Lib.hid (fence_turn Hf.out hR2' hqt)
              have hqb : ((q : Int) == (R : Int) - 1) = true := by rw [beq_iff_eq]; omega
              have hqz : ((q : Int) == 0) = false := by rw [beq_eq_false_iff_ne]; omega
              clear hR
              go_wp2_with fail
              go_roundw
              case rel => exact ⟨a + 1, q - 1, false, by omega, by omega, by go_num, by go_num, rfl, Hnx.out, hbk.iput HL.out Hz.out, hbe.setCell (Nat.le_refl _) _⟩
              case measure => simp [intOf]; omega
            · have hqb : ((q : Int) == (R : Int) - 1) = false := by rw [beq_eq_false_iff_ne]; omega
              by_cases hq0 : q = 0
              · have Hnx : Hid (fence R (a + 1) 1 true) := by
                  have := Hf.out
                  subst hq0
                  cases d
                  · exact fence_back this hR2'
                  · exact fence_down this hR2' hqt
                have hqz : ((q : Int) == 0) = true := by rw [beq_iff_eq]; omega
                have Hq0 := Lib.hid hq0
                clear hR hq0
                go_wp2_with fail
                go_roundw
                case rel => exact ⟨a + 1, 1, true, by omega, by omega, by go_num, by rw [Hq0.out]; rfl, rfl, Hnx.out, hbk.iput HL.out Hz.out, hbe.setCell (Nat.le_refl _) _⟩
                case measure => simp [intOf]; omega
              · have hqz : ((q : Int) == 0) = false := by rw [beq_eq_false_iff_ne]; omega
                clear hR
                cases d
                · have Hnx := Lib.hid (fence_up Hf.out hR2' hq0)
                  go_wp2_with fail
                  go_roundw
                  case rel => exact ⟨a + 1, q - 1, false, by omega, by omega, by go_num, by go_num, rfl, Hnx.out, hbk.iput HL.out Hz.out, hbe.setCell (Nat.le_refl _) _⟩
                  case measure => simp [intOf]; omega
                · have Hnx := Lib.hid (fence_down Hf.out hR2' hqt)
                  go_wp2_with fail
                  go_roundw
                  case rel => exact ⟨a + 1, q + 1, true, by omega, by omega, by go_num, by go_num, rfl, Hnx.out, hbk.iput HL.out Hz.out, hbe.setCell (Nat.le_refl _) _⟩
                  case measure => simp [intOf]; omega
        · have han : a = n4 := by omega
          rw [han, mix_end HL.out (rlL_len _ _)] at hbk
          have hB6 := bthen hB5 hbe
          have hI6 := hI5.next hbe
          clear hI5
          obtain ⟨wo, hwo⟩ : ∃ wo, wo = wr := ⟨wr, rfl⟩
          subst hwo
          clear han
          generalize (if d = true then (1 : Int) else -1) = st at *
          go_wp2_with fail
          go_loopw [10] (fun i wt => ∃ (k : Nat), 1 ≤ k ∧ k ≤ n4 + 1 ∧ i = .int .i64 k ∧ Below wo.heap.size wo wt) (fun i _ => n4 + 1 - (intOf i).toNat)
          case atStart => exact ⟨1, Nat.le_refl _, by omega, by go_num, Below.refl _ _⟩
          case round =>
            obtain ⟨k, hk1, hk2, rfl, hbt⟩ := hrel
            have hB7 := bthen hB6 hbt
            have hI7 := hI6.next hbt
            have hbk7 := hbk.next hbt
            by_cases hltk : k < n4
            · obtain ⟨j, rfl⟩ : ∃ j, k = j + 1 := ⟨k - 1, by omega⟩
              obtain ⟨p, hp, hpl⟩ := plv_nat Hplv.out (by rw [Hlr.out]; omega : j < (railL R n4).length)
              obtain ⟨q2, hq2, hql⟩ := plv_nat Hplv.out (by rw [Hlr.out]; omega : j + 1 < (railL R n4).length)
              rw [Hlr.out] at hpl hql
              have hs : rlt R (p : Int) (q2 : Int) := by
                have := List.pairwise_iff_getElem.1 Hso.out j (j + 1) (by rw [Hlr.out]; omega) (by rw [Hlr.out]; omega) (by omega)
                rwa [(List.getElem?_eq_some_iff.1 hp).2, (List.getElem?_eq_some_iff.1 hq2).2] at this
              obtain ⟨bb, off, rfl, hbl, hc1⟩ := hI7.at_ hp
              have hc2 : wr.cell? ⟨bb, off + (j + 1), none⟩ = some (.int .i64 (q2 : Int)) := by
                obtain ⟨bb', off', he, _, hc2⟩ := hI7.at_ hq2
                injection he with he
                injection he with h1 h2
                subst h1; subst h2
                exact hc2
              have hr1 := hbk7.cell (icells_at (rlL_at R n4 p hpl))
              have hr2 := hbk7.cell (icells_at (rlL_at R n4 q2 hql))
              unfold rlt at hs
              rw [Int.toNat_natCast, Int.toNat_natCast] at hs
              obtain ⟨x, hx⟩ : ∃ x : Int, x = ((rl R p : Nat) : Int) := ⟨_, rfl⟩
              obtain ⟨y, hy⟩ : ∃ y : Int, y = ((rl R q2 : Nat) : Int) := ⟨_, rfl⟩
              rw [← hx] at hr1
              rw [← hy] at hr2
              have hs' : x < y ∨ (x = y ∧ (p : Int) < (q2 : Int)) := by omega
              have HI6 := Lib.hid hI6
              clear hs hx hy hp hq2 hI7 hI6 hbk7
              rcases hs' with hs | ⟨hs, hpq⟩
              · have g1 : decide (y < x) = false := decide_eq_false (by omega)
                have g2 : (x == y) = false := by rw [beq_eq_false_iff_ne]; omega
                go_wp2_with fail
                go_quiet (fail)
                go_wp2_with fail
                go_roundw
                case rel => exact ⟨j + 1 + 1, by omega, by omega, by go_num, bel_drewN hbt _⟩
                case measure => simp [intOf]; omega
              · have g1 : decide (y < x) = false := decide_eq_false (by omega)
                have g2 : (x == y) = true := by rw [beq_iff_eq]; omega
                have g3' : decide ((q2 : Int) ≤ (p : Int)) = false := decide_eq_false (by omega)
                go_wp2_with fail
                go_quiet (fail)
                go_wp2_with fail
                go_roundw
                case rel => exact ⟨j + 1 + 1, by omega, by omega, by go_num, bel_drewN hbt _⟩
                case measure => simp [intOf]; omega
            · have heq : ((n4 : Int) == (n4 : Int)) = true := by simp
              go_wp2_with fail
              refine (impl_PlacesValid _ _ _ _ _ hI7 Hlr.out (by omega)).mono ?_
              rintro e v7 ⟨rfl, hb7⟩
              go_wp2_with fail
              go_ret
              exact ⟨rfl, bthen hB7 hb7⟩
end Go.Proofs.Ytloihiodddgihaa
