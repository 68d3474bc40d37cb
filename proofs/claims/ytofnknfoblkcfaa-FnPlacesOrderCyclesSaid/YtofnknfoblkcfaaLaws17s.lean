/- The walk of the law on the cycles of an order. No condition. -/
import Derived.Test.YtofnknfoblkcfaaDraw17d
import Derived.Test.YtofnknfoblkcfaaOrder2
import Derived.Test.YtofnknfoblkcfaaPlainO2
set_option linter.unusedVariables false
namespace Go.Proofs.Ytofnknfoblkcfaa
open Go.RowKit

set_option maxHeartbeats 2000000 in
theorem walk_FnPlacesOrderCycles (a0 : Option Addr) (len0 cap0 : Nat) (z0 : List Int) (w : World) (w0 : IsRow .u8 w a0 len0 cap0 z0) :
    Calls Try.prog 4 #[.slice a0 len0 cap0] w fun e w' => e = .returned (.bool true) ∧ Below w.heap.size w w' := by
  have hl := w0.len_le
  by_cases hbig : 1048576 < len0
  · clear w0
    go_enter Try.func4, Try.ntmps4
    go_wp2_with fail
    go_ret
    exact ⟨rfl, Below.refl _ _⟩
  · have W0 := Lib.hid w0
    clear w0
    go_enter Try.func4, Try.ntmps4
    go_wp2_with fail
    refine (spec_DrawPlacesOrder _ _ _ _ _ W0.out).mono ?_
    rintro e v1 ⟨A, n, c, zs, rfl, hlz, hn, ho, hb1⟩
    have Hl := Lib.hid hlz
    have hI := ho.ints
    clear hlz ho
    go_wp2_with fail
    refine (impl_PlacesOrder _ _ _ _ _ hI Hl.out (by omega)).mono ?_
    rintro e v2 ⟨rfl, hb2⟩
    have hB2 := bthen hb1 hb2
    have hI2 := hI.next hb2
    clear hI
    go_wp2_with fail
    refine (spec_PlacesOrder _ _ _ _ _ hI2 Hl.out (by omega)).mono ?_
    rintro e v3 ⟨rfl, hb3⟩
    have hB3 := bthen hB2 hb3
    have hI3 := hI2.next hb3
    clear hI2
    have hle := po_le zs
    by_cases hp0 : po zs = 0
    · have hqz : ((po zs : Int) == 0) = true := by rw [beq_iff_eq]; omega
      have hqq : ((po zs : Int) != (po zs : Int)) = false := by simp
      have hqe : ((po zs : Int) == (po zs : Int)) = true := by simp
      clear hp0
      go_wp2_with fail
      refine (spec_PlacesOrder _ _ _ _ _ hI3 Hl.out (by omega)).mono ?_
      rintro e v4 ⟨rfl, hb4⟩
      generalize po zs = q at *
      go_wp2_with fail
      go_ret
      exact ⟨rfl, bthen hB3 hb4⟩
    · obtain ⟨hv, h44⟩ := po_zero hp0
      have hpo := po_yes hv h44
      rw [Hl.out] at hpo h44
      have Hpo := Lib.hid hpo
      have Hv := Lib.hid hv
      have hqz : ((po zs : Int) == 0) = false := by rw [beq_eq_false_iff_ne]; omega
      have hqq : ((po zs : Int) != (po zs : Int)) = false := by simp
      have Hle : Hid (∀ k, k ≤ n → lcmK zs k ≤ 17592186044416) := fun k hk => lcmK_le Hv.out (by rw [Hl.out]; exact hk) (by rw [Hl.out]; exact h44)
      have Hdv : Hid (∀ i, i < n → po zs % cyc zs i = 0) := by
        intro i hi
        rw [Hpo.out]
        exact Nat.mod_eq_zero_of_dvd (lcmK_dvd n hi)
      have HP : Hid (po zs = lcmK zs n) := hpo
      clear hp0 hpo hv
      generalize po zs = q at *
      go_wp2_with fail
      go_loopw [5, 6] (fun vo i wr => ∃ k : Nat, k ≤ n ∧ i = .int .i64 k ∧ vo = .int .i64 (lcmK zs k : Int) ∧ Below v3.heap.size v3 wr) (fun _ i _ => n - (intOf i).toNat)
      case atStart => exact ⟨0, Nat.zero_le _, rfl, by first | rfl | go_num, Below.refl _ _⟩
      case round =>
        obtain ⟨k, hk, rfl, rfl, hbe⟩ := hrel
        have hle1 := Hle.out k hk
        have hpos := lcmK_pos (zs := zs) k
        by_cases hlt : k < n
        · have hkz : k < zs.length := by rw [Hl.out]; exact hlt
          have Hsp := Lib.hid (cyc_spec Hv.out hkz)
          have hcn : cyc zs k ≤ n := by have := Hsp.out.1; rw [Hl.out] at this; exact this
          have hc1 := cyc_pos (zs := zs) k
          have h1 := (nx_at Hv.out hkz).1
          obtain ⟨b, off, rfl, hbl, hc⟩ := (hI3.next hbe).at_ h1
          have Hkz := Lib.hid hkz
          have HI3 := Lib.hid hI3
          have hle2 := Hle.out (k + 1) hlt
          have HL := Lib.hid (lcm_div (a := lcmK zs k) (b := cyc zs k) hpos)
          have Hnx : Hid (lcmK zs (k + 1) = Nat.lcm (lcmK zs k) (cyc zs k)) := rfl
          have Hle2 : Hid (lcmK zs (k + 1) ≤ 17592186044416) := hle2
          have hg := Nat.gcd_pos_of_pos_left (cyc zs k) hpos
          have hmod := Hdv.out k hlt
          clear hkz h1 hI3 hle2
          generalize lcmK zs k = y at *
          obtain ⟨wo, hwo⟩ : ∃ wo, wo = wr := ⟨wr, rfl⟩
          subst hwo
          go_wp2_with fail
          go_loopw [7, 8] (fun vn vk wt => ∃ m : Nat, 1 ≤ m ∧ m ≤ cyc zs k ∧ vn = .int .i64 m ∧ vk = .int .i64 (itr zs m k : Int) ∧ Below wo.heap.size wo wt) (fun vn _ _ => cyc zs k - (intOf vn).toNat)
          case atStart => exact ⟨1, Nat.le_refl _, hc1, by go_num, rfl, Below.refl _ _⟩
          case round =>
            obtain ⟨m, hm1, hm2, rfl, rfl, hbt⟩ := hrel
            clear hc
            have hbw := bthen hbe hbt
            have hil : itr zs m k < n := by have := itr_lt Hv.out Hkz.out m; rw [Hl.out] at this; exact this
            by_cases hlm : m < cyc zs k
            · have hne : (((itr zs m k : Nat) : Int) != (k : Int)) = true := by
                rw [bne_iff_ne]
                have := Hsp.out.2.2 m hm1 hlm
                omega
              have hmn : (m : Int) ≤ (n : Int) := by omega
              have h1 := (nx_at Hv.out (by rw [Hl.out]; exact hil : itr zs m k < zs.length)).1
              obtain ⟨b', off', he, hbl', hc⟩ := (HI3.out.next hbw).at_ h1
              injection he with he
              injection he with e1 e2
              subst e1
              subst e2
              have Hnxt : Hid (nx zs (itr zs m k) = itr zs (m + 1) k) := rfl
              clear h1
              generalize itr zs m k = x at *
              generalize hy : nx zs x = y' at *
              have Hy := Lib.hid hy
              clear hy
              go_wp2_with fail
              go_roundw
              case rel => exact ⟨m + 1, by omega, by omega, by go_num, by rw [← Hnxt.out], hbt⟩
              case measure => simp [intOf]; omega
            · have hmc : m = cyc zs k := by omega
              have hne : (((itr zs m k : Nat) : Int) != (k : Int)) = false := by
                rw [bne_eq_false_iff_eq, hmc, Hsp.out.2.1]
              rw [← hmc] at hmod hg
              have htm : ((q : Int)).tmod (m : Int) = 0 := by rw [tmod_n, hmod]; rfl
              have hm0 : ((m : Int) == 0) = false := by rw [beq_eq_false_iff_ne]; omega
              have HLm : Hid (y / Nat.gcd y m * m = lcmK zs (k + 1)) := by show _ = _; rw [hmc, HL.out]; exact Hnx.out.symm
              have hm44 : m ≤ 44 := by omega
              clear hmc hmod
              generalize itr zs m k = x at *
              go_wp2_with fail
              refine (laws_rcDivisor y m _ (by omega) (by omega)).mono ?_
              rintro e v5 ⟨rfl, hb5⟩
              have hbw5 := bthen hbw hb5
              have htd := tdiv_n y (Nat.gcd y m)
              obtain ⟨r, hr⟩ : ∃ r, y / Nat.gcd y m = r := ⟨_, rfl⟩
              rw [hr] at htd
              have hr1 : r ≤ 17592186044416 := by rw [← hr]; exact Nat.le_trans (Nat.div_le_self _ _) hle1
              have hrb : r * m = lcmK zs (k + 1) := by rw [← HLm.out, hr]
              have hrl : r * m ≤ 17592186044416 := by rw [hrb]; exact Hle2.out
              have hmi : ((r * m : Nat) : Int) = (r : Int) * (m : Int) := by simp
              have k1 : IntKind.i64.wrap ((r : Int) * (m : Int)) = (r : Int) * (m : Int) := IntWalk.i64_in _ (by omega)
              have Hrb := Lib.hid hrb
              have Hmi := Lib.hid hmi
              have hg0 : ((Nat.gcd y m : Int) == 0) = false := by rw [beq_eq_false_iff_ne]; omega
              clear hr hrb hmi hrl htm
              generalize Nat.gcd y m = g at *
              go_wp2_with fail
              go_roundw
              case rel => exact ⟨k + 1, by omega, by go_num, by rw [← Hrb.out, Hmi.out], hbw5⟩
              case measure => simp [intOf]; omega
        · have hkn : k = n := by omega
          have heq : ((lcmK zs k : Int) == (q : Int)) = true := by rw [beq_iff_eq, HP.out, hkn]
          clear hkn
          generalize lcmK zs k = y at *
          go_wp2_with fail
          go_ret
          exact ⟨rfl, bthen hB3 hbe⟩
end Go.Proofs.Ytofnknfoblkcfaa
