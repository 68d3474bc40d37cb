/- The repetitions of an order of places: both programs return what the plain function says. No condition. -/
import Derived.Test.YtofnknfoblkcfaaPlainO
set_option linter.unusedVariables false
namespace Go.Proofs.Ytofnknfoblkcfaa
open Go.RowKit

theorem lcm_div {a b : Nat} (ha : 1 ≤ a) : a / Nat.gcd a b * b = Nat.lcm a b := by
  obtain ⟨q, hq⟩ := Nat.gcd_dvd_left a b
  have hg : 0 < Nat.gcd a b := Nat.gcd_pos_of_pos_left b ha
  unfold Nat.lcm
  generalize Nat.gcd a b = g at *
  subst hq
  rw [Nat.mul_div_cancel_left q hg, Nat.mul_assoc, Nat.mul_div_cancel_left _ hg]
theorem gcd_next {x y g : Nat} (h : Nat.gcd x y = g) : Nat.gcd y (x % y) = g := by rw [← h, Nat.gcd_comm x y, Nat.gcd_rec y x, Nat.gcd_comm]
theorem gcd_done {x g : Nat} (h : Nat.gcd x 0 = g) : x = g := by rwa [Nat.gcd_zero_right] at h
theorem tmod_n (x y : Nat) : ((x : Int)).tmod (y : Int) = ((x % y : Nat) : Int) := by rw [Int.tmod_eq_emod_of_nonneg (by omega)]; omega
theorem tdiv_n (x y : Nat) : ((x : Int)).tdiv (y : Int) = ((x / y : Nat) : Int) := by rw [Int.tdiv_eq_ediv_of_nonneg (by omega)]; omega
set_option maxHeartbeats 1000000 in
theorem impl_leastMultiple (a b : Nat) (w : World) (ha : 1 ≤ a) (hb : 1 ≤ b) (ha2 : a ≤ 1000000000000000) (hb2 : b ≤ 1000) (hl : Nat.lcm a b ≤ 1000000000000000) :
    Calls Try.prog 20 #[.int .i64 (a : Int), .int .i64 (b : Int)] w fun e w' => e = .returned (.int .i64 ((Nat.lcm a b : Nat) : Int)) ∧ Below w.heap.size w w' := by
  have Hl := Lib.hid hl
  have HL := Lib.hid (lcm_div (a := a) (b := b) ha)
  have Hg := Lib.hid (Nat.gcd_pos_of_pos_left b ha)
  have Hg2 := Lib.hid (Nat.le_of_dvd ha (Nat.gcd_dvd_left a b))
  clear hl
  generalize hG : Nat.gcd a b = G at *
  have HG := Lib.hid hG
  clear hG
  go_enter Try.func20, Try.ntmps20
  go_wp2_with fail
  go_loopw [5, 6] (fun vx vy wr => ∃ x y : Nat, x ≤ 1000000000000000 ∧ y ≤ 1000000000000000 ∧ vx = .int .i64 x ∧ vy = .int .i64 y ∧ Hid (Nat.gcd x y = G) ∧ Below w.heap.size w wr) (fun _ vy _ => (intOf vy).toNat)
  case atStart => exact ⟨a, b, ha2, by omega, rfl, rfl, HG.out, Below.refl _ _⟩
  case round =>
    obtain ⟨x, y, hx, hy, rfl, rfl, Hxy, hbe⟩ := hrel
    clear HG
    by_cases hy0 : y = 0
    · have hyb : ((y : Int) != 0) = false := by rw [bne_eq_false_iff_eq]; omega
      have hxg : x = G := by have := Hxy.out; rw [hy0] at this; exact gcd_done this
      have Hxg := Lib.hid hxg
      have hx0 : 1 ≤ x := by have := Hg.out; omega
      have htd := tdiv_n a x
      obtain ⟨q, hq⟩ : ∃ q, a / x = q := ⟨_, rfl⟩
      rw [hq] at htd
      have hqb : Nat.lcm a b = q * b := by rw [← HL.out, ← Hxg.out, hq]
      have hql : q * b ≤ 1000000000000000 := by rw [← hqb]; exact Hl.out
      have hmi : ((q * b : Nat) : Int) = (q : Int) * (b : Int) := by simp
      have hql' : (q : Int) * (b : Int) ≤ 1000000000000000 := by omega
      have hq0' : (0 : Int) ≤ (q : Int) * (b : Int) := by omega
      have k1 : IntKind.i64.wrap ((q : Int) * (b : Int)) = (q : Int) * (b : Int) := IntWalk.i64_in _ (by omega)
      have hq1 : q ≤ 1000000000000000 := by rw [← hq]; exact Nat.le_trans (Nat.div_le_self _ _) ha2
      have Hqb := Lib.hid hqb
      have Hmi := Lib.hid hmi
      clear hy0 hxg hq hqb hmi hql
      go_wp2_with fail
      go_ret
      exact ⟨ret_int (by rw [Hqb.out, Hmi.out]), hbe⟩
    · have hyb : ((y : Int) != 0) = true := by rw [bne_iff_ne]; omega
      have hyb' : ((y : Int) == 0) = false := by rw [beq_eq_false_iff_ne]; omega
      have htm := tmod_n x y
      have hlt := Nat.mod_lt x (by omega : 0 < y)
      have Hn := Lib.hid (gcd_next Hxy.out)
      obtain ⟨m, hm⟩ : ∃ m, x % y = m := ⟨_, rfl⟩
      rw [hm] at htm hlt Hn
      clear hy0 hm
      go_wp2_with fail
      go_quiet (fail)
      go_wp2_with fail
      go_roundw
      case rel => exact ⟨y, m, hy, by omega, rfl, by first | rfl | go_num, Hn.out, bel_drewN hbe _⟩
      case measure => simp [intOf]; omega
set_option maxHeartbeats 1000000 in
theorem spec_l3Divisor (a b : Nat) (w : World) (ha2 : a ≤ 1000000000000000) (hb2 : b ≤ 1000) :
    Calls Try.prog 19 #[.int .i64 (a : Int), .int .i64 (b : Int)] w fun e w' => e = .returned (.int .i64 ((Nat.gcd a b : Nat) : Int)) ∧ Below w.heap.size w w' := by
  generalize hG : Nat.gcd a b = G at *
  have HG := Lib.hid hG
  clear hG
  go_enter Try.func19, Try.ntmps19
  go_wp2_with fail
  go_loopw [0, 1] (fun vx vy wr => ∃ x y : Nat, x ≤ 1000000000000000 ∧ y ≤ 1000000000000000 ∧ vx = .int .i64 x ∧ vy = .int .i64 y ∧ Hid (Nat.gcd x y = G) ∧ Below w.heap.size w wr) (fun _ vy _ => (intOf vy).toNat)
  case atStart => exact ⟨a, b, ha2, by omega, rfl, rfl, HG.out, Below.refl _ _⟩
  case round =>
    obtain ⟨x, y, hx, hy, rfl, rfl, Hxy, hbe⟩ := hrel
    clear HG
    by_cases hy0 : y = 0
    · have hyb : ¬ (0 : Int) < (y : Int) := by omega
      have hxg : x = G := by have := Hxy.out; rw [hy0] at this; exact gcd_done this
      have Hxg := Lib.hid hxg
      clear hy0 hxg
      go_wp2_with fail
      go_ret
      exact ⟨ret_int (by rw [Hxg.out]), hbe⟩
    · have hyb : (0 : Int) < (y : Int) := by omega
      have hyb' : ((y : Int) == 0) = false := by rw [beq_eq_false_iff_ne]; omega
      have htm := tmod_n x y
      have hlt := Nat.mod_lt x (by omega : 0 < y)
      have Hn := Lib.hid (gcd_next Hxy.out)
      obtain ⟨m, hm⟩ : ∃ m, x % y = m := ⟨_, rfl⟩
      rw [hm] at htm hlt Hn
      clear hy0 hm
      go_wp2_with fail
      go_quiet (fail)
      go_wp2_with fail
      go_roundw
      case rel => exact ⟨y, m, hy, by omega, rfl, by first | rfl | go_num, Hn.out, bel_drewN hbe _⟩
      case measure => simp [intOf]; omega
set_option maxHeartbeats 1000000 in
theorem laws_rcDivisor (a b : Nat) (w : World) (ha2 : a ≤ 1000000000000000) (hb2 : b ≤ 1000) :
    Calls Try.prog 11 #[.int .i64 (a : Int), .int .i64 (b : Int)] w fun e w' => e = .returned (.int .i64 ((Nat.gcd a b : Nat) : Int)) ∧ Below w.heap.size w w' := by
  generalize hG : Nat.gcd a b = G at *
  have HG := Lib.hid hG
  clear hG
  go_enter Try.func11, Try.ntmps11
  go_wp2_with fail
  go_loopw [0, 1] (fun vx vy wr => ∃ x y : Nat, x ≤ 1000000000000000 ∧ y ≤ 1000000000000000 ∧ vx = .int .i64 x ∧ vy = .int .i64 y ∧ Hid (Nat.gcd x y = G) ∧ Below w.heap.size w wr) (fun _ vy _ => (intOf vy).toNat)
  case atStart => exact ⟨a, b, ha2, by omega, rfl, rfl, HG.out, Below.refl _ _⟩
  case round =>
    obtain ⟨x, y, hx, hy, rfl, rfl, Hxy, hbe⟩ := hrel
    clear HG
    by_cases hy0 : y = 0
    · have hyb : ¬ (0 : Int) < (y : Int) := by omega
      have hxg : x = G := by have := Hxy.out; rw [hy0] at this; exact gcd_done this
      have Hxg := Lib.hid hxg
      clear hy0 hxg
      go_wp2_with fail
      go_ret
      exact ⟨ret_int (by rw [Hxg.out]), hbe⟩
    · have hyb : (0 : Int) < (y : Int) := by omega
      have hyb' : ((y : Int) == 0) = false := by rw [beq_eq_false_iff_ne]; omega
      have htm := tmod_n x y
      have hlt := Nat.mod_lt x (by omega : 0 < y)
      have Hn := Lib.hid (gcd_next Hxy.out)
      obtain ⟨m, hm⟩ : ∃ m, x % y = m := ⟨_, rfl⟩
      rw [hm] at htm hlt Hn
      clear hy0 hm
      go_wp2_with fail
      go_quiet (fail)
      go_wp2_with fail
      go_roundw
      case rel => exact ⟨y, m, hy, by omega, rfl, by first | rfl | go_num, Hn.out, bel_drewN hbe _⟩
      case measure => simp [intOf]; omega
set_option maxHeartbeats 1000000 in
theorem spec_l17Long (A : Option Addr) (n c i : Nat) (zs : List Int) (w : World) (h : Ints w A zs) (hn : zs.length = n) (hv : plv zs = true) (hi : i < n) :
    Calls Try.prog 18 #[.slice A n c, .int .i64 (i : Int)] w fun e w' => e = .returned (.int .i64 ((cyc zs i : Nat) : Int)) ∧ Below w.heap.size w w' := by
  have hl200 := plv_len hv
  rw [hn] at hl200
  have Hn := Lib.hid hn
  have Hv := Lib.hid hv
  have Hsp := Lib.hid (cyc_spec hv (by rw [hn]; exact hi))
  have hc1 := cyc_pos (zs := zs) i
  have hcn : cyc zs i ≤ n := by have := Hsp.out.1; omega
  have h1 := (nx_at hv (by rw [hn]; exact hi : i < zs.length)).1
  obtain ⟨b, off, rfl, hbl, hc⟩ := h.at_ h1
  have H := Lib.hid h
  clear hn hv h h1
  go_enter Try.func18, Try.ntmps18
  go_wp2_with fail
  go_loopw [5, 6] (fun vn vk wr => ∃ m : Nat, 1 ≤ m ∧ m ≤ cyc zs i ∧ vn = .int .i64 m ∧ vk = .int .i64 (itr zs m i : Int) ∧ Below w.heap.size w wr) (fun vn _ _ => cyc zs i - (intOf vn).toNat)
  case atStart => exact ⟨1, Nat.le_refl _, hc1, by go_num, rfl, Below.refl _ _⟩
  case round =>
    obtain ⟨m, hm1, hm2, rfl, rfl, hbe⟩ := hrel
    clear hc
    have hil : itr zs m i < n := by have := itr_lt Hv.out (by rw [Hn.out]; exact hi : i < zs.length) m; rw [Hn.out] at this; exact this
    by_cases hlt : m < cyc zs i
    · have hne : (((itr zs m i : Nat) : Int) != (i : Int)) = true := by
        rw [bne_iff_ne]
        have := Hsp.out.2.2 m hm1 hlt
        omega
      have h1 := (nx_at Hv.out (by rw [Hn.out]; exact hil : itr zs m i < zs.length)).1
      obtain ⟨b', off', he, hbl', hc⟩ := (H.out.next hbe).at_ h1
      injection he with he
      injection he with e1 e2
      subst e1
      subst e2
      have Hnx : Hid (nx zs (itr zs m i) = itr zs (m + 1) i) := rfl
      have Hne := Lib.hid hne
      clear h1
      generalize itr zs m i = x at *
      generalize hy : nx zs x = y at *
      have Hy := Lib.hid hy
      clear hy
      go_wp2_with fail
      go_roundw
      case rel => exact ⟨m + 1, by omega, by omega, by go_num, by rw [← Hnx.out], hbe⟩
      case measure => simp [intOf]; omega
    · have hmc : m = cyc zs i := by omega
      have hne : (((itr zs m i : Nat) : Int) != (i : Int)) = false := by
        rw [bne_eq_false_iff_eq, hmc, Hsp.out.2.1]
      have Hmc := Lib.hid hmc
      clear hmc
      generalize itr zs m i = x at *
      go_wp2_with fail
      go_ret
      exact ⟨ret_int (by rw [Hmc.out]), hbe⟩
set_option maxHeartbeats 1000000 in
theorem spec_PlacesOrder (A : Option Addr) (n c : Nat) (zs : List Int) (w : World) (h : Ints w A zs) (hn : zs.length = n) (hb : n ≤ 9223372036854775807) :
    Calls Try.prog 6 #[.slice A n c] w fun e w' => e = .returned (.int .i64 ((po zs : Nat) : Int)) ∧ Below w.heap.size w w' := by
  have Hn := Lib.hid hn
  cases hv : plv zs
  · rw [po_no (.inl hv)]
    clear hn
    go_enter Try.func6, Try.ntmps6
    go_wp2_with fail
    refine (spec_PlacesValid _ _ _ _ _ h Hn.out hb).mono ?_
    rintro e v1 ⟨rfl, hb1⟩
    go_wp2_with fail
    go_ret
    exact ⟨rfl, hb1⟩
  · by_cases h44 : 44 < n
    · rw [po_no (.inr (by rw [hn]; exact h44))]
      clear hn
      go_enter Try.func6, Try.ntmps6
      go_wp2_with fail
      refine (spec_PlacesValid _ _ _ _ _ h Hn.out hb).mono ?_
      rintro e v1 ⟨rfl, hb1⟩
      go_wp2_with fail
      go_ret
      exact ⟨rfl, hb1⟩
    · rw [po_yes hv (by rw [hn]; omega), hn]
      have Hv := Lib.hid hv
      have Hle : Hid (∀ k, k ≤ n → lcmK zs k ≤ 17592186044416) := fun k hk => lcmK_le Hv.out (by rw [Hn.out]; exact hk) (by rw [Hn.out]; omega)
      clear hn
      go_enter Try.func6, Try.ntmps6
      go_wp2_with fail
      refine (spec_PlacesValid _ _ _ _ _ h Hn.out hb).mono ?_
      rintro e v1 ⟨rfl, hb1⟩
      go_wp2_with fail
      clear hv
      go_loopw [3, 4] (fun vo i wr => ∃ k : Nat, k ≤ n ∧ i = .int .i64 k ∧ vo = .int .i64 (lcmK zs k : Int) ∧ Below w.heap.size w wr) (fun _ i _ => n - (intOf i).toNat)
      case atStart => exact ⟨0, Nat.zero_le _, rfl, by first | rfl | go_num, hb1⟩
      case round =>
        obtain ⟨k, hk, rfl, rfl, hbe⟩ := hrel
        have hle := Hle.out k hk
        have hpos := lcmK_pos (zs := zs) k
        by_cases hlt : k < n
        · have hcl : cyc zs k ≤ 44 := by have := (cyc_spec Hv.out (by rw [Hn.out]; exact hlt : k < zs.length)).1; rw [Hn.out] at this; omega
          have hc1 := cyc_pos (zs := zs) k
          have hle2 := Hle.out (k + 1) hlt
          have HL := Lib.hid (lcm_div (a := lcmK zs k) (b := cyc zs k) hpos)
          have Hnx : Hid (lcmK zs (k + 1) = Nat.lcm (lcmK zs k) (cyc zs k)) := rfl
          have hg := Nat.gcd_pos_of_pos_left (cyc zs k) hpos
          have hI := h.next hbe
          have H := Lib.hid h
          clear h
          go_wp2_with fail
          refine (spec_l17Long _ _ _ k _ _ hI Hn.out Hv.out hlt).mono ?_
          rintro e v2 ⟨rfl, hb2⟩
          have hbe2 := hbe.trans (hb2.mono hbe.size)
          generalize cyc zs k = x at *
          generalize lcmK zs k = y at *
          clear hI
          go_wp2_with fail
          refine (spec_l3Divisor y x _ (by omega) (by omega)).mono ?_
          rintro e v3 ⟨rfl, hb3⟩
          have hbe3 := hbe2.trans (hb3.mono hbe2.size)
          have htd := tdiv_n y (Nat.gcd y x)
          obtain ⟨q, hq⟩ : ∃ q, y / Nat.gcd y x = q := ⟨_, rfl⟩
          rw [hq] at htd
          have hq1 : q ≤ 17592186044416 := by rw [← hq]; exact Nat.le_trans (Nat.div_le_self _ _) hle
          have hqb : lcmK zs (k + 1) = q * x := by rw [Hnx.out, ← HL.out, hq]
          rw [hqb] at hle2
          have hmi : ((q * x : Nat) : Int) = (q : Int) * (x : Int) := by simp
          have k1 : IntKind.i64.wrap ((q : Int) * (x : Int)) = (q : Int) * (x : Int) := IntWalk.i64_in _ (by omega)
          have Hqb := Lib.hid hqb
          have Hmi := Lib.hid hmi
          clear hq hqb hmi hle2
          generalize Nat.gcd y x = g at *
          go_wp2_with fail
          go_roundw
          case rel => exact ⟨k + 1, by omega, by go_num, by rw [Hqb.out, Hmi.out], hbe3⟩
          case measure => simp [intOf]; omega
        · have hkn : k = n := by omega
          have Hkn := Lib.hid hkn
          clear hkn
          go_wp2_with fail
          go_ret
          exact ⟨ret_int (by rw [Hkn.out]), hbe⟩
end Go.Proofs.Ytofnknfoblkcfaa
