/- The walk of the exact law on the places behind which the second wheels stand still. No condition. -/
import Derived.Test.YtoeihhjhiofimaaLaws16b
import Derived.Test.YtoeihhjhiofimaaMarkT
import Derived.Test.YtoeihhjhiofimaaStops
set_option linter.unusedVariables false
namespace Go.Proofs.Ytoeihhjhiofimaa
open Go.RowKit

set_option maxHeartbeats 4000000 in
theorem walk_FnExactMotorStops (A : Option Addr) (n c : Nat) (B : Option Addr) (m d : Nat) (mo : ByteArray) (chi psi : List ByteArray) (z : Int) (w : World) (h : Mach w A n B m chi psi mo) :
    Calls Try.prog 5 #[.agg #[.slice A n c, .slice B m d, .string mo], .int .i64 z] w fun e w' => e = .returned (.bool true) ∧ Below w.heap.size w w' := by
  have hb0 := belA w (.cells #[.slice A n c, .slice B m d, .string mo] 24)
  have ht0 := lbox w A n c B m d mo
  have H0 := Lib.hid h
  have hq := ms_len chi psi mo z
  generalize hS : ms chi psi mo z = S at hq
  have HS := Lib.hid hS
  clear h hS
  go_enter Try.func5, Try.ntmps5
  go_wp2_with fail
  refine (laws_szTele _ _ _ _ _ _ 1048576 _ _ _ _ (H0.out.next hb0) (by omega)).mono ?_
  rintro e v1 ⟨hb1, h1⟩
  have hB1 := bthen hb0 hb1
  have ht1 := ht0.next hb1
  rcases h1 with rfl | ⟨r, rfl, hn, hm⟩
  · clear ht0 ht1
    go_wp2_with fail
    go_ret
    exact ⟨rfl, hB1⟩
  · have a0 : v1.cell? ⟨w.heap.size, 0, none⟩ = some (.slice A n c) := ht1.cell (j := 0) rfl
    have a1 : v1.cell? ⟨w.heap.size, 1, none⟩ = some (.slice B m d) := ht1.cell (j := 1) rfl
    have a2 : v1.cell? ⟨w.heap.size, 2, none⟩ = some (.string mo) := ht1.cell (j := 2) rfl
    have HT1 := Lib.hid ht1
    clear ht0 ht1
    go_wp2_with fail
    refine (laws_toTele _ _ _ _ _ _ _ _ _ _ (H0.out.next hB1) hn hm).mono ?_
    rintro e v2 ⟨A2, B2, rfl, hM2, hb2⟩
    have hB2 := bthen hB1 hb2
    have HT2 := Lib.hid (HT1.out.next hb2)
    have HM2 := Lib.hid hM2
    clear hM2 a0 a1 a2
    go_wp2_with fail
    refine (spec_MotorStops _ _ _ _ _ _ _ _ _ _ _ HM2.out).mono ?_
    rintro e v3 ⟨A3, n3, c3, rfl, hl3, ho3, hb3⟩
    rw [HS.out] at hl3 ho3
    have hB3 := bthen hB2 hb3
    have ht3 := HT2.out.next hb3
    have hW3 := ho3.into
    have hn3 : n3 ≤ 200 := by omega
    have Hl3 := Lib.hid hl3
    have a0 : v3.cell? ⟨w.heap.size, 0, none⟩ = some (.slice A n c) := ht3.cell (j := 0) rfl
    have a1 : v3.cell? ⟨w.heap.size, 1, none⟩ = some (.slice B m d) := ht3.cell (j := 1) rfl
    have a2 : v3.cell? ⟨w.heap.size, 2, none⟩ = some (.string mo) := ht3.cell (j := 2) rfl
    have HT3 := Lib.hid ht3
    clear ht3 ho3 hl3
    go_wp2_with fail
    refine (laws_toTeleO _ _ _ _ _ _ _ _ _ _ (H0.out.next hB3) hn hm).mono ?_
    rintro e v4 ⟨A4, B4, mid, rfl, hx4, hy4, hm1, hm2, hb4⟩
    have hB4 := bthen hB3 hb4
    have HT4 := Lib.hid (HT3.out.next hb4)
    have hW4 := hW3.next hb4
    have HM4 := Lib.hid (show Mach v4 A4 n B4 m chi psi mo from ⟨hx4.strs, hy4.strs, H0.out.lc, H0.out.lp, H0.out.bn, H0.out.bm, H0.out.mc, H0.out.mp, H0.out.mm⟩)
    clear a0 a1 a2 hW3
    have hb5 := belA v4 (.cells #[.slice A4 n n, .slice B4 m m, .string mo] 28)
    have hB5 := bthen hB4 hb5
    have hx5 := tbox v4 A4 n n B4 m m mo
    have hz5 : (v4.alloc (.cells #[.slice A4 n n, .slice B4 m m, .string mo] 28)).heap.size = v4.heap.size + 1 := size_alloc _ _
    go_wp2_with fail
    refine (impl_MotorStops _ _ _ _ _ _ _ _ _ _ _ (HM4.out.next hb5)).mono ?_
    rintro e v6 ⟨A6, n6, c6, rfl, hl6, ho6, hb6⟩
    rw [HS.out] at hl6 ho6
    rw [hz5] at ho6
    obtain rfl : n3 = n6 := by have := Hl3.out; omega
    have hb56 := bthen hb5 hb6
    have hB6 := bthen hB4 hb56
    have hG6 := ho6.into
    have hW6 := hW4.next hb56
    have hx6 := hx5.next hb6
    have HT6 := Lib.hid (HT4.out.next hb56)
    have hs6 : v4.heap.size + 1 ≤ v6.heap.size := hx6.lt
    clear hl6 ho6 hW4 hx5
    go_wp2_with fail
    refine (laws_eqIntS _ _ _ _ _ _ _ _ _ hG6.ints hW6.ints Hl3.out Hl3.out (by omega) (by omega) rfl).mono ?_
    rintro e v7 ⟨rfl, hb7⟩
    have hbd : Below v7.heap.size v7 v7.drew := (Below.refl _ _).drew
    have hb47 := bthen hb56 hb7
    have hB7 := bthen hB6 hb7
    have hb67d := bthen hb7 hbd
    have hb47d := bthen hb47 hbd
    have hB7d := bthen hB7 hbd
    have hx7 := hx6.next hb7
    have ht7 := HT6.out.next hb7
    have HX7 := Lib.hid (hx7.next hbd)
    have HM7 := Lib.hid (HM4.out.next hb47d)
    have HT7 := Lib.hid (ht7.next hbd)
    have q0 : v7.cell? ⟨v4.heap.size, 0, none⟩ = some (.slice A4 n n) := hx7.cell (j := 0) rfl
    have q1 : v7.cell? ⟨v4.heap.size, 1, none⟩ = some (.slice B4 m m) := hx7.cell (j := 1) rfl
    have q2 : v7.cell? ⟨v4.heap.size, 2, none⟩ = some (.string mo) := hx7.cell (j := 2) rfl
    have a0 : v7.cell? ⟨w.heap.size, 0, none⟩ = some (.slice A n c) := ht7.cell (j := 0) rfl
    have a1 : v7.cell? ⟨w.heap.size, 1, none⟩ = some (.slice B m d) := ht7.cell (j := 1) rfl
    have a2 : v7.cell? ⟨w.heap.size, 2, none⟩ = some (.string mo) := ht7.cell (j := 2) rfl
    have HR := Lib.hid (And.intro hG6 (And.intro hW6 (And.intro hx4 hy4)))
    clear hx6 hx7 ht7 hG6 hW6 hx4 hy4
    go_wp2_with fail
    go_region_with (first | (go_at_call 10; refine (laws_toTele _ _ _ _ _ _ _ _ _ _ (H0.out.next hB7d) hn hm).mono ?_; rintro e v8 ⟨A8, B8, rfl, hM8, hb8⟩; have p0 : v8.cell? ⟨v4.heap.size, 0, none⟩ = some (.slice A4 n n) := (HX7.out.next hb8).cell (j := 0) rfl; have p1 : v8.cell? ⟨v4.heap.size, 1, none⟩ = some (.slice B4 m m) := (HX7.out.next hb8).cell (j := 1) rfl; have p2 : v8.cell? ⟨v4.heap.size, 2, none⟩ = some (.string mo) := (HX7.out.next hb8).cell (j := 2) rfl) | (go_at_call 12; refine (laws_eqTele _ _ _ _ _ _ _ _ _ _ _ _ _ _ (HM7.out.next hb8) hM8).mono ?_; rintro e v9 ⟨rfl, hb9⟩))
    all_goals
      have hb79 := bthen hb8 hb9
      have hb69 := bthen hb67d hb79
      have hb49 := bthen hb47d hb79
      have hB9 := bthen hB7d hb79
      obtain ⟨hG6, hW6, hx4, hy4⟩ := HR.out
      have hG9 := hG6.next hb69
      have hW9 := hW6.next hb69
      have hx9 := hx4.next hb49
      have hy9 := hy4.next hb49
      have hbx9 := HX7.out.next hb79
      have ht9 := HT7.out.next hb79
      clear p0 p1 p2 q0 q1 q2 a0 a1 a2 hG6 hW6 hx4 hy4
      have q0 : v9.cell? ⟨v4.heap.size, 0, none⟩ = some (.slice A4 n n) := hbx9.cell (j := 0) rfl
      have q1 : v9.cell? ⟨v4.heap.size, 1, none⟩ = some (.slice B4 m m) := hbx9.cell (j := 1) rfl
      have q2 : v9.cell? ⟨v4.heap.size, 2, none⟩ = some (.string mo) := hbx9.cell (j := 2) rfl
      clear hbx9
      go_wp2_with fail
      refine (laws_markTele _ _ _ _ _ _ 1 v3.heap.size mid v4.heap.size _ _ _ _ hx9 hy9 hm1 hm2 hb49.size H0.out.lc H0.out.lp hn hm (by omega) (by omega)).mono ?_
      rintro e v10 ⟨rfl, hx10, hy10, hK10⟩
      have hG10 := hG9.kept hK10.kept (.inr (Nat.le_succ _))
      have hW10 := hW9.kept hK10.kept (.inl (Nat.le_refl _))
      have hz10 : Below v3.heap.size v9 v10 := hK10.below (Nat.le_refl _) (Nat.le_trans hb4.size hb49.size)
      have ht10 := ht9.below hz10 HT3.out.lt
      have hB10 := hB9.trans (hz10.mono hB3.size)
      clear hG9 hW9 hx9 hy9 ht9 q0 q1 q2 hx10 hy10
      go_wp2_with fail
      refine (laws_eqIntS _ _ _ _ _ _ _ _ _ hG10.ints hW10.ints Hl3.out Hl3.out (by omega) (by omega) rfl).mono ?_
      rintro e v11 ⟨rfl, hb11⟩
      have hG11 := hG10.next hb11
      have hW11 := hW10.next hb11
      have ht11 := ht10.next hb11
      have hB11 := bthen hB10 hb11
      clear hG10 hW10 ht10
      go_wp2_with fail
      refine (laws_markIntS _ _ _ _ _ 1 _ _ hG11 Hl3.out (by omega) (by omega) (by omega)).mono ?_
      rintro e v12 ⟨rfl, hG12, hK12⟩
      have hW12 := hW11.kept hK12 (.inl (Nat.le_trans hb4.size (Nat.le_succ _)))
      have hz12 : Below (v4.heap.size + 1) v11 v12 := hK12.below (Nat.le_refl _) (Nat.le_trans hs6 (Nat.le_trans hb69.size (Nat.le_trans hK10.size hb11.size)))
      have ht12 := ht11.below hz12 (Nat.lt_of_lt_of_le HT4.out.lt (Nat.le_succ _))
      have hB12 := hB11.trans (hz12.mono (Nat.le_trans hB4.size (Nat.le_succ _)))
      clear hG11 hW11 ht11
      go_wp2_with fail
      refine (laws_heldIntS _ _ _ 1 _ hG12.ints (by omega) (by omega) (by omega)).mono ?_
      rintro e v12' ⟨rfl, rfl⟩
      have a0 : v12.cell? ⟨w.heap.size, 0, none⟩ = some (.slice A n c) := ht12.cell (j := 0) rfl
      have a1 : v12.cell? ⟨w.heap.size, 1, none⟩ = some (.slice B m d) := ht12.cell (j := 1) rfl
      have a2 : v12.cell? ⟨w.heap.size, 2, none⟩ = some (.string mo) := ht12.cell (j := 2) rfl
      clear ht12
      go_wp2_with fail
      refine (laws_toTele _ _ _ _ _ _ _ _ _ _ (H0.out.next hB12) hn hm).mono ?_
      rintro e v13 ⟨A13, B13, rfl, hM13, hb13⟩
      clear a0 a1 a2
      go_wp2_with fail
      refine (impl_MotorStops _ _ _ _ _ _ _ _ _ _ _ hM13).mono ?_
      rintro e v14 ⟨A14, n14, c14, rfl, hl14, ho14, hb14⟩
      rw [HS.out] at hl14 ho14
      obtain rfl : n3 = n14 := by have := Hl3.out; omega
      have hb134 := bthen hb13 hb14
      have hW14 := hW12.next hb134
      have hG14 := hG12.next hb134
      have hH14 := ho14.into
      have hB14 := bthen hB12 hb134
      clear hl14 ho14 hM13 hW12 hG12
      go_wp2_with fail
      refine (laws_eqIntS _ _ _ _ _ _ _ _ _ hH14.ints hW14.ints Hl3.out Hl3.out (by omega) (by omega) rfl).mono ?_
      rintro e v15 ⟨rfl, hb15⟩
      have hG15 := hG14.next hb15
      have hB15 := bthen hB14 hb15
      clear hG14 hW14 hH14
      go_wp2_with fail
      refine (laws_heldIntS _ _ _ 1 _ hG15.ints (by omega) (by omega) (by omega)).mono ?_
      rintro e v16 ⟨rfl, rfl⟩
      go_wp2_with fail
      go_ret
      exact ⟨rfl, hB15⟩
end Go.Proofs.Ytoeihhjhiofimaa
