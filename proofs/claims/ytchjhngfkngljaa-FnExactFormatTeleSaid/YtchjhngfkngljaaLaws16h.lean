/- The walk of the law that compares both programs on the text of a machine. No condition. -/
import Derived.Test.YtchjhngfkngljaaLaws16b
import Derived.Test.YtchjhngfkngljaaFmt
set_option linter.unusedVariables false
namespace Go.Proofs.Ytchjhngfkngljaa
open Go.RowKit

set_option maxHeartbeats 2000000 in
theorem walk_FnExactFormatTele (A : Option Addr) (n c : Nat) (B : Option Addr) (m d : Nat) (mo : ByteArray) (chi psi : List ByteArray) (w : World) (h : Mach w A n B m chi psi mo) :
    Calls Try.prog 3 #[.agg #[.slice A n c, .slice B m d, .string mo]] w fun e w' => e = .returned (.bool true) ∧ Below w.heap.size w w' := by
  have hb0 := belA w (.cells #[.slice A n c, .slice B m d, .string mo] 24)
  have ht0 := lbox w A n c B m d mo
  have H := Lib.hid (h.next hb0)
  clear h
  go_enter Try.func3, Try.ntmps3
  go_wp2_with fail
  refine (laws_szTele _ _ _ _ _ _ 1048576 _ _ _ _ H.out (by omega)).mono ?_
  rintro e v1 ⟨hb1, h1⟩
  have hB1 := bthen hb0 hb1
  have ht1 := ht0.next hb1
  have H1 := Lib.hid (H.out.next hb1)
  rcases h1 with rfl | ⟨r, rfl, hn, hm⟩
  · clear ht0 ht1
    go_wp2_with fail
    go_ret
    exact ⟨rfl, hB1⟩
  · have a0 : v1.cell? ⟨w.heap.size, 0, none⟩ = some (.slice A n c) := ht1.cell (j := 0) rfl
    have a1 : v1.cell? ⟨w.heap.size, 1, none⟩ = some (.slice B m d) := ht1.cell (j := 1) rfl
    have a2 : v1.cell? ⟨w.heap.size, 2, none⟩ = some (.string mo) := ht1.cell (j := 2) rfl
    have HT1 := Lib.hid ht1
    clear ht0 ht1
    go_wp2_with fail
    refine (laws_toTele _ _ _ _ _ _ _ _ _ _ H1.out hn hm).mono ?_
    rintro e v2 ⟨A2, B2, rfl, hM2, hb2⟩
    have hB2 := bthen hB1 hb2
    have HT2 := Lib.hid (HT1.out.next hb2)
    have H2 := Lib.hid (H1.out.next hb2)
    have HM2 := Lib.hid hM2
    clear hM2 a0 a1 a2
    go_wp2_with fail
    refine (spec_FormatTele _ _ _ _ _ _ _ _ _ _ HM2.out).mono ?_
    rintro e v3 ⟨w0, rfl, hw0, hb3⟩
    have hB3 := bthen hB2 hb3
    have ht3 := HT2.out.next hb3
    have H3 := Lib.hid (H2.out.next hb3)
    have Hw0 := Lib.hid hw0
    have a0 : v3.cell? ⟨w.heap.size, 0, none⟩ = some (.slice A n c) := ht3.cell (j := 0) rfl
    have a1 : v3.cell? ⟨w.heap.size, 1, none⟩ = some (.slice B m d) := ht3.cell (j := 1) rfl
    have a2 : v3.cell? ⟨w.heap.size, 2, none⟩ = some (.string mo) := ht3.cell (j := 2) rfl
    have HT3 := Lib.hid ht3
    clear hw0 ht3
    go_wp2_with fail
    refine (laws_toTele _ _ _ _ _ _ _ _ _ _ H3.out hn hm).mono ?_
    rintro e v4 ⟨A4, B4, rfl, hM4, hb4⟩
    have hB4 := bthen hB3 hb4
    have HT4 := Lib.hid (HT3.out.next hb4)
    have H4 := Lib.hid (H3.out.next hb4)
    have HM4 := Lib.hid hM4
    clear hM4 a0 a1 a2
    have hb5 := belA v4 (.cells #[.slice A4 n n, .slice B4 m m, .string mo] 27)
    have hB5 := bthen hB4 hb5
    have hx5 := tbox v4 A4 n n B4 m m mo
    go_wp2_with fail
    refine (impl_FormatTele _ _ _ _ _ _ _ _ _ _ (HM4.out.next hb5) (Nat.le_refl _) (Nat.le_refl _)).mono ?_
    rintro e v6 ⟨g0, rfl, hg0, hb6⟩
    obtain rfl : g0 = w0 := nb_inj (by rw [hg0, Hw0.out])
    have hB6 := bthen hB5 hb6
    have hb56 := bthen hb5 hb6
    have hx6 := hx5.next hb6
    have ht6 := HT4.out.next hb56
    have hbd : Below v6.heap.size v6 v6.drew := (Below.refl _ _).drew
    have hb57 := bthen hb56 hbd
    have hB7 := bthen hB6 hbd
    have H6 := Lib.hid (H4.out.next hb57)
    have HM6 := Lib.hid (HM4.out.next hb57)
    have HX6 := Lib.hid (hx6.next hbd)
    have q0 : v6.cell? ⟨v4.heap.size, 0, none⟩ = some (.slice A4 n n) := hx6.cell (j := 0) rfl
    have q1 : v6.cell? ⟨v4.heap.size, 1, none⟩ = some (.slice B4 m m) := hx6.cell (j := 1) rfl
    have q2 : v6.cell? ⟨v4.heap.size, 2, none⟩ = some (.string mo) := hx6.cell (j := 2) rfl
    have a0 : v6.cell? ⟨w.heap.size, 0, none⟩ = some (.slice A n c) := ht6.cell (j := 0) rfl
    have a1 : v6.cell? ⟨w.heap.size, 1, none⟩ = some (.slice B m d) := ht6.cell (j := 1) rfl
    have a2 : v6.cell? ⟨w.heap.size, 2, none⟩ = some (.string mo) := ht6.cell (j := 2) rfl
    clear hg0 hx5 hx6 ht6
    go_wp2_with fail
    go_region_with (first | (go_at_call 6; refine (laws_toTele _ _ _ _ _ _ _ _ _ _ H6.out hn hm).mono ?_; rintro e v7 ⟨A7, B7, rfl, hM7, hb7⟩; have p0 : v7.cell? ⟨v4.heap.size, 0, none⟩ = some (.slice A4 n n) := (HX6.out.next hb7).cell (j := 0) rfl; have p1 : v7.cell? ⟨v4.heap.size, 1, none⟩ = some (.slice B4 m m) := (HX6.out.next hb7).cell (j := 1) rfl; have p2 : v7.cell? ⟨v4.heap.size, 2, none⟩ = some (.string mo) := (HX6.out.next hb7).cell (j := 2) rfl) | (go_at_call 8; refine (laws_eqTele _ _ _ _ _ _ _ _ _ _ _ _ _ _ (HM6.out.next hb7) hM7).mono ?_; rintro e v8 ⟨rfl, hb8⟩))
    all_goals
      go_wp2_with fail
      go_ret
      exact ⟨rfl, bthen (bthen hB7 hb7) hb8⟩
end Go.Proofs.Ytchjhngfkngljaa
