/- The walk of the law that compares both programs on parsing a machine. No condition. -/
import Derived.Test.YtchjhngfkngljaaDoorParseI
import Derived.Test.YtchjhngfkngljaaDoorParseS
import Derived.Test.YtchjhngfkngljaaDoorMarkT
import Derived.Test.YtchjhngfkngljaaDoorLaws16b
set_option linter.unusedVariables false
namespace Go.Proofs.YtchjhngfkngljaaDoor
open Go.RowKit

theorem PtV.mach {w : World} {A B : Option Addr} {lo mid lo' hi : Nat} {l : List Nat} {chi psi : List ByteArray} {mo : ByteArray} (h : PtV l chi psi mo) (hA : SOwn w lo mid A chi) (hB : SOwn w lo' hi B psi) : Mach w A chi.length B psi.length chi psi mo :=
  ⟨hA.strs, hB.strs, rfl, rfl, by have := h.len; omega, by have := h.len; omega, h.small.1, h.small.2.1, h.small.2.2⟩
set_option maxHeartbeats 2000000 in
theorem walk_FnExactParseTele (s : ByteArray) (w : World) (hs : s.size ≤ maxLen) (mx : Int) (hm : w.cell? ⟨0, 0, none⟩ = some (.int .i64 mx)) :
    Calls Tryd.prog 4 #[.string s] w fun e w' => e = .returned (.bool true) ∧ Below w.heap.size w w' := by
  by_cases hbig : 1048576 < s.size
  · clear hm
    go_enter Tryd.func4, Tryd.ntmps4
    go_wp2_with fail
    go_ret
    exact ⟨rfl, Below.refl _ _⟩
  · have hs1 : s.size ≤ 1048576 := by omega
    have HM0 := Lib.hid hm
    clear hm
    go_enter Tryd.func4, Tryd.ntmps4
    go_wp2_with fail
    refine (spec_ParseTele s _ hs1).mono ?_
    rintro e v1 ⟨A, c, B, d, mid, chi, psi, mo, rfl, kc, kd, hA, hB, m1, m2, hV, hb1⟩
    have hlen := hV.len
    have hx := tbox v1 A chi.length c B psi.length d mo
    have hbx := belA v1 (.cells #[.slice A chi.length c, .slice B psi.length d, .string mo] 25)
    have hBx := bthen hb1 hbx
    have hA1 := (hA.next hbx).wider (Nat.le_refl _) m2
    have hB1 := (hB.next hbx).wider m1 (Nat.le_refl _)
    have HP := Lib.hid (And.intro hA1 (And.intro hB1 (And.intro hx (And.intro hV hBx))))
    have hsx : (v1.alloc (.cells #[.slice A chi.length c, .slice B psi.length d, .string mo] 25)).heap.size = v1.heap.size + 1 := size_alloc _ _
    have hw1 := hb1.size
    clear hA hB hx hbx hBx hA1 hB1 hV hb1 m1 m2
    go_wp2_with fail
    refine (impl_ParseTele s mx _ hs1 ((HP.out.2.2.2.2.cell (World.block_lt_of_cell? w _ HM0.out)).trans HM0.out)).mono ?_
    rintro e v3 ⟨A3, c3, B3, d3, mid3, chi3, psi3, mo3, rfl, kc3, kd3, hA3, hB3, m13, m23, hV3, hb3⟩
    obtain ⟨rfl, rfl, rfl⟩ := hV3.same HP.out.2.2.2.1
    have hz3 := hb3.size
    have hy := tbox v3 A3 chi3.length c3 B3 psi3.length d3 mo3
    have hby := belA v3 (.cells #[.slice A3 chi3.length c3, .slice B3 psi3.length d3, .string mo3] 25)
    have hby3 := bthen hb3 hby
    have hsy : (v3.alloc (.cells #[.slice A3 chi3.length c3, .slice B3 psi3.length d3, .string mo3] 25)).heap.size = v3.heap.size + 1 := size_alloc _ _
    have HW := Lib.hid (And.intro (HP.out.1.next hby3) (And.intro (HP.out.2.1.next hby3) (And.intro (HP.out.2.2.1.next hby3) (bthen HP.out.2.2.2.2 hby3))))
    have HG := Lib.hid (And.intro (hA3.next hby) (And.intro (hB3.next hby) (And.intro hy hV3)))
    have q0 := HW.out.2.2.1.cell (j := 0) rfl
    have q1 := HW.out.2.2.1.cell (j := 1) rfl
    have q2 := HW.out.2.2.1.cell (j := 2) rfl
    clear hA3 hB3 hy hby hby3 hV3 hb3
    go_wp2_with fail
    refine (laws_eqTele _ _ _ _ _ _ _ _ _ _ _ _ _ _ (HG.out.2.2.2.mach HG.out.1 HG.out.2.1) (HG.out.2.2.2.mach HW.out.1 HW.out.2.1)).mono ?_
    rintro e v5 ⟨rfl, hb5⟩
    have hz5 := hb5.size
    have b3 := HW.out.2.2.1.next hb5
    have b5 := HG.out.2.2.1.next hb5
    have HW5 := Lib.hid (And.intro (HW.out.1.next hb5) (And.intro (HW.out.2.1.next hb5) (And.intro b3 (bthen HW.out.2.2.2 hb5))))
    have HG5 := Lib.hid (And.intro (HG.out.1.next hb5) (And.intro (HG.out.2.1.next hb5) (And.intro b5 HG.out.2.2.2)))
    have p0 : v5.cell? ⟨v3.heap.size, 0, none⟩ = some (.slice A3 chi3.length c3) := b5.cell (j := 0) rfl
    have p1 : v5.cell? ⟨v3.heap.size, 1, none⟩ = some (.slice B3 psi3.length d3) := b5.cell (j := 1) rfl
    have p2 : v5.cell? ⟨v3.heap.size, 2, none⟩ = some (.string mo3) := b5.cell (j := 2) rfl
    clear b3 b5 q0 q1 q2 hb5
    go_wp2_with fail
    refine (laws_markTele A3 B3 _ c3 _ d3 1 _ mid3 _ chi3 psi3 mo3 v5 HG5.out.1 HG5.out.2.1 m13 m23 (by omega) rfl rfl (by omega) (by omega) (Nat.le_refl _) (by omega)).mono ?_
    rintro e v6 ⟨rfl, hA6, hB6, hK6⟩
    have b3 := HW5.out.2.2.1.same (hK6.block v1.heap.size HW5.out.2.2.1.lt (.inl (by omega)))
    have b5 := HG5.out.2.2.1.same (hK6.block v3.heap.size HG5.out.2.2.1.lt (.inr (Nat.le_refl _)))
    have hBw6 := HW5.out.2.2.2.trans (hK6.below (B := w.heap.size) (by omega) (by omega))
    have HW6 := Lib.hid (And.intro (HW5.out.1.kept hK6 (.inl (by omega))) (And.intro (HW5.out.2.1.kept hK6 (.inl (by omega))) (And.intro b3 hBw6)))
    have HG6 := Lib.hid (And.intro hA6.strs (And.intro hB6.strs (And.intro b5 HG5.out.2.2.2)))
    clear p0 p1 p2
    have p0 : v6.cell? ⟨v3.heap.size, 0, none⟩ = some (.slice A3 chi3.length c3) := b5.cell (j := 0) rfl
    have p1 : v6.cell? ⟨v3.heap.size, 1, none⟩ = some (.slice B3 psi3.length d3) := b5.cell (j := 1) rfl
    have p2 : v6.cell? ⟨v3.heap.size, 2, none⟩ = some (.string mo3) := b5.cell (j := 2) rfl
    clear b3 b5 hA6 hB6 hK6 hBw6
    go_wp2_with fail
    refine (laws_heldTele A3 B3 _ c3 _ d3 1 mo3 v6 HG6.out.1 HG6.out.2.1 (by omega) (by omega) (Nat.le_refl _) (by omega)).mono ?_
    rintro e v7 ⟨rfl, hb7⟩
    have b5 := HG6.out.2.2.1.next hb7
    have HW7 := Lib.hid (And.intro (HW6.out.1.next hb7) (And.intro (HW6.out.2.1.next hb7) (And.intro (HW6.out.2.2.1.next hb7) (bthen HW6.out.2.2.2 hb7))))
    have HG7 := Lib.hid (And.intro (HG6.out.1.next hb7) (And.intro (HG6.out.2.1.next hb7) (And.intro b5 HG6.out.2.2.2)))
    clear p0 p1 p2 b5 hb7
    go_wp2_with fail
    refine (impl_ParseTele s mx _ hs1 ((HW7.out.2.2.2.cell (World.block_lt_of_cell? w _ HM0.out)).trans HM0.out)).mono ?_
    rintro e v8 ⟨A8, c8, B8, d8, mid8, chi8, psi8, mo8, rfl, kc8, kd8, hA8, hB8, m18, m28, hV8, hb8⟩
    obtain ⟨rfl, rfl, rfl⟩ := hV8.same HG7.out.2.2.2
    have hy := tbox v8 A8 chi8.length c8 B8 psi8.length d8 mo8
    have hby := belA v8 (.cells #[.slice A8 chi8.length c8, .slice B8 psi8.length d8, .string mo8] 25)
    have hby8 := bthen hb8 hby
    have b3 := HW7.out.2.2.1.next hby8
    have HW8 := Lib.hid (And.intro (HW7.out.1.next hby8) (And.intro (HW7.out.2.1.next hby8) (And.intro b3 (bthen HW7.out.2.2.2 hby8))))
    have HG8 := Lib.hid (And.intro (HG7.out.1.next hby8) (And.intro (HG7.out.2.1.next hby8) (And.intro (HG7.out.2.2.1.next hby8) HG7.out.2.2.2)))
    have HH8 := Lib.hid (And.intro (hA8.next hby) (hB8.next hby))
    have q0 := b3.cell (j := 0) rfl
    have q1 := b3.cell (j := 1) rfl
    have q2 := b3.cell (j := 2) rfl
    clear hA8 hB8 hy hby hby8 hV8 hb8 b3
    go_wp2_with fail
    refine (laws_eqTele _ _ _ _ _ _ _ _ _ _ _ _ _ _ (HG8.out.2.2.2.mach HH8.out.1 HH8.out.2) (HG8.out.2.2.2.mach HW8.out.1 HW8.out.2.1)).mono ?_
    rintro e v10 ⟨rfl, hb10⟩
    have b5 := HG8.out.2.2.1.next hb10
    have HW10 := Lib.hid (bthen HW8.out.2.2.2 hb10)
    have HG10 := Lib.hid (And.intro (HG8.out.1.next hb10) (HG8.out.2.1.next hb10))
    have p0 := b5.cell (j := 0) rfl
    have p1 := b5.cell (j := 1) rfl
    have p2 := b5.cell (j := 2) rfl
    clear q0 q1 q2 b5 hb10
    go_wp2_with fail
    refine (laws_heldTele A3 B3 _ c3 _ d3 1 mo8 v10 HG10.out.1 HG10.out.2 (by omega) (by omega) (Nat.le_refl _) (by omega)).mono ?_
    rintro e v11 ⟨rfl, hb11⟩
    clear p0 p1 p2
    go_wp2_with fail
    go_ret
    exact ⟨rfl, bthen HW10.out hb11⟩
end Go.Proofs.YtchjhngfkngljaaDoor
