/- The walk of the law on the text of a machine. No condition. -/
import Derived.Test.YtchjhngfkngljaaDoorText
import Derived.BigQuiet
import Derived.Deep.QuietTactic
set_option linter.unusedVariables false
namespace Go.Proofs.YtchjhngfkngljaaDoor
open Go.RowKit

theorem PtV.machT {w : World} {A B : Option Addr} {lo mid lo' hi : Nat} {l : List Nat} {chi psi : List ByteArray} {mo : ByteArray} (h : PtV l chi psi mo) (hA : SOwn w lo mid A chi) (hB : SOwn w lo' hi B psi) : Mach w A chi.length B psi.length chi psi mo :=
  ⟨hA.strs, hB.strs, rfl, rfl, by have := h.len; omega, by have := h.len; omega, h.small.1, h.small.2.1, h.small.2.2⟩
set_option maxHeartbeats 4000000 in
theorem walk_FnTeleText (a0 : Option Addr) (len0 cap0 : Nat) (z0 : List Int) (a1 : Option Addr) (len1 cap1 : Nat) (z1 : List Int) (w : World) (w0 : IsRow .u8 w a0 len0 cap0 z0) (w1 : IsRow .u8 w a1 len1 cap1 z1) (mx : Int) (hmx : w.cell? ⟨0, 0, none⟩ = some (.int .i64 mx)) :
    Calls Tryd.prog 3 #[.slice a0 len0 cap0, .slice a1 len1 cap1] w fun e w' => e = .returned (.bool true) ∧ Below w.heap.size w w' := by
  have hl := w0.len_le
  have hl1 := w1.len_le
  by_cases hbig : 1048576 < len0
  · clear w0 w1 hmx
    go_enter Tryd.func3, Tryd.ntmps3
    go_wp2_with fail
    go_ret
    exact ⟨rfl, Below.refl _ _⟩
  by_cases hbig1 : 1048576 < len1
  · clear w0 w1 hmx
    go_enter Tryd.func3, Tryd.ntmps3
    go_wp2_with fail
    go_ret
    exact ⟨rfl, Below.refl _ _⟩
  · have W0 := Lib.hid w0
    have W1 := Lib.hid w1
    have HX0 := Lib.hid hmx
    clear w0 w1 hmx
    go_enter Tryd.func3, Tryd.ntmps3
    go_wp2_with fail
    refine (spec_DrawFormatTele _ _ _ _ _ W0.out).mono ?_
    rintro e v1 ⟨A, n, c, B, m, d, mo, chi, psi, rfl, hM1, hn, hd, hb1⟩
    obtain rfl := hM1.la
    obtain rfl := hM1.lb
    have hb2 := belA v1 (.cells #[.slice A chi.length c, .slice B psi.length d, .string mo] 25)
    have hT2 := tbox v1 A chi.length c B psi.length d mo
    have HT := Lib.hid hT2
    have hB2 := bthen hb1 hb2
    have HM := Lib.hid (hM1.mach.next hb2)
    clear hT2 hM1
    go_wp2_with fail
    refine (impl_FormatTele _ _ _ _ _ _ chi psi mo _ HM.out hn hd).mono ?_
    rintro e v3 ⟨s, rfl, hs, hb3⟩
    have hB3 := bthen hB2 hb3
    have HT3 := Lib.hid (HT.out.next hb3)
    have HM3 := Lib.hid (HM.out.next hb3)
    have Hs := Lib.hid hs
    clear hs
    have q0 : v3.cell? ⟨v1.heap.size, 0, none⟩ = some (.slice A chi.length c) := HT3.out.cell (j := 0) rfl
    have q1 : v3.cell? ⟨v1.heap.size, 1, none⟩ = some (.slice B psi.length d) := HT3.out.cell (j := 1) rfl
    have q2 : v3.cell? ⟨v1.heap.size, 2, none⟩ = some (.string mo) := HT3.out.cell (j := 2) rfl
    go_wp2_with fail
    refine (spec_FormatTele _ _ _ _ _ _ chi psi mo _ HM3.out).mono ?_
    rintro e v4 ⟨s2, rfl, hs2, hb4⟩
    have hB4 := bthen hB3 hb4
    have HT4 := Lib.hid (HT3.out.next hb4)
    have HM4 := Lib.hid (HM3.out.next hb4)
    obtain rfl : s = s2 := nb_inj (by rw [Hs.out, hs2])
    clear hs2
    clear q0 q1 q2
    have q0 : v4.cell? ⟨v1.heap.size, 0, none⟩ = some (.slice A chi.length c) := HT4.out.cell (j := 0) rfl
    have q1 : v4.cell? ⟨v1.heap.size, 1, none⟩ = some (.slice B psi.length d) := HT4.out.cell (j := 1) rfl
    have q2 : v4.cell? ⟨v1.heap.size, 2, none⟩ = some (.string mo) := HT4.out.cell (j := 2) rfl
    cases hv : tvld chi psi mo
    · have e0 : s = ⟨#[]⟩ := nb_inj (by rw [Hs.out, ftL, hv]; rfl)
      subst e0
      go_wp2_with fail
      refine (impl_TeleValid _ _ _ _ _ _ chi psi mo _ HM4.out).mono ?_
      rw [hv]
      rintro e v5 ⟨rfl, hb5⟩
      go_wp2_with fail
      have hB5 := bthen hB4 hb5
      clear q0 q1 q2
      have hmt := Lib.hid ((hB5.cell (World.block_lt_of_cell? w _ HX0.out)).trans HX0.out)
      refine (spec_DrawParseTele _ _ _ _ _ (W1.out.next hB5)).mono ?_
      rintro e u1 ⟨t, rfl, ht, gb1⟩
      have hU1 := bthen hB5 gb1
      have ht1 : t.size ≤ 1048576 := by omega
      go_wp2_with fail
      refine (impl_ParseTele t mx _ ht1 ((hU1.cell (World.block_lt_of_cell? w _ HX0.out)).trans HX0.out)).mono ?_
      rintro e u2 ⟨A2, c2, B2, d2, mid2, chi2, psi2, mo2, rfl, kc2, kd2, oA2, oB2, m12, m22, V2, gb2⟩
      have gx2 := tbox u2 A2 chi2.length c2 B2 psi2.length d2 mo2
      have gy2 := belA u2 (.cells #[.slice A2 chi2.length c2, .slice B2 psi2.length d2, .string mo2] 25)
      have hU3 := bthen (bthen hU1 gb2) gy2
      have HG := Lib.hid (And.intro (oA2.next gy2) (And.intro (oB2.next gy2) (And.intro gx2 V2)))
      clear oA2 oB2 gx2 V2 gb1 gb2 gy2 m12 m22
      go_wp2_with fail
      refine (spec_ParseTele t _ ht1).mono ?_
      rintro e u4 ⟨A4, c4, B4, d4, mid4, chi4, psi4, mo4, rfl, kc4, kd4, oA4, oB4, m14, m24, V4, gb4⟩
      obtain ⟨rfl, rfl, rfl⟩ := HG.out.2.2.2.same V4
      have gy4 := belA u4 (.cells #[.slice A4 chi2.length c4, .slice B4 psi2.length d4, .string mo2] 25)
      have gb45 := bthen gb4 gy4
      have hU5 := bthen hU3 gb45
      have HG5 := Lib.hid (And.intro (HG.out.1.next gb45) (And.intro (HG.out.2.1.next gb45) (And.intro (HG.out.2.2.1.next gb45) HG.out.2.2.2)))
      have HW5 := Lib.hid (And.intro (oA4.next gy4) (oB4.next gy4))
      have x0 := HG5.out.2.2.1.cell (j := 0) rfl
      have x1 := HG5.out.2.2.1.cell (j := 1) rfl
      have x2 := HG5.out.2.2.1.cell (j := 2) rfl
      clear oA4 oB4 V4 gb4 gy4 gb45 m14 m24
      go_wp2_with fail
      refine (laws_rcTeles _ _ _ _ _ _ _ _ _ _ _ _ _ _ (HG5.out.2.2.2.machT HG5.out.1 HG5.out.2.1) (HG5.out.2.2.2.machT HW5.out.1 HW5.out.2)).mono ?_
      rintro e u6 ⟨rfl, gb6⟩
      have hU6 := bthen hU5 gb6
      have HG6 := Lib.hid (And.intro (HG5.out.1.next gb6) (And.intro (HG5.out.2.1.next gb6) (HG5.out.2.2.1.next gb6)))
      clear x0 x1 x2
      cases hk : ptOk (nb t)
      · go_wp2_with fail
        go_ret
        exact ⟨rfl, hU6⟩
      · have x0 := HG6.out.2.2.cell (j := 0) rfl
        have x1 := HG6.out.2.2.cell (j := 1) rfl
        have x2 := HG6.out.2.2.cell (j := 2) rfl
        clear gb6
        go_wp2_with fail
        refine (impl_FormatTele _ _ _ _ _ _ chi2 psi2 mo2 _ (HG5.out.2.2.2.machT HG6.out.1 HG6.out.2.1) kc2 kd2).mono ?_
        rintro e u7 ⟨r, rfl, hr, gb7⟩
        obtain rfl : r = t := nb_inj (by rw [hr, ft_back HG5.out.2.2.2 hk])
        clear hr x0 x1 x2
        go_wp2_with fail
        go_ret
        exact ⟨rfl, bthen hU6 gb7⟩
    · have e0 : (s.toList == ([] : List UInt8)) = false := by
        rw [beq_eq_false_iff_ne]
        intro e
        have h1 := (ft_len hv).1
        rw [ByteArray.toList_eq] at e
        have h2 : nb s = [] := by unfold nb; rw [e]; rfl
        rw [← Hs.out, h2] at h1
        simp at h1
      go_wp2_with fail
      refine (impl_TeleValid _ _ _ _ _ _ chi psi mo _ HM4.out).mono ?_
      rw [hv]
      rintro e v5 ⟨rfl, hb5⟩
      go_wp2_with fail
      have hs1 : s.size ≤ 1048576 := by have h1 := (ft_len hv).2; rw [← Hs.out, nb_length] at h1; omega
      have hB5 := bthen hB4 hb5
      have HM5 := Lib.hid (HM4.out.next hb5)
      have HT5 := Lib.hid (HT4.out.next hb5)
      clear q0 q1 q2
      refine (impl_ParseTele s mx _ hs1 ((hB5.cell (World.block_lt_of_cell? w _ HX0.out)).trans HX0.out)).mono ?_
      rintro e v6 ⟨A6, c6, B6, d6, mid6, chi6, psi6, mo6, he, kc6, kd6, oA6, oB6, m16, m26, V6, hb6⟩
      rw [Hs.out] at V6 he
      obtain ⟨hok, hV⟩ := pt_ft hv
      obtain ⟨rfl, rfl, rfl⟩ := hV.same V6
      rw [hok] at he
      subst he
      have gy6 := belA v6 (.cells #[.slice A6 chi.length c6, .slice B6 psi.length d6, .string mo] 25)
      have gb67 := bthen hb6 gy6
      have hB7 := bthen hB5 gb67
      have HM7 := Lib.hid (HM5.out.next gb67)
      have HT7 := HT5.out.next gb67
      have HW7 := Lib.hid (hV.machT (oA6.next gy6) (oB6.next gy6))
      have q0 := HT7.cell (j := 0) rfl
      have q1 := HT7.cell (j := 1) rfl
      have q2 := HT7.cell (j := 2) rfl
      clear oA6 oB6 V6 hb6 gy6 gb67 m16 m26 HT7 hok hV
      go_wp2_with fail
      refine (laws_rcTeles _ _ _ _ _ _ _ _ _ _ _ _ _ _ HW7.out HM7.out).mono ?_
      rintro e v8 ⟨rfl, hb8⟩
      have hB8 := bthen hB7 hb8
      clear q0 q1 q2
      go_wp2_with fail
      have hmt := Lib.hid ((hB8.cell (World.block_lt_of_cell? w _ HX0.out)).trans HX0.out)
      refine (spec_DrawParseTele _ _ _ _ _ (W1.out.next hB8)).mono ?_
      rintro e u1 ⟨t, rfl, ht, gb1⟩
      have hU1 := bthen hB8 gb1
      have ht1 : t.size ≤ 1048576 := by omega
      go_wp2_with fail
      refine (impl_ParseTele t mx _ ht1 ((hU1.cell (World.block_lt_of_cell? w _ HX0.out)).trans HX0.out)).mono ?_
      rintro e u2 ⟨A2, c2, B2, d2, mid2, chi2, psi2, mo2, rfl, kc2, kd2, oA2, oB2, m12, m22, V2, gb2⟩
      have gx2 := tbox u2 A2 chi2.length c2 B2 psi2.length d2 mo2
      have gy2 := belA u2 (.cells #[.slice A2 chi2.length c2, .slice B2 psi2.length d2, .string mo2] 25)
      have hU3 := bthen (bthen hU1 gb2) gy2
      have HG := Lib.hid (And.intro (oA2.next gy2) (And.intro (oB2.next gy2) (And.intro gx2 V2)))
      clear oA2 oB2 gx2 V2 gb1 gb2 gy2 m12 m22
      go_wp2_with fail
      refine (spec_ParseTele t _ ht1).mono ?_
      rintro e u4 ⟨A4, c4, B4, d4, mid4, chi4, psi4, mo4, rfl, kc4, kd4, oA4, oB4, m14, m24, V4, gb4⟩
      obtain ⟨rfl, rfl, rfl⟩ := HG.out.2.2.2.same V4
      have gy4 := belA u4 (.cells #[.slice A4 chi2.length c4, .slice B4 psi2.length d4, .string mo2] 25)
      have gb45 := bthen gb4 gy4
      have hU5 := bthen hU3 gb45
      have HG5 := Lib.hid (And.intro (HG.out.1.next gb45) (And.intro (HG.out.2.1.next gb45) (And.intro (HG.out.2.2.1.next gb45) HG.out.2.2.2)))
      have HW5 := Lib.hid (And.intro (oA4.next gy4) (oB4.next gy4))
      have x0 := HG5.out.2.2.1.cell (j := 0) rfl
      have x1 := HG5.out.2.2.1.cell (j := 1) rfl
      have x2 := HG5.out.2.2.1.cell (j := 2) rfl
      clear oA4 oB4 V4 gb4 gy4 gb45 m14 m24
      go_wp2_with fail
      refine (laws_rcTeles _ _ _ _ _ _ _ _ _ _ _ _ _ _ (HG5.out.2.2.2.machT HG5.out.1 HG5.out.2.1) (HG5.out.2.2.2.machT HW5.out.1 HW5.out.2)).mono ?_
      rintro e u6 ⟨rfl, gb6⟩
      have hU6 := bthen hU5 gb6
      have HG6 := Lib.hid (And.intro (HG5.out.1.next gb6) (And.intro (HG5.out.2.1.next gb6) (HG5.out.2.2.1.next gb6)))
      clear x0 x1 x2
      cases hk : ptOk (nb t)
      · go_wp2_with fail
        go_ret
        exact ⟨rfl, hU6⟩
      · have x0 := HG6.out.2.2.cell (j := 0) rfl
        have x1 := HG6.out.2.2.cell (j := 1) rfl
        have x2 := HG6.out.2.2.cell (j := 2) rfl
        clear gb6
        go_wp2_with fail
        refine (impl_FormatTele _ _ _ _ _ _ chi2 psi2 mo2 _ (HG5.out.2.2.2.machT HG6.out.1 HG6.out.2.1) kc2 kd2).mono ?_
        rintro e u7 ⟨r, rfl, hr, gb7⟩
        obtain rfl : r = t := nb_inj (by rw [hr, ft_back HG5.out.2.2.2 hk])
        clear hr x0 x1 x2
        go_wp2_with fail
        go_ret
        exact ⟨rfl, bthen hU6 gb7⟩
end Go.Proofs.YtchjhngfkngljaaDoor
