/- The walks of further laws on machines. No condition. -/
import Derived.Test.YtibjiadgmlpceaaDrawT4
import Derived.Test.YtibjiadgmlpceaaPlainT
import Derived.BigQuiet
import Derived.Deep.QuietTactic
import Derived.Deep.RegionLaw
set_option linter.unusedVariables false
namespace Go.Proofs.Ytibjiadgmlpceaa
open Go.RowKit

theorem smallT {r : ByteArray} {l : List Nat} (h : nb r = l) (hl : l.length ≤ 1000) : r.size ≤ maxLen := by rw [← nb_length, h]; unfold maxLen; omega
theorem size_of {r : ByteArray} {l : List Nat} {n : Nat} (h : nb r = l) (hl : l.length = n) : r.size = n := by rw [← nb_length, h, hl]
theorem beq_len {a b : Nat} (h : a = b) : ((a : Int) == (b : Int)) = true := by rw [h]; simp
theorem extract_nb {s r : ByteArray} {k : Nat} (h : nb r = (nb s).take k) : s.extract 0 k = r := nb_inj (by rw [nb_extract, h]; rfl)
theorem byte_of {s : ByteArray} {l : List Nat} {k c : Nat} (h : nb s = l) (hc : l[k]? = some c) : ∃ hk : k < s.size, s[k].toNat = c := by
  subst h
  have hk : k < s.size := by rw [← nb_length]; exact (List.getElem?_eq_some_iff.1 hc).1
  refine ⟨hk, ?_⟩
  have := nb_get? s k hk
  rw [hc] at this
  injection this with this
  exact this.symm
theorem Mach.swap {w : World} {A B : Option Addr} {n m : Nat} {chi psi : List ByteArray} {mo : ByteArray} (h : Mach w A n B m chi psi mo) (mo' : ByteArray) (hm : mo'.size ≤ maxLen) : Mach w B m A n psi chi mo' := ⟨h.sp, h.sc, h.lp, h.lc, h.bm, h.bn, h.mp, h.mc, hm⟩
theorem Mach.motor {w : World} {A B : Option Addr} {n m : Nat} {chi psi : List ByteArray} {mo : ByteArray} (h : Mach w A n B m chi psi mo) (mo' : ByteArray) (hm : mo'.size ≤ maxLen) : Mach w A n B m chi psi mo' := ⟨h.sc, h.sp, h.lc, h.lp, h.bn, h.bm, h.mc, h.mp, hm⟩
set_option maxHeartbeats 4000000 in
theorem walk_FnTeleTwice (a0 : Option Addr) (len0 cap0 : Nat) (z0 : List Int) (w : World) (w0 : IsRow .u8 w a0 len0 cap0 z0) :
    Calls Try.prog 7 #[.slice a0 len0 cap0] w fun e w' => e = .returned (.bool true) ∧ Below w.heap.size w w' := by
  have hl := w0.len_le
  by_cases hbig : 1048576 < len0
  · clear w0
    go_enter Try.func7, Try.ntmps7
    go_wp2_with fail
    go_ret
    exact ⟨rfl, Below.refl _ _⟩
  · have W0 := Lib.hid w0
    clear w0
    go_enter Try.func7, Try.ntmps7
    go_wp2_with fail
    refine (spec_DrawTeleEncipher _ _ _ _ _ W0.out).mono ?_
    rintro e v1 ⟨A, n, c, B, m, d, mo, chi, psi, t, rfl, ht, hM1, hb1⟩
    have htm : t.size ≤ maxLen := by unfold maxLen; omega
    have hb2 := belA v1 (.cells #[.slice A n c, .slice B m d, .string mo] 25)
    have hT2 := tbox v1 A n c B m d mo
    have HT := Lib.hid hT2
    have hB2 := bthen hb1 hb2
    have HM := Lib.hid (hM1.mach.next hb2)
    clear hT2 hM1
    go_wp2_with fail
    refine (impl_TeleEncipher _ _ _ _ _ _ chi psi mo t _ HM.out htm).mono ?_
    rintro e v3 ⟨s, rfl, hs, hb3⟩
    have hB3 := bthen hB2 hb3
    have HT3 := Lib.hid (HT.out.next hb3)
    have HM3 := Lib.hid (HM.out.next hb3)
    have Hs := Lib.hid hs
    clear hs
    have q0 : v3.cell? ⟨v1.heap.size, 0, none⟩ = some (.slice A n c) := HT3.out.cell (j := 0) rfl
    have q1 : v3.cell? ⟨v1.heap.size, 1, none⟩ = some (.slice B m d) := HT3.out.cell (j := 1) rfl
    have q2 : v3.cell? ⟨v1.heap.size, 2, none⟩ = some (.string mo) := HT3.out.cell (j := 2) rfl
    go_wp2_with fail
    refine (spec_TeleEncipher _ _ _ _ _ _ chi psi mo t _ HM3.out htm).mono ?_
    rintro e v4 ⟨s2, rfl, hs2, hb4⟩
    have hB4 := bthen hB3 hb4
    have HT4 := Lib.hid (HT3.out.next hb4)
    have HM4 := Lib.hid (HM3.out.next hb4)
    obtain rfl : s = s2 := nb_inj (by rw [Hs.out, hs2])
    clear hs2
    clear q0 q1 q2
    have q0 : v4.cell? ⟨v1.heap.size, 0, none⟩ = some (.slice A n c) := HT4.out.cell (j := 0) rfl
    have q1 : v4.cell? ⟨v1.heap.size, 1, none⟩ = some (.slice B m d) := HT4.out.cell (j := 1) rfl
    have q2 : v4.cell? ⟨v1.heap.size, 2, none⟩ = some (.string mo) := HT4.out.cell (j := 2) rfl
    go_wp2_with fail
    refine (impl_TeleValid _ _ _ _ _ _ chi psi mo _ HM4.out).mono ?_
    rintro e v5 ⟨rfl, hb5⟩
    have hB5 := bthen hB4 hb5
    have HT5 := Lib.hid (HT4.out.next hb5)
    have HM5 := Lib.hid (HM4.out.next hb5)
    clear q0 q1 q2
    have q0 : v5.cell? ⟨v1.heap.size, 0, none⟩ = some (.slice A n c) := HT5.out.cell (j := 0) rfl
    have q1 : v5.cell? ⟨v1.heap.size, 1, none⟩ = some (.slice B m d) := HT5.out.cell (j := 1) rfl
    have q2 : v5.cell? ⟨v1.heap.size, 2, none⟩ = some (.string mo) := HT5.out.cell (j := 2) rfl
    cases hw : tvld chi psi mo
    · have hv : teOk chi psi mo (nb t) = false := by rw [teOk_of, hw]; rfl
      go_wp2_with fail
      go_ret
      exact ⟨rfl, hB5⟩
    · cases ht2 : tv (nb t)
      · have hv : teOk chi psi mo (nb t) = false := by rw [teOk_of, hw, ht2]; rfl
        go_wp2_with fail
        refine (impl_TapeValid t _ htm).mono ?_
        rintro e u1 ⟨rfl, rfl⟩
        go_wp2_with fail
        go_ret
        exact ⟨rfl, hB5⟩
      · have hv : teOk chi psi mo (nb t) = true := by rw [teOk_of, hw, ht2]; rfl
        have Hv := Lib.hid hv
        have hsm : s.size ≤ maxLen := smallT Hs.out (by have := te_le chi psi mo (nb t); omega)
        have hv2 : teOk chi psi mo (nb s) = true := by rw [Hs.out]; exact te_twiceOk hv
        have Hv2 := Lib.hid hv2
        go_wp2_with fail
        refine (impl_TapeValid t _ htm).mono ?_
        rintro e u1 ⟨rfl, rfl⟩
        go_wp2_with fail
        refine (impl_TeleEncipher _ _ _ _ _ _ chi psi mo s _ HM5.out hsm).mono ?_
        rintro e v6 ⟨b2, rfl, hx, hb6⟩
        have hB6 := bthen hB5 hb6
        have HT6 := Lib.hid (HT5.out.next hb6)
        have HM6 := Lib.hid (HM5.out.next hb6)
        obtain rfl : b2 = t := nb_inj (by rw [hx, Hs.out, te_twice Hv.out])
        clear hx
        clear q0 q1 q2
        have q0 : v6.cell? ⟨v1.heap.size, 0, none⟩ = some (.slice A n c) := HT6.out.cell (j := 0) rfl
        have q1 : v6.cell? ⟨v1.heap.size, 1, none⟩ = some (.slice B m d) := HT6.out.cell (j := 1) rfl
        have q2 : v6.cell? ⟨v1.heap.size, 2, none⟩ = some (.string mo) := HT6.out.cell (j := 2) rfl
        go_wp2_with fail
        refine (impl_TeleKey _ _ _ _ _ _ chi psi mo (b2.size : Int) _ HM6.out).mono ?_
        rintro e v7 ⟨key, rfl, hk, hb7⟩
        have hB7 := bthen hB6 hb7
        have HT7 := Lib.hid (HT6.out.next hb7)
        have HM7 := Lib.hid (HM6.out.next hb7)
        have Hk := Lib.hid hk
        clear hk
        clear q0 q1 q2
        go_wp2_with fail
        refine (laws_rcXor s b2 _ hsm htm).mono ?_
        rintro e u2 ⟨r, rfl, hr, hbu⟩
        obtain rfl : r = key := nb_inj (by rw [hr, Hk.out, Hs.out, te_sum Hv.out, nb_length])
        clear hr
        go_wp2_with fail
        go_ret
        exact ⟨rfl, bthen hB7 hbu⟩
set_option maxHeartbeats 4000000 in
theorem walk_FnKeyMotorless (a0 : Option Addr) (len0 cap0 : Nat) (z0 : List Int) (w : World) (w0 : IsRow .u8 w a0 len0 cap0 z0) :
    Calls Try.prog 3 #[.slice a0 len0 cap0] w fun e w' => e = .returned (.bool true) ∧ Below w.heap.size w w' := by
  have hl := w0.len_le
  by_cases hbig : 1048576 < len0
  · clear w0
    go_enter Try.func3, Try.ntmps3
    go_wp2_with fail
    go_ret
    exact ⟨rfl, Below.refl _ _⟩
  · have W0 := Lib.hid w0
    clear w0
    go_enter Try.func3, Try.ntmps3
    go_wp2_with fail
    refine (spec_DrawTeleKey _ _ _ _ _ W0.out).mono ?_
    rintro e v1 ⟨A, n, c, B, m, d, mo, chi, psi, z, rfl, hM1, hb1⟩
    have hb2 := belA v1 (.cells #[.slice A n c, .slice B m d, .string mo] 25)
    have hT2 := tbox v1 A n c B m d mo
    have HT := Lib.hid hT2
    have hB2 := bthen hb1 hb2
    have HM := Lib.hid (hM1.mach.next hb2)
    clear hT2 hM1
    go_wp2_with fail
    refine (impl_TeleKey _ _ _ _ _ _ chi psi mo z _ HM.out).mono ?_
    rintro e v3 ⟨s, rfl, hs, hb3⟩
    have hB3 := bthen hB2 hb3
    have HT3 := Lib.hid (HT.out.next hb3)
    have HM3 := Lib.hid (HM.out.next hb3)
    have Hs := Lib.hid hs
    clear hs
    have q0 : v3.cell? ⟨v1.heap.size, 0, none⟩ = some (.slice A n c) := HT3.out.cell (j := 0) rfl
    have q1 : v3.cell? ⟨v1.heap.size, 1, none⟩ = some (.slice B m d) := HT3.out.cell (j := 1) rfl
    have q2 : v3.cell? ⟨v1.heap.size, 2, none⟩ = some (.string mo) := HT3.out.cell (j := 2) rfl
    go_wp2_with fail
    refine (spec_TeleKey _ _ _ _ _ _ chi psi mo z _ HM3.out).mono ?_
    rintro e v4 ⟨s2, rfl, hs2, hb4⟩
    have hB4 := bthen hB3 hb4
    have HT4 := Lib.hid (HT3.out.next hb4)
    have HM4 := Lib.hid (HM3.out.next hb4)
    obtain rfl : s = s2 := nb_inj (by rw [Hs.out, hs2])
    clear hs2
    clear q0 q1 q2
    have q0 : v4.cell? ⟨v1.heap.size, 0, none⟩ = some (.slice A n c) := HT4.out.cell (j := 0) rfl
    have q1 : v4.cell? ⟨v1.heap.size, 1, none⟩ = some (.slice B m d) := HT4.out.cell (j := 1) rfl
    have q2 : v4.cell? ⟨v1.heap.size, 2, none⟩ = some (.string mo) := HT4.out.cell (j := 2) rfl
    cases hv : tfit chi psi mo z
    · go_wp2_with fail
      go_ret
      exact ⟨rfl, hB4⟩
    · obtain ⟨hc3, hp3, hmo, N, rfl, hN⟩ := tfit_yes hv
      have Hc3 := Lib.hid hc3
      have Hp3 := Lib.hid hp3
      have Hv := Lib.hid hv
      have f1 := tfit_mk hc3 hp3 wheel00 hN
      have f2 := tfit_mk hc3 hp3 wheel11 hN
      have f3 := tfit_mk hp3 hc3 wheel11 hN
      have hs1 : (v4.alloc (.cells #[.slice A n c, .slice B m d, .string ⟨#[48, 48]⟩] 25)).heap.size = v4.heap.size + 1 := sz_alloc _ _
      have hs2 : ((v4.alloc (.cells #[.slice A n c, .slice B m d, .string ⟨#[48, 48]⟩] 25)).alloc (.cells #[.slice A n c, .slice B m d, .string ⟨#[49, 49]⟩] 25)).heap.size = v4.heap.size + 1 + 1 := by rw [sz_alloc, hs1]
      have t1 := ((tbox v4 A n c B m d mo00).alloc (.cells #[.slice A n c, .slice B m d, .string ⟨#[49, 49]⟩] 25)).alloc (.cells #[.slice B m d, .slice A n c, .string ⟨#[49, 49]⟩] 25)
      have t2 := (tbox (v4.alloc (.cells #[.slice A n c, .slice B m d, .string ⟨#[48, 48]⟩] 25)) A n c B m d mo11).alloc (.cells #[.slice B m d, .slice A n c, .string ⟨#[49, 49]⟩] 25)
      have t3 := tbox ((v4.alloc (.cells #[.slice A n c, .slice B m d, .string ⟨#[48, 48]⟩] 25)).alloc (.cells #[.slice A n c, .slice B m d, .string ⟨#[49, 49]⟩] 25)) B m d A n c mo11
      rw [hs1] at t2
      rw [hs2] at t3
      have hba : Below v4.heap.size v4 (((v4.alloc (.cells #[.slice A n c, .slice B m d, .string ⟨#[48, 48]⟩] 25)).alloc (.cells #[.slice A n c, .slice B m d, .string ⟨#[49, 49]⟩] 25)).alloc (.cells #[.slice B m d, .slice A n c, .string ⟨#[49, 49]⟩] 25)) := ((belA _ _).alloc (by rw [hs1]; omega) _).alloc (by rw [hs2]; omega) _
      have c1 := (HT4.out.alloc (.cells #[.slice A n c, .slice B m d, .string ⟨#[48, 48]⟩] 25))
      have c2 := c1.alloc (.cells #[.slice A n c, .slice B m d, .string ⟨#[49, 49]⟩] 25)
      have e0 := c1.cell (j := 0) rfl
      have e1 := c1.cell (j := 1) rfl
      have e2 := c2.cell (j := 0) rfl
      have e3 := c2.cell (j := 1) rfl
      have HTa := Lib.hid (HT4.out.next hba)
      have HMa := Lib.hid (HM4.out.next hba)
      have hBa := bthen hB4 hba
      have HB := Lib.hid (And.intro t1 (And.intro t2 t3))
      have hm00 : mo00.size ≤ maxLen := by decide
      have hm11 : mo11.size ≤ maxLen := by decide
      clear hc3 hp3 hmo t1 t2 t3 c1 c2 hs1 hs2
      have F1 := Lib.hid f1
      have F2 := Lib.hid f2
      have F3 := Lib.hid f3
      clear f1 f2 f3
      go_wp2_with fail
      refine (impl_TeleKey _ _ _ _ _ _ chi psi mo00 (N : Int) _ (HMa.out.motor mo00 hm00)).mono ?_
      rintro e v5 ⟨x, rfl, hx, hb5⟩
      have hB5 := bthen hBa hb5
      have HT5 := Lib.hid (HTa.out.next hb5)
      have HM5 := Lib.hid (HMa.out.next hb5)
      have hX := hx
      have HB5 := Lib.hid (And.intro (HB.out.1.next hb5) (And.intro (HB.out.2.1.next hb5) (HB.out.2.2.next hb5)))
      have hf1 := F1.out
      clear e0 e1 e2 e3 q0 q1 q2
      have q0 : v5.cell? ⟨v4.heap.size + 1, 0, none⟩ = some (.slice A n c) := HB5.out.2.1.cell (j := 0) rfl
      have q1 : v5.cell? ⟨v4.heap.size + 1, 1, none⟩ = some (.slice B m d) := HB5.out.2.1.cell (j := 1) rfl
      have q2 : v5.cell? ⟨v4.heap.size + 1, 2, none⟩ = some (.string ⟨#[49, 49]⟩) := HB5.out.2.1.cell (j := 2) rfl
      go_wp2_with fail
      refine (impl_TeleKey _ _ _ _ _ _ chi psi mo11 (N : Int) _ (HM5.out.motor mo11 hm11)).mono ?_
      rintro e v6 ⟨y, rfl, hy, hb6⟩
      have hB6 := bthen hB5 hb6
      have HT6 := Lib.hid (HT5.out.next hb6)
      have HM6 := Lib.hid (HM5.out.next hb6)
      have HB6 := Lib.hid (HB5.out.2.2.next hb6)
      have hf2 := F2.out
      clear q0 q1 q2
      have q0 : v6.cell? ⟨v4.heap.size + 1 + 1, 0, none⟩ = some (.slice B m d) := HB6.out.cell (j := 0) rfl
      have q1 : v6.cell? ⟨v4.heap.size + 1 + 1, 1, none⟩ = some (.slice A n c) := HB6.out.cell (j := 1) rfl
      have q2 : v6.cell? ⟨v4.heap.size + 1 + 1, 2, none⟩ = some (.string ⟨#[49, 49]⟩) := HB6.out.cell (j := 2) rfl
      go_wp2_with fail
      refine (impl_TeleKey _ _ _ _ _ _ psi chi mo11 (N : Int) _ (HM6.out.swap mo11 hm11)).mono ?_
      rintro e v7 ⟨y2, rfl, hy2, hb7⟩
      have hB7 := bthen hB6 hb7
      have HT7 := Lib.hid (HT6.out.next hb7)
      have HM7 := Lib.hid (HM6.out.next hb7)
      obtain rfl : y = y2 := nb_inj (by rw [hy, hy2, motorfree Hc3.out Hp3.out hN])
      have hf3 := F3.out
      clear hy hy2 q0 q1 q2
      have q0 : v7.cell? ⟨v1.heap.size, 0, none⟩ = some (.slice A n c) := HT7.out.cell (j := 0) rfl
      have q1 : v7.cell? ⟨v1.heap.size, 1, none⟩ = some (.slice B m d) := HT7.out.cell (j := 1) rfl
      have q2 : v7.cell? ⟨v1.heap.size, 2, none⟩ = some (.string mo) := HT7.out.cell (j := 2) rfl
      go_wp2_with fail
      refine (impl_ChiTape _ _ _ _ _ _ chi psi mo (N : Int) _ HM7.out).mono ?_
      rintro e v8 ⟨g, rfl, hg, hb8⟩
      have hB8 := bthen hB7 hb8
      have HT8 := Lib.hid (HT7.out.next hb8)
      have HM8 := Lib.hid (HM7.out.next hb8)
      have Hx := Lib.hid hX
      have Hg := Lib.hid (hg.trans (ct_of Hv.out))
      clear hX hx hg q0 q1 q2
      go_wp2_with fail
      refine (impl_DeltaTape x _ (smallT Hx.out (by have := tk_le chi psi mo00 (N : Int); omega))).mono ?_
      rintro e u1 ⟨dx, rfl, hdx, hbu1⟩
      go_wp2_with fail
      refine (impl_DeltaTape g _ (smallT Hg.out (by rw [chiL_len]; omega))).mono ?_
      rintro e u2 ⟨dg, rfl, hdg, hbu2⟩
      obtain rfl : dx = dg := nb_inj (by rw [hdx, hdg, Hx.out, Hg.out, motorless Hc3.out Hp3.out hN])
      clear hdx hdg
      go_wp2_with fail
      go_ret
      exact ⟨rfl, bthen (bthen hB8 hbu1) hbu2⟩
set_option maxHeartbeats 4000000 in
theorem walk_FnTelePrefix (a0 : Option Addr) (len0 cap0 : Nat) (z0 : List Int) (a1 : Option Addr) (len1 cap1 : Nat) (z1 : List Int) (w : World) (w0 : IsRow .u8 w a0 len0 cap0 z0) (w1 : IsRow .u8 w a1 len1 cap1 z1) :
    Calls Try.prog 5 #[.slice a0 len0 cap0, .slice a1 len1 cap1] w fun e w' => e = .returned (.bool true) ∧ Below w.heap.size w w' := by
  have hl := w0.len_le
  have hl1 := w1.len_le
  by_cases hbig : 1048576 < len0
  · clear w0 w1
    go_enter Try.func5, Try.ntmps5
    go_wp2_with fail
    go_ret
    exact ⟨rfl, Below.refl _ _⟩
  by_cases hbig1 : 1048576 < len1
  · clear w0 w1
    go_enter Try.func5, Try.ntmps5
    go_wp2_with fail
    go_ret
    exact ⟨rfl, Below.refl _ _⟩
  · have W0 := Lib.hid w0
    have W1 := Lib.hid w1
    clear w0 w1
    go_enter Try.func5, Try.ntmps5
    go_wp2_with fail
    refine (spec_DrawTeleEncipher _ _ _ _ _ W0.out).mono ?_
    rintro e v1 ⟨A, n, c, B, m, d, mo, chi, psi, t, rfl, ht, hM1, hb1⟩
    have htm : t.size ≤ maxLen := by unfold maxLen; omega
    have hb2 := belA v1 (.cells #[.slice A n c, .slice B m d, .string mo] 25)
    have hT2 := tbox v1 A n c B m d mo
    have HT := Lib.hid hT2
    have hB2 := bthen hb1 hb2
    have HM := Lib.hid (hM1.mach.next hb2)
    clear hT2 hM1
    go_wp2_with fail
    refine (impl_TeleEncipher _ _ _ _ _ _ chi psi mo t _ HM.out htm).mono ?_
    rintro e v3 ⟨s, rfl, hs, hb3⟩
    have hB3 := bthen hB2 hb3
    have HT3 := Lib.hid (HT.out.next hb3)
    have HM3 := Lib.hid (HM.out.next hb3)
    have Hs := Lib.hid hs
    clear hs
    have q0 : v3.cell? ⟨v1.heap.size, 0, none⟩ = some (.slice A n c) := HT3.out.cell (j := 0) rfl
    have q1 : v3.cell? ⟨v1.heap.size, 1, none⟩ = some (.slice B m d) := HT3.out.cell (j := 1) rfl
    have q2 : v3.cell? ⟨v1.heap.size, 2, none⟩ = some (.string mo) := HT3.out.cell (j := 2) rfl
    go_wp2_with fail
    refine (spec_TeleEncipher _ _ _ _ _ _ chi psi mo t _ HM3.out htm).mono ?_
    rintro e v4 ⟨s2, rfl, hs2, hb4⟩
    have hB4 := bthen hB3 hb4
    have HT4 := Lib.hid (HT3.out.next hb4)
    have HM4 := Lib.hid (HM3.out.next hb4)
    obtain rfl : s = s2 := nb_inj (by rw [Hs.out, hs2])
    clear hs2
    clear q0 q1 q2
    have q0 : v4.cell? ⟨v1.heap.size, 0, none⟩ = some (.slice A n c) := HT4.out.cell (j := 0) rfl
    have q1 : v4.cell? ⟨v1.heap.size, 1, none⟩ = some (.slice B m d) := HT4.out.cell (j := 1) rfl
    have q2 : v4.cell? ⟨v1.heap.size, 2, none⟩ = some (.string mo) := HT4.out.cell (j := 2) rfl
    cases hv : teOk chi psi mo (nb t)
    · go_wp2_with fail
      go_ret
      exact ⟨rfl, hB4⟩
    · have hK : (len1 : Int).tmod ((t.size : Int) + 1) = ((len1 % (t.size + 1) : Nat) : Int) := by rw [Int.tmod_eq_emod_of_nonneg (by omega)]; rfl
      have hKN : len1 % (t.size + 1) ≤ t.size := Nat.le_of_lt_succ (Nat.mod_lt _ (Nat.succ_pos _))
      generalize len1 % (t.size + 1) = K at hK hKN
      have hsz := size_of Hs.out (te_len hv)
      rw [nb_length] at hsz
      have hks : K ≤ s.size := by omega
      have Hv := Lib.hid hv
      have HvK : Hid (teOk chi psi mo (nb (t.extract 0 K)) = true) := by show _ = _; rw [nb_extract]; exact te_takeOk hv K
      have hxm : (t.extract 0 K).size ≤ maxLen := by rw [ByteArray.size_extract]; unfold maxLen; omega
      have hbd : Below v4.heap.size v4 v4.drew := (Below.refl _ _).drew
      have HMd := Lib.hid (HM4.out.next hbd)
      have HTd := Lib.hid (HT4.out.next hbd)
      have hBd := bthen hB4 hbd
      go_wp2_with fail
      go_region_law (first | (go_simp; go_at_call 15; refine (impl_TeleEncipher _ _ _ _ _ _ chi psi mo (t.extract 0 K) _ HMd.out hxm).mono ?_; rintro e u1 ⟨x, rfl, hx, hbu⟩))
      all_goals
        have hvk := HvK.out
        obtain rfl : s.extract 0 K = x := extract_nb (by rw [hx, nb_extract, Hs.out]; exact te_take Hv.out (by rw [nb_length]; exact hKN))
        clear q0 q1 q2 hx
        go_wp2_with fail
        go_ret
        exact ⟨rfl, bthen hBd hbu⟩
end Go.Proofs.Ytibjiadgmlpceaa
