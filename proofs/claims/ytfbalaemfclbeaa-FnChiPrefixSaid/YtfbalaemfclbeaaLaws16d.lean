/- The walks of the laws on machines. No condition. -/
import Derived.Test.YtfbalaemfclbeaaDrawT4
import Derived.Test.YtfbalaemfclbeaaPlainT
import Derived.BigQuiet
import Derived.Deep.QuietTactic
set_option linter.unusedVariables false
namespace Go.Proofs.Ytfbalaemfclbeaa
open Go.RowKit

theorem smallT {r : ByteArray} {l : List Nat} (h : nb r = l) (hl : l.length ≤ 1000) : r.size ≤ maxLen := by rw [← nb_length, h]; unfold maxLen; omega
theorem size_of {r : ByteArray} {l : List Nat} {n : Nat} (h : nb r = l) (hl : l.length = n) : r.size = n := by rw [← nb_length, h, hl]
theorem beq_len {a b : Nat} (h : a = b) : ((a : Int) == (b : Int)) = true := by rw [h]; simp
theorem extract_nb {s r : ByteArray} {k : Nat} (h : nb r = (nb s).take k) : s.extract 0 k = r := nb_inj (by rw [nb_extract, h]; rfl)
theorem byte_of {s : ByteArray} {l : List Nat} {k c : Nat} (h : nb s = l) (hc : l[k]? = some c) : ∃ hk : k < s.size, s[k].toNat = c := by
  subst h
  have hk : k < s.size := by rw [← nb_length]; exact (List.getElem?_eq_some_iff.1 hc).1
  refine ⟨hk, ?_⟩
  have := nb_get? s k hk
  rw [hc] at this
  injection this with this
  exact this.symm
set_option maxHeartbeats 4000000 in
theorem walk_FnKeySum (a0 : Option Addr) (len0 cap0 : Nat) (z0 : List Int) (w : World) (w0 : IsRow .u8 w a0 len0 cap0 z0) :
    Calls Try.prog 6 #[.slice a0 len0 cap0] w fun e w' => e = .returned (.bool true) ∧ Below w.heap.size w w' := by
  have hl := w0.len_le
  by_cases hbig : 1048576 < len0
  · clear w0
    go_enter Try.func6, Try.ntmps6
    go_wp2_with fail
    go_ret
    exact ⟨rfl, Below.refl _ _⟩
  · have W0 := Lib.hid w0
    clear w0
    go_enter Try.func6, Try.ntmps6
    go_wp2_with fail
    refine (spec_DrawTeleKey _ _ _ _ _ W0.out).mono ?_
    rintro e v1 ⟨A, n, c, B, m, d, mo, chi, psi, z, rfl, hM1, hb1⟩
    have hb2 := belA v1 (.cells #[.slice A n c, .slice B m d, .string mo] 25)
    have hT2 := tbox v1 A n c B m d mo
    have HT := Lib.hid hT2
    have hB2 := bthen hb1 hb2
    have HM := Lib.hid (hM1.mach.next hb2)
    clear hT2 hM1
    go_wp2_with fail
    refine (impl_TeleKey _ _ _ _ _ _ chi psi mo z _ HM.out).mono ?_
    rintro e v3 ⟨s, rfl, hs, hb3⟩
    have hB3 := bthen hB2 hb3
    have HT3 := Lib.hid (HT.out.next hb3)
    have HM3 := Lib.hid (HM.out.next hb3)
    have Hs := Lib.hid hs
    clear hs
    have q0 : v3.cell? ⟨v1.heap.size, 0, none⟩ = some (.slice A n c) := HT3.out.cell (j := 0) rfl
    have q1 : v3.cell? ⟨v1.heap.size, 1, none⟩ = some (.slice B m d) := HT3.out.cell (j := 1) rfl
    have q2 : v3.cell? ⟨v1.heap.size, 2, none⟩ = some (.string mo) := HT3.out.cell (j := 2) rfl
    go_wp2_with fail
    refine (spec_TeleKey _ _ _ _ _ _ chi psi mo z _ HM3.out).mono ?_
    rintro e v4 ⟨s2, rfl, hs2, hb4⟩
    have hB4 := bthen hB3 hb4
    have HT4 := Lib.hid (HT3.out.next hb4)
    have HM4 := Lib.hid (HM3.out.next hb4)
    obtain rfl : s = s2 := nb_inj (by rw [Hs.out, hs2])
    clear hs2
    clear q0 q1 q2
    have q0 : v4.cell? ⟨v1.heap.size, 0, none⟩ = some (.slice A n c) := HT4.out.cell (j := 0) rfl
    have q1 : v4.cell? ⟨v1.heap.size, 1, none⟩ = some (.slice B m d) := HT4.out.cell (j := 1) rfl
    have q2 : v4.cell? ⟨v1.heap.size, 2, none⟩ = some (.string mo) := HT4.out.cell (j := 2) rfl
    cases hv : tfit chi psi mo z
    · go_wp2_with fail
      go_ret
      exact ⟨rfl, hB4⟩
    · obtain ⟨hc3, hp3, hmo, N, rfl, hN⟩ := tfit_yes hv
      have Hsz := Lib.hid (size_of Hs.out (tk_lenE hv))
      have hsz := Hsz.out
      have Hc3 := Lib.hid hc3
      have Hp3 := Lib.hid hp3
      have Hv := Lib.hid hv
      clear hc3 hp3 hmo
      go_wp2_with fail
      refine (impl_ChiTape _ _ _ _ _ _ chi psi mo (N : Int) _ HM4.out).mono ?_
      rintro e v5 ⟨x, rfl, hx, hb5⟩
      have hB5 := bthen hB4 hb5
      have HT5 := Lib.hid (HT4.out.next hb5)
      have HM5 := Lib.hid (HM4.out.next hb5)
      have Hx := Lib.hid (hx.trans (ct_of Hv.out))
      clear hx
      clear q0 q1 q2
      have q0 : v5.cell? ⟨v1.heap.size, 0, none⟩ = some (.slice A n c) := HT5.out.cell (j := 0) rfl
      have q1 : v5.cell? ⟨v1.heap.size, 1, none⟩ = some (.slice B m d) := HT5.out.cell (j := 1) rfl
      have q2 : v5.cell? ⟨v1.heap.size, 2, none⟩ = some (.string mo) := HT5.out.cell (j := 2) rfl
      go_wp2_with fail
      refine (impl_PsiTape _ _ _ _ _ _ chi psi mo (N : Int) _ HM5.out).mono ?_
      rintro e v6 ⟨y, rfl, hy, hb6⟩
      have hB6 := bthen hB5 hb6
      have HT6 := Lib.hid (HT5.out.next hb6)
      have HM6 := Lib.hid (HM5.out.next hb6)
      have Hy := Lib.hid (hy.trans (pt_of Hv.out))
      clear hy
      clear q0 q1 q2
      go_wp2_with fail
      refine (laws_rcXor x y _ (smallT Hx.out (by rw [chiL_len]; omega)) (smallT Hy.out (by rw [psiL_len]; omega))).mono ?_
      rintro e u1 ⟨r, rfl, hr, hbu⟩
      obtain rfl : s = r := nb_inj (by rw [Hs.out, hr, Hx.out, Hy.out, xt_of (tv_chi Hc3.out hN) (tv_psi Hp3.out mo hN) (by rw [chiL_len, psiL_len]), tk_of Hv.out])
      clear hr
      go_wp2_with fail
      go_ret
      exact ⟨rfl, bthen hB6 hbu⟩
set_option maxHeartbeats 4000000 in
theorem walk_FnChiPrefix (a0 : Option Addr) (len0 cap0 : Nat) (z0 : List Int) (a1 : Option Addr) (len1 cap1 : Nat) (z1 : List Int) (w : World) (w0 : IsRow .u8 w a0 len0 cap0 z0) (w1 : IsRow .u8 w a1 len1 cap1 z1) :
    Calls Try.prog 5 #[.slice a0 len0 cap0, .slice a1 len1 cap1] w fun e w' => e = .returned (.bool true) ∧ Below w.heap.size w w' := by
  have hl := w0.len_le
  have hl1 := w1.len_le
  by_cases hbig : 1048576 < len0
  · clear w0 w1
    go_enter Try.func5, Try.ntmps5
    go_wp2_with fail
    go_ret
    exact ⟨rfl, Below.refl _ _⟩
  by_cases hbig1 : 1048576 < len1
  · clear w0 w1
    go_enter Try.func5, Try.ntmps5
    go_wp2_with fail
    go_ret
    exact ⟨rfl, Below.refl _ _⟩
  · have W0 := Lib.hid w0
    have W1 := Lib.hid w1
    clear w0 w1
    go_enter Try.func5, Try.ntmps5
    go_wp2_with fail
    refine (spec_DrawChiTape _ _ _ _ _ W0.out).mono ?_
    rintro e v1 ⟨A, n, c, B, m, d, mo, chi, psi, z, rfl, hM1, hb1⟩
    have hb2 := belA v1 (.cells #[.slice A n c, .slice B m d, .string mo] 25)
    have hT2 := tbox v1 A n c B m d mo
    have HT := Lib.hid hT2
    have hB2 := bthen hb1 hb2
    have HM := Lib.hid (hM1.mach.next hb2)
    clear hT2 hM1
    go_wp2_with fail
    refine (impl_ChiTape _ _ _ _ _ _ chi psi mo z _ HM.out).mono ?_
    rintro e v3 ⟨s, rfl, hs, hb3⟩
    have hB3 := bthen hB2 hb3
    have HT3 := Lib.hid (HT.out.next hb3)
    have HM3 := Lib.hid (HM.out.next hb3)
    have Hs := Lib.hid hs
    clear hs
    have q0 : v3.cell? ⟨v1.heap.size, 0, none⟩ = some (.slice A n c) := HT3.out.cell (j := 0) rfl
    have q1 : v3.cell? ⟨v1.heap.size, 1, none⟩ = some (.slice B m d) := HT3.out.cell (j := 1) rfl
    have q2 : v3.cell? ⟨v1.heap.size, 2, none⟩ = some (.string mo) := HT3.out.cell (j := 2) rfl
    go_wp2_with fail
    refine (spec_ChiTape _ _ _ _ _ _ chi psi mo z _ HM3.out).mono ?_
    rintro e v4 ⟨s2, rfl, hs2, hb4⟩
    have hB4 := bthen hB3 hb4
    have HT4 := Lib.hid (HT3.out.next hb4)
    have HM4 := Lib.hid (HM3.out.next hb4)
    obtain rfl : s = s2 := nb_inj (by rw [Hs.out, hs2])
    clear hs2
    clear q0 q1 q2
    have q0 : v4.cell? ⟨v1.heap.size, 0, none⟩ = some (.slice A n c) := HT4.out.cell (j := 0) rfl
    have q1 : v4.cell? ⟨v1.heap.size, 1, none⟩ = some (.slice B m d) := HT4.out.cell (j := 1) rfl
    have q2 : v4.cell? ⟨v1.heap.size, 2, none⟩ = some (.string mo) := HT4.out.cell (j := 2) rfl
    cases hv : tfit chi psi mo z
    · go_wp2_with fail
      go_ret
      exact ⟨rfl, hB4⟩
    · obtain ⟨hc3, hp3, hmo, N, rfl, hN⟩ := tfit_yes hv
      have hK : (len1 : Int).tmod ((N : Int) + 1) = ((len1 % (N + 1) : Nat) : Int) := by rw [Int.tmod_eq_emod_of_nonneg (by omega)]; rfl
      have hKN : len1 % (N + 1) ≤ N := Nat.le_of_lt_succ (Nat.mod_lt _ (Nat.succ_pos _))
      generalize len1 % (N + 1) = K at hK hKN
      have hvK := tfit_less hv hKN
      have Hsz := Lib.hid (size_of Hs.out (by rw [ct_of hv, chiL_len]))
      have hsz := Hsz.out
      have Hv := Lib.hid hv
      have HvK := Lib.hid hvK
      have hkk : K ≤ s.size := by omega
      clear hc3 hp3 hmo
      go_wp2_with fail
      refine (impl_ChiTape _ _ _ _ _ _ chi psi mo (K : Int) _ HM4.out).mono ?_
      rintro e v5 ⟨xa, rfl, hx, hb5⟩
      have hB5 := bthen hB4 hb5
      have HT5 := Lib.hid (HT4.out.next hb5)
      have HM5 := Lib.hid (HM4.out.next hb5)
      have Hxa : Hid (s.extract 0 K = xa) := extract_nb (by rw [hx, Hs.out, ct_of HvK.out, ct_of Hv.out, chi_take _ hKN])
      clear hx
      clear q0 q1 q2
      have q0 : v5.cell? ⟨v1.heap.size, 0, none⟩ = some (.slice A n c) := HT5.out.cell (j := 0) rfl
      have q1 : v5.cell? ⟨v1.heap.size, 1, none⟩ = some (.slice B m d) := HT5.out.cell (j := 1) rfl
      have q2 : v5.cell? ⟨v1.heap.size, 2, none⟩ = some (.string mo) := HT5.out.cell (j := 2) rfl
      go_wp2_with fail
      refine (impl_PsiTape _ _ _ _ _ _ chi psi mo (K : Int) _ HM5.out).mono ?_
      rintro e v6 ⟨xb, rfl, hx, hb6⟩
      have hB6 := bthen hB5 hb6
      have HT6 := Lib.hid (HT5.out.next hb6)
      have HM6 := Lib.hid (HM5.out.next hb6)
      have Hxb := Lib.hid hx
      clear hx
      clear q0 q1 q2
      have q0 : v6.cell? ⟨v1.heap.size, 0, none⟩ = some (.slice A n c) := HT6.out.cell (j := 0) rfl
      have q1 : v6.cell? ⟨v1.heap.size, 1, none⟩ = some (.slice B m d) := HT6.out.cell (j := 1) rfl
      have q2 : v6.cell? ⟨v1.heap.size, 2, none⟩ = some (.string mo) := HT6.out.cell (j := 2) rfl
      go_wp2_with fail
      refine (impl_TeleKey _ _ _ _ _ _ chi psi mo (K : Int) _ HM6.out).mono ?_
      rintro e v7 ⟨xc, rfl, hx, hb7⟩
      have hB7 := bthen hB6 hb7
      have HT7 := Lib.hid (HT6.out.next hb7)
      have HM7 := Lib.hid (HM6.out.next hb7)
      have Hxc := Lib.hid hx
      clear hx
      clear q0 q1 q2
      have q0 : v7.cell? ⟨v1.heap.size, 0, none⟩ = some (.slice A n c) := HT7.out.cell (j := 0) rfl
      have q1 : v7.cell? ⟨v1.heap.size, 1, none⟩ = some (.slice B m d) := HT7.out.cell (j := 1) rfl
      have q2 : v7.cell? ⟨v1.heap.size, 2, none⟩ = some (.string mo) := HT7.out.cell (j := 2) rfl
      go_wp2_with fail
      refine (impl_PsiTape _ _ _ _ _ _ chi psi mo (N : Int) _ HM7.out).mono ?_
      rintro e v8 ⟨yb, rfl, hy, hb8⟩
      have hB8 := bthen hB7 hb8
      have HT8 := Lib.hid (HT7.out.next hb8)
      have HM8 := Lib.hid (HM7.out.next hb8)
      have Hyb : Hid (yb.extract 0 K = xb) := extract_nb (by rw [hy, Hxb.out, pt_of HvK.out, pt_of Hv.out, psi_take _ _ hKN])
      have hyb := size_of hy (by rw [pt_of Hv.out, psiL_len])
      clear hy
      clear q0 q1 q2
      have q0 : v8.cell? ⟨v1.heap.size, 0, none⟩ = some (.slice A n c) := HT8.out.cell (j := 0) rfl
      have q1 : v8.cell? ⟨v1.heap.size, 1, none⟩ = some (.slice B m d) := HT8.out.cell (j := 1) rfl
      have q2 : v8.cell? ⟨v1.heap.size, 2, none⟩ = some (.string mo) := HT8.out.cell (j := 2) rfl
      go_wp2_with fail
      refine (impl_TeleKey _ _ _ _ _ _ chi psi mo (N : Int) _ HM8.out).mono ?_
      rintro e v9 ⟨yc, rfl, hy, hb9⟩
      have hB9 := bthen hB8 hb9
      have HT9 := Lib.hid (HT8.out.next hb9)
      have HM9 := Lib.hid (HM8.out.next hb9)
      have Hyc : Hid (yc.extract 0 K = xc) := extract_nb (by rw [hy, Hxc.out, tk_take Hv.out hKN])
      have hyc := size_of hy (tk_lenE Hv.out)
      clear hy
      clear q0 q1 q2
      have e1 := Hxa.out
      have e2 := Hyb.out
      have e3 := Hyc.out
      have k2 : K ≤ yb.size := by omega
      have k3 : K ≤ yc.size := by omega
      clear hsz hyb hyc
      go_wp2_with fail
      go_ret
      exact ⟨rfl, hB9⟩
end Go.Proofs.Ytfbalaemfclbeaa
