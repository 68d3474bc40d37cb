/- The walks of the laws on machines that hold a loop. No condition. -/
import Derived.Test.YtfbalaemfclbeaaDrawT4
import Derived.Test.YtfbalaemfclbeaaPlainT
import Derived.BigQuiet
import Derived.Deep.QuietTactic
set_option linter.unusedVariables false
namespace Go.Proofs.Ytfbalaemfclbeaa
open Go.RowKit

theorem smallT {r : ByteArray} {l : List Nat} (h : nb r = l) (hl : l.length ≤ 1000) : r.size ≤ maxLen := by rw [← nb_length, h]; unfold maxLen; omega
theorem size_of {r : ByteArray} {l : List Nat} {n : Nat} (h : nb r = l) (hl : l.length = n) : r.size = n := by rw [← nb_length, h, hl]
theorem beq_len {a b : Nat} (h : a = b) : ((a : Int) == (b : Int)) = true := by rw [h]; simp
theorem extract_nb {s r : ByteArray} {k : Nat} (h : nb r = (nb s).take k) : s.extract 0 k = r := nb_inj (by rw [nb_extract, h]; rfl)
theorem byte_of {s : ByteArray} {l : List Nat} {k c : Nat} (h : nb s = l) (hc : l[k]? = some c) : ∃ hk : k < s.size, s[k].toNat = c := by
  subst h
  have hk : k < s.size := by rw [← nb_length]; exact (List.getElem?_eq_some_iff.1 hc).1
  refine ⟨hk, ?_⟩
  have := nb_get? s k hk
  rw [hc] at this
  injection this with this
  exact this.symm
theorem ms_at {mo : ByteArray} {n k : Nat} {y : Int} (h : (stopsL mo n)[k]? = some y) : ∃ j : Nat, y = (j : Int) ∧ j < n ∧ bitAt mo j = 0 := stops_mem (List.mem_of_getElem? h)
theorem u8ne (x : Nat) : ((x : Int) != (x : Int)) = false := by simp
theorem wrap_succ {j : Nat} (h : j ≤ 1000) : IntKind.i64.wrap ((j : Int) + 1) = (j : Int) + 1 := IntWalk.i64_in _ (by omega)
set_option maxHeartbeats 4000000 in
theorem walk_FnPsiStops (a0 : Option Addr) (len0 cap0 : Nat) (z0 : List Int) (w : World) (w0 : IsRow .u8 w a0 len0 cap0 z0) :
    Calls Try.prog 4 #[.slice a0 len0 cap0] w fun e w' => e = .returned (.bool true) ∧ Below w.heap.size w w' := by
  have hl := w0.len_le
  by_cases hbig : 1048576 < len0
  · clear w0
    go_enter Try.func4, Try.ntmps4
    go_wp2_with fail
    go_ret
    exact ⟨rfl, Below.refl _ _⟩
  · have W0 := Lib.hid w0
    clear w0
    go_enter Try.func4, Try.ntmps4
    go_wp2_with fail
    refine (spec_DrawPsiTape _ _ _ _ _ W0.out).mono ?_
    rintro e v1 ⟨A, n, c, B, m, d, mo, chi, psi, z, rfl, hM1, hb1⟩
    have hb2 := belA v1 (.cells #[.slice A n c, .slice B m d, .string mo] 25)
    have hT2 := tbox v1 A n c B m d mo
    have HT := Lib.hid hT2
    have hB2 := bthen hb1 hb2
    have HM := Lib.hid (hM1.mach.next hb2)
    clear hT2 hM1
    go_wp2_with fail
    refine (impl_PsiTape _ _ _ _ _ _ chi psi mo z _ HM.out).mono ?_
    rintro e v3 ⟨s, rfl, hs, hb3⟩
    have hB3 := bthen hB2 hb3
    have HT3 := Lib.hid (HT.out.next hb3)
    have HM3 := Lib.hid (HM.out.next hb3)
    have Hs := Lib.hid hs
    clear hs
    have q0 : v3.cell? ⟨v1.heap.size, 0, none⟩ = some (.slice A n c) := HT3.out.cell (j := 0) rfl
    have q1 : v3.cell? ⟨v1.heap.size, 1, none⟩ = some (.slice B m d) := HT3.out.cell (j := 1) rfl
    have q2 : v3.cell? ⟨v1.heap.size, 2, none⟩ = some (.string mo) := HT3.out.cell (j := 2) rfl
    go_wp2_with fail
    refine (spec_PsiTape _ _ _ _ _ _ chi psi mo z _ HM3.out).mono ?_
    rintro e v4 ⟨s2, rfl, hs2, hb4⟩
    have hB4 := bthen hB3 hb4
    have HT4 := Lib.hid (HT3.out.next hb4)
    have HM4 := Lib.hid (HM3.out.next hb4)
    obtain rfl : s = s2 := nb_inj (by rw [Hs.out, hs2])
    clear hs2
    clear q0 q1 q2
    have q0 : v4.cell? ⟨v1.heap.size, 0, none⟩ = some (.slice A n c) := HT4.out.cell (j := 0) rfl
    have q1 : v4.cell? ⟨v1.heap.size, 1, none⟩ = some (.slice B m d) := HT4.out.cell (j := 1) rfl
    have q2 : v4.cell? ⟨v1.heap.size, 2, none⟩ = some (.string mo) := HT4.out.cell (j := 2) rfl
    cases hv : tfit chi psi mo z
    · go_wp2_with fail
      go_ret
      exact ⟨rfl, hB4⟩
    · obtain ⟨hc3, hp3, hmo, N, rfl, hN⟩ := tfit_yes hv
      have hsz := size_of Hs.out (by rw [pt_of hv, psiL_len])
      have Hv := Lib.hid hv
      have HS := Lib.hid (Hs.out.trans (pt_of hv))
      clear hc3 hp3 hmo
      go_wp2_with fail
      refine (impl_MotorStops _ _ _ _ _ _ chi psi mo (N : Int) _ HM4.out).mono ?_
      rintro e v5 ⟨L, nl, cl, rfl, hll, hol, hb5⟩
      have hB5 := bthen hB4 hb5
      have HT5 := Lib.hid (HT4.out.next hb5)
      have HM5 := Lib.hid (HM4.out.next hb5)
      rw [ms_of Hv.out] at hll hol
      have hln : nl ≤ 200 := by have := stopsL_len mo (N - 1); omega
      have Hl := Lib.hid hll
      have HL := Lib.hid hol.ints
      clear hll hol q0 q1 q2
      go_wp2_with fail
      go_loopw [10] (fun i wr => ∃ k : Nat, k ≤ nl ∧ i = .int .i64 k ∧ Below v5.heap.size v5 wr) (fun i _ => nl - (intOf i).toNat)
      case atStart => exact ⟨0, Nat.zero_le _, rfl, Below.refl _ _⟩
      case round =>
        obtain ⟨k, hk, rfl, hbe⟩ := hrel
        by_cases hlt : k < nl
        · obtain ⟨y, hy⟩ := get_some (stopsL mo (N - 1)) k (by rw [Hl.out]; exact hlt)
          obtain ⟨j, rfl, hj, hbit⟩ := ms_at hy
          obtain ⟨b, off, rfl, hbl, hc⟩ := (HL.out.next hbe).at_ hy
          have e1 := psiL_at psi mo N j (by omega)
          have e2 := psiL_at psi mo N (j + 1) (by omega)
          rw [steps_stop hbit] at e2
          obtain ⟨hk1, hb1⟩ := byte_of HS.out e1
          obtain ⟨hk2, hb2⟩ := byte_of HS.out e2
          have hj1 : (j : Int) < (s.size : Int) := by omega
          have hj2 : (j : Int) + 1 < (s.size : Int) := by omega
          have hw := wrap_succ (j := j) (by omega)
          have Hy := Lib.hid hy
          clear hy e1 e2 hbit
          generalize l3 psi (steps mo j) = x at hb1 hb2
          go_wp2_with fail
          go_quiet (fail)
          go_wp2
          go_roundw
          case rel => exact ⟨k + 1, by omega, by go_num, bel_drewN hbe _⟩
          case measure => simp [intOf]; omega
        · go_wp2_with fail
          go_ret
          exact ⟨rfl, bthen hB5 hbe⟩
set_option maxHeartbeats 4000000 in
theorem walk_FnPsiMoves (a0 : Option Addr) (len0 cap0 : Nat) (z0 : List Int) (w : World) (w0 : IsRow .u8 w a0 len0 cap0 z0) :
    Calls Try.prog 3 #[.slice a0 len0 cap0] w fun e w' => e = .returned (.bool true) ∧ Below w.heap.size w w' := by
  have hl := w0.len_le
  by_cases hbig : 1048576 < len0
  · clear w0
    go_enter Try.func3, Try.ntmps3
    go_wp2_with fail
    go_ret
    exact ⟨rfl, Below.refl _ _⟩
  · have W0 := Lib.hid w0
    clear w0
    go_enter Try.func3, Try.ntmps3
    go_wp2_with fail
    refine (spec_DrawPsiTape _ _ _ _ _ W0.out).mono ?_
    rintro e v1 ⟨A, n, c, B, m, d, mo, chi, psi, z, rfl, hM1, hb1⟩
    have hb2 := belA v1 (.cells #[.slice A n c, .slice B m d, .string mo] 25)
    have hT2 := tbox v1 A n c B m d mo
    have HT := Lib.hid hT2
    have hB2 := bthen hb1 hb2
    have HM := Lib.hid (hM1.mach.next hb2)
    clear hT2 hM1
    go_wp2_with fail
    refine (impl_PsiTape _ _ _ _ _ _ chi psi mo z _ HM.out).mono ?_
    rintro e v3 ⟨s, rfl, hs, hb3⟩
    have hB3 := bthen hB2 hb3
    have HT3 := Lib.hid (HT.out.next hb3)
    have HM3 := Lib.hid (HM.out.next hb3)
    have Hs := Lib.hid hs
    clear hs
    have q0 : v3.cell? ⟨v1.heap.size, 0, none⟩ = some (.slice A n c) := HT3.out.cell (j := 0) rfl
    have q1 : v3.cell? ⟨v1.heap.size, 1, none⟩ = some (.slice B m d) := HT3.out.cell (j := 1) rfl
    have q2 : v3.cell? ⟨v1.heap.size, 2, none⟩ = some (.string mo) := HT3.out.cell (j := 2) rfl
    go_wp2_with fail
    refine (spec_PsiTape _ _ _ _ _ _ chi psi mo z _ HM3.out).mono ?_
    rintro e v4 ⟨s2, rfl, hs2, hb4⟩
    have hB4 := bthen hB3 hb4
    have HT4 := Lib.hid (HT3.out.next hb4)
    have HM4 := Lib.hid (HM3.out.next hb4)
    obtain rfl : s = s2 := nb_inj (by rw [Hs.out, hs2])
    clear hs2
    clear q0 q1 q2
    have q0 : v4.cell? ⟨v1.heap.size, 0, none⟩ = some (.slice A n c) := HT4.out.cell (j := 0) rfl
    have q1 : v4.cell? ⟨v1.heap.size, 1, none⟩ = some (.slice B m d) := HT4.out.cell (j := 1) rfl
    have q2 : v4.cell? ⟨v1.heap.size, 2, none⟩ = some (.string mo) := HT4.out.cell (j := 2) rfl
    cases hv : tfit chi psi mo z
    · go_wp2_with fail
      go_ret
      exact ⟨rfl, hB4⟩
    · obtain ⟨hc3, hp3, hmo, N, rfl, hN⟩ := tfit_yes hv
      have hsz := size_of Hs.out (by rw [pt_of hv, psiL_len])
      have hf := tfit_mk hp3 hp3 hmo hN
      have HF := Lib.hid hf
      have HS := Lib.hid (Hs.out.trans (pt_of hv))
      have Hmo := Lib.hid hmo
      clear hc3 hp3 hmo hf
      go_wp2_with fail
      refine (impl_ChiTape _ _ _ _ _ _ psi psi mo (N : Int) _ ⟨HM4.out.sp, HM4.out.sp, HM4.out.lp, HM4.out.lp, HM4.out.bm, HM4.out.bm, HM4.out.mp, HM4.out.mp, HM4.out.mm⟩).mono ?_
      rintro e v5 ⟨fr, rfl, hfr, hb5⟩
      have hB5 := bthen hB4 hb5
      have HT5 := Lib.hid (HT4.out.next hb5)
      have HM5 := Lib.hid (HM4.out.next hb5)
      have hf := HF.out
      have HFr := Lib.hid (hfr.trans (ct_of HF.out))
      have hfz := size_of HFr.out (chiL_len psi N)
      clear hfr q0 q1 q2
      go_wp2_with fail
      go_loopw [11, 12] (fun st i wr => ∃ k : Nat, k ≤ N ∧ i = .int .i64 k ∧ st = .int .i64 (steps mo k : Int) ∧ Below v5.heap.size v5 wr) (fun _ i _ => N - (intOf i).toNat)
      case atStart => exact ⟨0, Nat.zero_le _, rfl, rfl, Below.refl _ _⟩
      case round =>
        obtain ⟨k, hk, rfl, rfl, hbe⟩ := hrel
        by_cases hlt : k < N
        · have hst := steps_le Hmo.out k
          have e1 := psiL_at psi mo N k hlt
          have e2 := chiL_at psi N (steps mo k) (by omega)
          obtain ⟨hk1, hb1⟩ := byte_of HS.out e1
          obtain ⟨hk2, hb2⟩ := byte_of HFr.out e2
          have hj1 : (k : Int) < (s.size : Int) := by omega
          have hj2 : (steps mo k : Int) < (fr.size : Int) := by omega
          obtain ⟨hkm, hvm, hm1⟩ := bitAt_spec Hmo.out k
          have hlm := wheel_len Hmo.out
          rw [nb_length] at hlm
          obtain ⟨hl1, hl2⟩ := hlm
          have hm : (k : Int).tmod (mo.size : Int) = ((k % mo.size : Nat) : Int) := by rw [Int.tmod_eq_emod_of_nonneg (by omega)]; rfl
          generalize k % mo.size = km at hkm hvm hm
          have hkm2 : (km : Int) < (mo.size : Int) := by omega
          have q2 : wr.cell? ⟨v1.heap.size, 2, none⟩ = some (.string mo) := (HT5.out.next hbe).cell (j := 2) rfl
          clear e1 e2
          generalize l3 psi (steps mo k) = x at hb1 hb2
          rcases le1 hm1 with hbit | hbit
          · have hvb : mo[km].toNat = 48 := by omega
            have Hst : Hid (steps mo (k + 1) = steps mo k) := steps_stop hbit
            clear hbit hvm hm1
            go_wp2_with fail
            go_quiet (fail)
            go_wp2_with fail
            go_quiet (fail)
            go_wp2
            go_roundw
            case rel => exact ⟨k + 1, by omega, by go_num, by rw [Hst.out], bel_drewN hbe _⟩
            case measure => simp [intOf]; omega
          · have hvb : mo[km].toNat = 49 := by omega
            have Hst : Hid (steps mo (k + 1) = steps mo k + 1) := by show steps mo k + bitAt mo k = _; rw [hbit]
            clear hbit hvm hm1
            go_wp2_with fail
            go_quiet (fail)
            go_wp2_with fail
            go_quiet (fail)
            go_wp2
            go_roundw
            case rel => exact ⟨k + 1, by omega, by go_num, by rw [Hst.out]; go_num, bel_drewN hbe _⟩
            case measure => simp [intOf]; omega
        · go_wp2_with fail
          go_ret
          exact ⟨rfl, bthen hB5 hbe⟩
end Go.Proofs.Ytfbalaemfclbeaa
