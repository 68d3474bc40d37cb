/- The tapes of the second wheels: both programs return what the plain functions say. No condition. -/
import Derived.Test.YtibjiadgmlpceaaTele3
set_option linter.unusedVariables false
namespace Go.Proofs.Ytibjiadgmlpceaa
open Go.RowKit

theorem own_next {w w' : World} {B n : Nat} {v : Value} {xs : List Value} (h : w.ownsRow B 5 1 v n xs) (hb : Below w.heap.size w w') : w'.ownsRow B 5 1 v n xs := by
  obtain ⟨hl, h⟩ := h
  refine ⟨hl, ?_⟩
  rcases h with h | ⟨g, cap, cur, hv, hB, hh, r⟩
  · exact .inl h
  · have hlt : g < w.heap.size := by
      rcases Nat.lt_or_ge g w.heap.size with h1 | h1
      · exact h1
      · rw [Array.getElem?_eq_none h1] at hh; cases hh
    exact .inr ⟨g, cap, cur, hv, hB, (hb.block g hlt).trans hh, r⟩
set_option maxHeartbeats 1000000 in
theorem impl_PsiTape (A B : Option Addr) (n c m d : Nat) (chi psi : List ByteArray) (mo : ByteArray) (z : Int) (w : World) (h : Mach w A n B m chi psi mo) :
    Calls Try.prog 21 #[.agg #[.slice A n c, .slice B m d, .string mo], .int .i64 z] w (RetSB w (pt chi psi mo z) (tfit chi psi mo z)) := by
  have H := Lib.hid (h.next (belA w (.cells #[.slice A n c, .slice B m d, .string mo] 25)))
  have HB := Lib.hid (belA w (.cells #[.slice A n c, .slice B m d, .string mo] 25))
  have hln := h.lp
  clear h
  cases hv : tfit chi psi mo z
  · have hr : pt chi psi mo z = [] := by rw [pt, hv]; rfl
    rw [hr]
    clear hr
    go_enter Try.func21, Try.ntmps21
    go_wp2_with fail
    refine (impl_teleLength _ _ _ _ _ _ _ _ _ _ _ H.out).mono ?_
    rintro e v1 ⟨rfl, hb1⟩
    go_wp2_with fail
    go_ret2
    exact ⟨ByteArray.empty, rfl, rfl, bthen HB.out hb1⟩
  · obtain ⟨hc3, hp3, hmo, N, rfl, hN⟩ := tfit_yes hv
    have hr : pt chi psi mo (N : Int) = psiL psi mo N := by rw [pt, hv]; rfl
    rw [hr]
    clear hr
    obtain ⟨x, y, z, rfl, hx, hy, hz⟩ := wheels3_yes hp3
    have hn3 : m = 3 := hln.symm
    subst hn3
    have HX := Lib.hid hx
    have HY := Lib.hid hy
    have HZ := Lib.hid hz
    have HM := Lib.hid hmo
    have HC := Lib.hid hp3
    have hT := tbox w A n c B 3 d mo
    clear hx hy hz hc3 hp3 hmo hln
    go_enter Try.func21, Try.ntmps21
    go_wp2_with fail
    refine (impl_teleLength _ _ _ _ _ _ _ _ _ _ _ H.out).mono ?_
    rintro e v1 ⟨rfl, hb1⟩
    have hB1 := bthen HB.out hb1
    have hT1 := hT.next hb1
    have hM1 := H.out.next hb1
    have hS1 := hM1.sp
    clear hT hM1
    obtain ⟨w1, hmk, hrow, hbel, hsz⟩ := make_roomB N (by omega) v1
    go_wp2_with fail
    go_loopw [6, 7, 16] (fun o st i wr => ∃ k : Nat, k ≤ N ∧ i = .int .i64 k ∧ st = .int .i64 (steps mo k : Int) ∧ o ≠ .slice none 0 0 ∧ wr.ownsRow v1.heap.size 5 1 o k (bcells ((psiL [x, y, z] mo N).take k)) ∧ Below v1.heap.size v1 wr) (fun _ _ i _ => N - (intOf i).toNat)
    case atStart => exact ⟨0, Nat.zero_le _, rfl, rfl, (fun e => by cases e), hrow, hbel⟩
    case round =>
      obtain ⟨k, hk, rfl, rfl, hnn, hrk, hbe⟩ := hrel
      clear hmk hrow hbel hsz
      have hB2 := bthen hB1 hbe
      by_cases hlt : k < N
      · have hS2 := hS1.next hbe
        have hT2 := hT1.next hbe
        have hc0 : wr.cell? ⟨w.heap.size, 1, none⟩ = some (.slice B 3 d) := hT2.cell (j := 1) rfl
        have hst := steps_le HM.out k
        have Hj := Lib.hid (take_snoc _ _ _ (psiL_at [x, y, z] mo N k hlt))
        have Hrk := Lib.hid hrk
        have hgl : w.heap.size < v1.heap.size := hT1.lt
        have HT1 := Lib.hid hT1
        clear hrk hT1 hnn
        go_wp2_with fail
        refine (impl_bitsAt _ _ x y z (steps mo k) _ hS2 HX.out HY.out HZ.out (by omega)).mono ?_
        rintro e v2 ⟨rfl, rfl⟩
        go_wp2_with (first | (at_builtin; go_must (refine wpList_append_u8 wr rfl _ _ rfl v1.heap.size _ k _ (let3 x y z (steps mo k)) Hrk.out rfl rfl (by omega) hbe.size ?_); intro v' w1 hown' hbel'; have Ho := Lib.hid hown'; clear hown'; have hT3 := hT2.below hbel' hgl; have q0 : w1.cell? ⟨w.heap.size, 0, none⟩ = some (.slice A n c) := hT3.cell (j := 0) rfl; have q1 : w1.cell? ⟨w.heap.size, 1, none⟩ = some (.slice B 3 d) := hT3.cell (j := 1) rfl; have q2 : w1.cell? ⟨w.heap.size, 2, none⟩ = some (.string mo) := hT3.cell (j := 2) rfl; have HT3 := Lib.hid hT3; clear hT3) | fail)
        refine (impl_motorMoves _ _ _ _ _ _ mo k _ HM.out (by omega)).mono ?_
        rintro e v3 ⟨rfl, hb3⟩
        have hb3' := hb3.mono (Nat.le_trans hbe.size hbel'.size)
        have Ho3 := Lib.hid (own_next Ho.out hb3)
        rcases le1 (bitAt_le HM.out k) with hbit | hbit
        · have hq : (bitAt mo k == 1) = false := by rw [hbit]; rfl
          have Hst : Hid (steps mo (k + 1) = steps mo k) := by show steps mo k + bitAt mo k = _; rw [hbit]; rfl
          clear hbit
          go_wp2
          go_roundw
          case rel => exact ⟨k + 1, by omega, by go_num, by rw [Hst.out], brow_some Ho3.out, by rw [Hj.out]; exact Ho3.out, (hbe.trans hbel').trans hb3'⟩
          case measure => simp [intOf]; omega
        · have hq : (bitAt mo k == 1) = true := by rw [hbit]; rfl
          have Hst : Hid (steps mo (k + 1) = steps mo k + 1) := by show steps mo k + bitAt mo k = _; rw [hbit]
          clear hbit
          go_wp2
          go_roundw
          case rel => exact ⟨k + 1, by omega, by go_num, by rw [Hst.out]; go_num, brow_some Ho3.out, by rw [Hj.out]; exact Ho3.out, (hbe.trans hbel').trans hb3'⟩
          case measure => simp [intOf]; omega
      · have hkn : k = N := by omega
        rw [hkn, List.take_of_length_le (by rw [psiL_len]; exact Nat.le_refl _)] at hrk
        obtain ⟨g, cp, rfl, hlen, hbuf⟩ := brow_buf hrk hnn
        obtain ⟨r, hr, hrun⟩ := of_bytes wr g N cp (psiL [x, y, z] mo N) hbuf hlen (psiL_lt HC.out mo N)
        have Hr := Lib.hid hr
        clear hr hrk hnn
        go_wp2
        go_ret2
        exact ⟨r, rfl, Hr.out, hB2⟩
set_option maxHeartbeats 1000000 in
theorem spec_PsiTape (A B : Option Addr) (n c m d : Nat) (chi psi : List ByteArray) (mo : ByteArray) (z : Int) (w : World) (h : Mach w A n B m chi psi mo) :
    Calls Try.prog 24 #[.agg #[.slice A n c, .slice B m d, .string mo], .int .i64 z] w (RetSB w (pt chi psi mo z) (tfit chi psi mo z)) := by
  have H := Lib.hid (h.next (belA w (.cells #[.slice A n c, .slice B m d, .string mo] 25)))
  have HB := Lib.hid (belA w (.cells #[.slice A n c, .slice B m d, .string mo] 25))
  have hln := h.lp
  clear h
  cases hv : tfit chi psi mo z
  · have hr : pt chi psi mo z = [] := by rw [pt, hv]; rfl
    rw [hr]
    clear hr
    go_enter Try.func24, Try.ntmps24
    go_wp2_with fail
    refine (spec_l16Fits _ _ _ _ _ _ _ _ _ _ _ H.out).mono ?_
    rintro e v1 ⟨rfl, hb1⟩
    go_wp2_with fail
    go_ret2
    exact ⟨ByteArray.empty, rfl, rfl, bthen HB.out hb1⟩
  · obtain ⟨hc3, hp3, hmo, N, rfl, hN⟩ := tfit_yes hv
    have hr : pt chi psi mo (N : Int) = psiL psi mo N := by rw [pt, hv]; rfl
    rw [hr]
    clear hr
    obtain ⟨x, y, z, rfl, hx, hy, hz⟩ := wheels3_yes hp3
    have hn3 : m = 3 := hln.symm
    subst hn3
    have HX := Lib.hid hx
    have HY := Lib.hid hy
    have HZ := Lib.hid hz
    have HM := Lib.hid hmo
    have hT := tbox w A n c B 3 d mo
    clear hx hy hz hc3 hp3 hmo hln
    go_enter Try.func24, Try.ntmps24
    go_wp2_with fail
    refine (spec_l16Fits _ _ _ _ _ _ _ _ _ _ _ H.out).mono ?_
    rintro e v1 ⟨rfl, hb1⟩
    have hB1 := bthen HB.out hb1
    have hT1 := hT.next hb1
    have hM1 := H.out.next hb1
    have hS1 := hM1.sp
    clear hT hM1
    go_wp2_with fail
    go_loopw [6, 7, 8] (fun o st i wr => ∃ (k : Nat) (s : ByteArray), k ≤ N ∧ i = .int .i64 k ∧ st = .int .i64 (steps mo k : Int) ∧ o = .string s ∧ nb s = (psiL [x, y, z] mo N).take k ∧ Below v1.heap.size v1 wr) (fun _ _ i _ => N - (intOf i).toNat)
    case atStart => exact ⟨0, ByteArray.empty, Nat.zero_le _, rfl, rfl, rfl, rfl, Below.refl _ _⟩
    case round =>
      obtain ⟨k, s, hk, rfl, rfl, rfl, hs, hbe⟩ := hrel
      have hB2 := bthen hB1 hbe
      have hss : s.size ≤ 1000 := by rw [← nb_length, hs, List.length_take]; omega
      have Hs := Lib.hid hs
      clear hs
      by_cases hlt : k < N
      · have hS2 := hS1.next hbe
        have hT2 := hT1.next hbe
        have hc0 : wr.cell? ⟨w.heap.size, 1, none⟩ = some (.slice B 3 d) := hT2.cell (j := 1) rfl
        have hst := steps_le HM.out k
        have Hj := Lib.hid (take_snoc _ _ _ (psiL_at [x, y, z] mo N k hlt))
        have HT1 := Lib.hid hT1
        clear hT1
        go_wp2_with fail
        refine (spec_l16Letter _ _ x y z (steps mo k) _ hS2 HX.out HY.out HZ.out (by omega)).mono ?_
        rintro e v2 ⟨r, rfl, hr, hb2⟩
        have hrs : r.size ≤ 1 := by rw [← nb_length, hr]; simp
        have Hr := Lib.hid hr
        have q2 : v2.cell? ⟨w.heap.size, 2, none⟩ = some (.string mo) := (hT2.next hb2).cell (j := 2) rfl
        have hbit := bitAt_le HM.out k
        clear hr
        go_wp2_with fail
        refine (spec_l16Bit mo k _ HM.out (by omega)).mono ?_
        rintro e v3 ⟨rfl, rfl⟩
        have Hst : Hid (steps mo (k + 1) = steps mo k + bitAt mo k) := by show steps mo (k + 1) = _; rfl
        go_wp2
        go_roundw
        case rel => exact ⟨k + 1, _, by omega, by go_num, by rw [Hst.out]; go_num, rfl, by rw [nb_append, Hs.out, Hr.out]; exact Hj.out.symm, bthenB hbe hb2 hbe.size⟩
        case measure => simp [intOf]; omega
      · go_wp2
        go_ret2
        exact ⟨s, rfl, by rw [Hs.out, List.take_of_length_le (by rw [psiL_len]; omega)], hB2⟩
end Go.Proofs.Ytibjiadgmlpceaa
