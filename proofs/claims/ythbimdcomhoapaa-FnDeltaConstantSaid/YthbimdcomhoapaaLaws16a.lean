/- The walks of the laws on sums and changes of tapes. No condition. -/
import Derived.Test.YthbimdcomhoapaaDraw16
import Derived.Test.YthbimdcomhoapaaPlain16
import Derived.Test.YthbimdcomhoapaaRev
set_option linter.unusedVariables false
namespace Go.Proofs.Ythbimdcomhoapaa
open Go.RowKit

theorem laws_rcLetterT (n : Nat) (w : World) (hn : n ≤ 10000000) :
    Calls Try.prog 16 #[.int .i64 (n : Int)] w (RetS w [97 + n % 10]) := by
  obtain ⟨r, hr, hrun⟩ := of_one w (97 + (n : Int) % 10) (by omega) (by omega)
  have Hr := Lib.hid hr
  clear hr
  go_enter Try.func16, Try.ntmps16
  go_wp2
  go_ret
  refine ⟨r, rfl, ?_, (Below.refl _ _).alloc (Nat.le_refl _) _⟩
  have e : (97 + (n : Int) % 10).toNat = 97 + n % 10 := by omega
  rw [Hr.out, e]
theorem small {r : ByteArray} {l : List Nat} (h : nb r = l) (hl : l.length ≤ 1000) : r.size ≤ maxLen := by rw [← nb_length, h]; unfold maxLen; omega
theorem beq_no {a b : ByteArray} (h : a ≠ b) : (a.toList == b.toList) = false := by
  rw [beq_eq_false_iff_ne]
  intro e
  rw [ByteArray.toList_eq, ByteArray.toList_eq] at e
  exact h (nb_inj (by unfold nb; rw [e]))

set_option maxHeartbeats 1000000 in
theorem walk_FnDeltaSum (a0 : Option Addr) (len0 cap0 : Nat) (z0 : List Int) (w : World) (w0 : IsRow .u8 w a0 len0 cap0 z0) :
    Calls Try.prog 3 #[.slice a0 len0 cap0] w fun e w' => e = .returned (.bool true) ∧ Below w.heap.size w w' := by
  have hl := w0.len_le
  by_cases hbig : 1048576 < len0
  · clear w0
    go_enter Try.func3, Try.ntmps3
    go_wp2_with fail
    go_ret
    exact ⟨rfl, Below.refl _ _⟩
  · have W0 := Lib.hid w0
    clear w0
    go_enter Try.func3, Try.ntmps3
    go_wp2_with fail
    refine (spec_DrawXorTapes _ _ _ _ _ W0.out).mono ?_
    rintro e v1 ⟨p, q, rfl, hp, hq, hb1⟩
    have hpm : p.size ≤ maxLen := by unfold maxLen; omega
    have hqm : q.size ≤ maxLen := by unfold maxLen; omega
    go_wp2_with fail
    refine (impl_XorTapes p q v1 hpm hqm).mono ?_
    rintro e v2 ⟨s, rfl, hs, hb2⟩
    have Hs := Lib.hid hs
    have hB2 := bthen hb1 hb2
    clear hs
    go_wp2_with fail
    refine (spec_XorTapes p q v2 hpm hqm).mono ?_
    rintro e v3 ⟨s2, rfl, hs2, hb3⟩
    obtain rfl : s = s2 := nb_inj (by rw [Hs.out, hs2])
    have hB3 := bthen hB2 hb3
    clear hs2
    cases hv : xtOk (nb p) (nb q)
    · go_wp2_with fail
      go_ret
      exact ⟨rfl, hB3⟩
    · obtain ⟨h1, h2, h3⟩ := g3_yes hv
      have hs : nb s = xorL (nb p) (nb q) := by rw [Hs.out, xt, hv]; rfl
      have hsm : s.size ≤ maxLen := small hs (by rw [xorL_len h3]; have := tv_len h1; omega)
      have hts : tv (nb s) = true := by rw [hs]; exact tv_xor hv
      have ed : dt (nb s) = xt (dt (nb p)) (dt (nb q)) := by
        rw [dt, hts, dt, h1, dt, h2]
        simp only [if_true]
        rw [xt_of (tv_delta h1) (tv_delta h2) (by rw [deltaL_len, deltaL_len, h3]), hs, delta_xor h3]
      have Hed := Lib.hid ed
      have L1 : (dt (nb p)).length ≤ 1000 := by rw [dt, h1]; have := tv_len (tv_delta h1); simp; omega
      have L2 : (dt (nb q)).length ≤ 1000 := by rw [dt, h2]; have := tv_len (tv_delta h2); simp; omega
      clear hs hts ed h1 h2 h3
      go_wp2_with fail
      refine (impl_DeltaTape s v3 hsm).mono ?_
      rintro e v4 ⟨d1, rfl, hd1, hb4⟩
      have hB4 := bthen hB3 hb4
      have Hd1 := Lib.hid hd1
      clear hd1
      go_wp2_with fail
      refine (impl_DeltaTape p v4 hpm).mono ?_
      rintro e v5 ⟨d2, rfl, hd2, hb5⟩
      have hB5 := bthen hB4 hb5
      have Hd2 := Lib.hid hd2
      clear hd2
      go_wp2_with fail
      refine (impl_DeltaTape q v5 hqm).mono ?_
      rintro e v6 ⟨d3, rfl, hd3, hb6⟩
      have hB6 := bthen hB5 hb6
      have Hd3 := Lib.hid hd3
      clear hd3
      go_wp2_with fail
      refine (laws_rcXor d2 d3 v6 (small Hd2.out L1) (small Hd3.out L2)).mono ?_
      rintro e v7 ⟨d4, rfl, hd4, hb7⟩
      have hB7 := bthen hB6 hb7
      obtain rfl : d1 = d4 := nb_inj (by rw [Hd1.out, hd4, Hd2.out, Hd3.out, Hed.out])
      clear hd4
      go_wp2_with fail
      refine (impl_DeltaTape s v7 hsm).mono ?_
      rintro e v8 ⟨d5, rfl, hd5, hb8⟩
      have hB8 := bthen hB7 hb8
      have Hd5 := Lib.hid hd5
      clear hd5
      go_wp2_with fail
      refine (spec_DeltaTape s v8 hsm).mono ?_
      rintro e v9 ⟨d6, rfl, hd6, hb9⟩
      obtain rfl : d5 = d6 := nb_inj (by rw [Hd5.out, hd6])
      clear hd6
      go_wp2_with fail
      go_ret
      exact ⟨rfl, bthen hB8 hb9⟩
set_option maxHeartbeats 2000000 in
theorem walk_FnXorThree (a0 : Option Addr) (len0 cap0 : Nat) (z0 : List Int) (w : World) (w0 : IsRow .u8 w a0 len0 cap0 z0) :
    Calls Try.prog 4 #[.slice a0 len0 cap0] w fun e w' => e = .returned (.bool true) ∧ Below w.heap.size w w' := by
  have hl := w0.len_le
  by_cases hbig : 1048576 < len0
  · clear w0
    go_enter Try.func4, Try.ntmps4
    go_wp2_with fail
    go_ret
    exact ⟨rfl, Below.refl _ _⟩
  · have W0 := Lib.hid w0
    clear w0
    go_enter Try.func4, Try.ntmps4
    go_wp2_with fail
    refine (spec_DrawXorTapes _ _ _ _ _ W0.out).mono ?_
    rintro e v1 ⟨p, q, rfl, hp, hq, hb1⟩
    have hpm : p.size ≤ maxLen := by unfold maxLen; omega
    have hqm : q.size ≤ maxLen := by unfold maxLen; omega
    go_wp2_with fail
    refine (impl_XorTapes p q v1 hpm hqm).mono ?_
    rintro e v2 ⟨s, rfl, hs, hb2⟩
    have Hs := Lib.hid hs
    have hB2 := bthen hb1 hb2
    clear hs
    go_wp2_with fail
    refine (spec_XorTapes p q v2 hpm hqm).mono ?_
    rintro e v3 ⟨s2, rfl, hs2, hb3⟩
    obtain rfl : s = s2 := nb_inj (by rw [Hs.out, hs2])
    have hB3 := bthen hB2 hb3
    clear hs2
    cases hv : xtOk (nb p) (nb q)
    · go_wp2_with fail
      go_ret
      exact ⟨rfl, hB3⟩
    · obtain ⟨h1, h2, h3⟩ := g3_yes hv
      have hs : nb s = xorL (nb p) (nb q) := by rw [Hs.out, xt, hv]; rfl
      have hsl : (nb s).length = (nb p).length := by rw [hs, xorL_len h3]
      have hlp := tv_len h1
      have hsm : s.size ≤ maxLen := small rfl (by omega)
      have hts : tv (nb s) = true := by rw [hs]; exact tv_xor hv
      have F := Lib.hid (And.intro h1 (And.intro h2 (And.intro h3 (And.intro hs (And.intro hts hsl)))))
      clear hs hts hsl h1 h2 h3
      go_wp2_with fail
      refine (impl_ReverseWord p v3 hpm).mono ?_
      rintro e v4 ⟨u, rfl, hu, hb4⟩
      have hB4 := bthen hB3 hb4
      have hu' : nb u = (nb p).reverse := by rw [hu, rvW, tv_wv F.out.1]; rfl
      have hum : u.size ≤ maxLen := small hu' (by rw [List.length_reverse]; omega)
      have Hu := Lib.hid hu'
      clear hu hu'
      go_wp2_with fail
      refine (laws_rcAll 97 p.size _ v4 rfl (by rw [nb_length] at hlp; omega)).mono ?_
      rintro e v5 ⟨o, rfl, ho, hb5⟩
      have hB5 := bthen hB4 hb5
      rw [← nb_length] at ho
      have hom : o.size ≤ maxLen := small ho (by rw [List.length_replicate]; omega)
      have Ho := Lib.hid ho
      clear ho
      go_wp2_with fail
      refine (laws_rcXor s u v5 hsm hum).mono ?_
      rintro e v6 ⟨x1, rfl, hx1, hb6⟩
      have hB6 := bthen hB5 hb6
      have Hx1 := Lib.hid hx1
      clear hx1
      go_wp2_with fail
      refine (laws_rcXor q u v6 hqm hum).mono ?_
      rintro e v7 ⟨x2, rfl, hx2, hb7⟩
      have hB7 := bthen hB6 hb7
      have tu : tv (nb u) = true := by rw [Hu.out]; exact tv_rev F.out.1
      have lu : (nb u).length = (nb p).length := by rw [Hu.out, List.length_reverse]
      have hqu : (nb q).length = (nb u).length := by rw [lu]; exact F.out.2.2.1.symm
      have hx2' : nb x2 = xorL (nb q) (nb u) := by rw [hx2, xt_of F.out.2.1 tu hqu]
      have hx2m : x2.size ≤ maxLen := small hx2' (by rw [xorL_len hqu]; have := tv_len F.out.2.1; omega)
      have Hx2 := Lib.hid hx2'
      have HU := Lib.hid (And.intro tu (And.intro lu hqu))
      clear hx2 hx2' tu lu hqu
      go_wp2_with fail
      refine (laws_rcXor p x2 v7 hpm hx2m).mono ?_
      rintro e v8 ⟨x3, rfl, hx3, hb8⟩
      have hB8 := bthen hB7 hb8
      obtain rfl : x1 = x3 := nb_inj (by
        have ok2 : xtOk (nb q) (nb u) = true := xtOk_of F.out.2.1 HU.out.1 HU.out.2.2
        rw [Hx1.out, hx3, xt_of F.out.2.2.2.2.1 HU.out.1 (by rw [F.out.2.2.2.2.2, HU.out.2.1]), Hx2.out, xt_of F.out.1 (tv_xor ok2) (by rw [xorL_len HU.out.2.2]; exact F.out.2.2.1), F.out.2.2.2.1, xorL_assoc F.out.2.2.1 HU.out.2.2])
      clear hx3
      go_wp2_with fail
      refine (laws_rcXor p o v8 hpm hom).mono ?_
      rintro e v9 ⟨x4, rfl, hx4, hb9⟩
      have hB9 := bthen hB8 hb9
      have to : tv (nb o) = true := by rw [Ho.out]; exact tv_all hlp (by omega) (by omega)
      have lo : (nb o).length = (nb p).length := by rw [Ho.out, List.length_replicate]
      obtain rfl : p = x4 := nb_inj (by rw [hx4, xt_of F.out.1 to lo.symm, Ho.out, xorL_zero F.out.1])
      clear hx4
      go_wp2_with fail
      refine (laws_rcXor p p v9 hpm hpm).mono ?_
      rintro e v10 ⟨x5, rfl, hx5, hb10⟩
      have hB10 := bthen hB9 hb10
      obtain rfl : o = x5 := nb_inj (by rw [hx5, xt_of F.out.1 F.out.1 rfl, Ho.out, xorL_self])
      clear hx5 to lo
      by_cases hpq : p = q
      · subst hpq
        obtain rfl : s = o := nb_inj (by rw [F.out.2.2.2.1, Ho.out, xorL_self])
        go_wp2_with fail
        go_ret
        exact ⟨rfl, hB10⟩
      · have e1 : (p.toList == q.toList) = false := beq_no hpq
        have e2 : (s.toList == o.toList) = false := beq_no (fun e => hpq (nb_inj (xorL_eq F.out.1 F.out.2.1 F.out.2.2.1 (by rw [← F.out.2.2.2.1, e, Ho.out]))))
        go_wp2_with fail
        go_ret
        exact ⟨rfl, hB10⟩
set_option maxHeartbeats 2000000 in
theorem walk_FnDeltaConstant (a0 : Option Addr) (len0 cap0 : Nat) (z0 : List Int) (w : World) (w0 : IsRow .u8 w a0 len0 cap0 z0) :
    Calls Try.prog 5 #[.slice a0 len0 cap0] w fun e w' => e = .returned (.bool true) ∧ Below w.heap.size w w' := by
  have hl := w0.len_le
  by_cases hbig : 1048576 < len0
  · clear w0
    go_enter Try.func5, Try.ntmps5
    go_wp2_with fail
    go_ret
    exact ⟨rfl, Below.refl _ _⟩
  · have W0 := Lib.hid w0
    clear w0
    go_enter Try.func5, Try.ntmps5
    go_wp2_with fail
    refine (spec_DrawDeltaTape _ _ _ _ _ W0.out).mono ?_
    rintro e v1 ⟨p, rfl, hp, hb1⟩
    have hpm : p.size ≤ maxLen := by unfold maxLen; omega
    go_wp2_with fail
    refine (impl_DeltaTape p v1 hpm).mono ?_
    rintro e v2 ⟨d, rfl, hd, hb2⟩
    have Hd := Lib.hid hd
    have hB2 := bthen hb1 hb2
    clear hd
    go_wp2_with fail
    refine (spec_DeltaTape p v2 hpm).mono ?_
    rintro e v3 ⟨d2, rfl, hd2, hb3⟩
    obtain rfl : d = d2 := nb_inj (by rw [Hd.out, hd2])
    have hB3 := bthen hB2 hb3
    clear hd2
    cases hv : tv (nb p)
    · go_wp2_with fail
      refine (impl_TapeValid p v3 hpm).mono ?_
      rintro e v4 ⟨rfl, rfl⟩
      go_wp2_with fail
      refine (spec_DeltaTape p v3 hpm).mono ?_
      rintro e v4 ⟨d3, rfl, hd3, hb4⟩
      obtain rfl : d = d3 := nb_inj (by rw [Hd.out, hd3])
      clear hd3
      go_wp2_with fail
      go_ret
      exact ⟨rfl, bthen hB3 hb4⟩
    · have Hv := Lib.hid hv
      have hlp := tv_len hv
      rw [nb_length] at hlp
      have hd' : nb d = deltaL (nb p) := by rw [Hd.out, dt, hv]; rfl
      have hdm : d.size ≤ maxLen := small hd' (by rw [deltaL_len, nb_length]; omega)
      have Hd2 := Lib.hid hd'
      clear hd'
      go_wp2_with fail
      refine (impl_TapeValid p v3 hpm).mono ?_
      rintro e v4 ⟨rfl, rfl⟩
      go_wp2_with fail
      clear hv
      go_loopw [5] (fun i wr => ∃ k : Nat, k ≤ 8 ∧ i = .int .i64 k ∧ Below w.heap.size w wr) (fun i _ => 8 - (intOf i).toNat)
      case atStart => exact ⟨0, Nat.zero_le _, rfl, hB3⟩
      case round =>
        obtain ⟨k, hk, rfl, hbe⟩ := hrel
        by_cases hlt : k < 8
        · go_wp2_with fail
          refine (laws_rcLetterT k wr (by omega)).mono ?_
          rintro e v4 ⟨r4, rfl, hr4, hb4⟩
          have hB4 := bthenB hbe hb4 hbe.size
          have Hr4 := Lib.hid hr4
          clear hr4
          go_wp2_with fail
          refine (laws_rcAll _ p.size r4 v4 Hr4.out (by omega)).mono ?_
          rintro e v5 ⟨r5, rfl, hr5, hb5⟩
          have hB5 := bthenB hB4 hb5 hB4.size
          have h5m : r5.size ≤ maxLen := small hr5 (by rw [List.length_replicate]; omega)
          have Hr5 := Lib.hid hr5
          clear hr5
          go_wp2_with fail
          refine (laws_rcXor p r5 v5 hpm h5m).mono ?_
          rintro e v6 ⟨r6, rfl, hr6, hb6⟩
          have hB6 := bthenB hB5 hb6 hB5.size
          have t5 : tv (nb r5) = true := by rw [Hr5.out]; exact tv_all hlp (by omega) (by omega)
          have l5 : (nb p).length = (nb r5).length := by rw [Hr5.out, List.length_replicate, nb_length]
          have h6 : nb r6 = xorL (nb p) (nb r5) := by rw [hr6, xt_of Hv.out t5 l5]
          have h6m : r6.size ≤ maxLen := small h6 (by rw [xorL_len l5, nb_length]; omega)
          have t6 : tv (nb r6) = true := by rw [h6]; exact tv_xor (xtOk_of Hv.out t5 l5)
          have H6 := Lib.hid (And.intro h6 t6)
          clear hr6 h6 t6 t5 l5
          go_wp2_with fail
          refine (impl_DeltaTape r6 v6 h6m).mono ?_
          rintro e v7 ⟨r7, rfl, hr7, hb7⟩
          have hB7 := bthenB hB6 hb7 hB6.size
          obtain rfl : d = r7 := nb_inj (by
            rw [Hd2.out, hr7, dt, H6.out.2, if_pos rfl, H6.out.1, Hr5.out, ← nb_length, delta_all _ Hv.out])
          clear hr7
          go_wp2_with fail
          go_roundw
          case rel => exact ⟨k + 1, by omega, by go_num, hB7⟩
          case measure => simp [intOf]; omega
        · go_wp2_with fail
          refine (impl_ReverseWord p wr hpm).mono ?_
          rintro e v4 ⟨u, rfl, hu, hb4⟩
          have hB4 := bthenB hbe hb4 hbe.size
          have hu' : nb u = (nb p).reverse := by rw [hu, rvW, tv_wv Hv.out]; rfl
          have hum : u.size ≤ maxLen := small hu' (by rw [List.length_reverse, nb_length]; omega)
          have Hu := Lib.hid hu'
          clear hu hu'
          go_wp2_with fail
          refine (impl_DeltaTape u v4 hum).mono ?_
          rintro e v5 ⟨x, rfl, hx, hb5⟩
          have hB5 := bthenB hB4 hb5 hB4.size
          have Hx := Lib.hid hx
          clear hx
          go_wp2_with fail
          refine (impl_ReverseWord d v5 hdm).mono ?_
          rintro e v6 ⟨y, rfl, hy, hb6⟩
          obtain rfl : x = y := nb_inj (by
            rw [Hx.out, hy, Hd2.out, rvW, tv_wv (tv_delta Hv.out), if_pos rfl, Hu.out, dt, tv_rev Hv.out, if_pos rfl, delta_rev])
          clear hy
          go_wp2_with fail
          go_ret
          exact ⟨rfl, bthenB hB5 hb6 hB5.size⟩
end Go.Proofs.Ythbimdcomhoapaa
