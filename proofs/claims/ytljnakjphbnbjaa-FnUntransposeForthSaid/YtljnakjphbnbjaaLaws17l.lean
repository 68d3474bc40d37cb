/- The walks of laws on transposing. No condition. Written by mk_laws17l.py. -/
import Derived.Test.YtljnakjphbnbjaaDraw17c
import Derived.Test.YtljnakjphbnbjaaTrans
import Derived.Test.YtljnakjphbnbjaaPlainK2
import Derived.Test.YtljnakjphbnbjaaCounts
import Derived.Test.YtljnakjphbnbjaaRc
set_option linter.unusedVariables false
namespace Go.Proofs.Ytljnakjphbnbjaa
open Go.RowKit

theorem lc_short (l : List Nat) : (lc l).length ≤ 10 := by
  unfold lc
  by_cases h : wv l = true
  · rw [if_pos h, countsL, countsK_len]; exact Nat.le_refl _
  · rw [if_neg h]; exact Nat.zero_le _

set_option maxHeartbeats 2000000 in
theorem walk_FnTransposePlaces (a0 : Option Addr) (len0 cap0 : Nat) (z0 : List Int) (w : World) (w0 : IsRow .u8 w a0 len0 cap0 z0) :
    Calls Try.prog 4 #[.slice a0 len0 cap0] w fun e w' => e = .returned (.bool true) ∧ Below w.heap.size w w' := by
  have hl := w0.len_le
  by_cases hbig : 1048576 < len0
  · clear w0
    go_enter Try.func4, Try.ntmps4
    go_wp2_with fail
    go_ret
    exact ⟨rfl, Below.refl _ _⟩
  · have W0 := Lib.hid w0
    clear w0
    go_enter Try.func4, Try.ntmps4
    go_wp2_with fail
    refine (spec_DrawTranspose _ _ _ _ _ W0.out).mono ?_
    rintro e v1 ⟨a, key, rfl, has, hks, hb1⟩
    have hkm : key.size ≤ maxLen := by unfold maxLen; omega
    have ham : a.size ≤ maxLen := by unfold maxLen; omega
    go_wp2_with fail
    refine (impl_Transpose a key _ ham hkm).mono ?_
    rintro e v2 ⟨r, rfl, hr, hb2⟩
    have Hr := Lib.hid hr
    have hB2 := bthen hb1 hb2
    clear hr
    go_wp2_with fail
    refine (spec_Transpose a key _ ham hkm).mono ?_
    rintro e v3 ⟨r', rfl, hr', hb3⟩
    obtain rfl : r = r' := nb_inj (by rw [Hr.out, hr'])
    have hB3 := bthen hB2 hb3
    clear hr'
    cases hok : tpOk (nb a) (nb key)
    · go_wp2_with fail
      go_ret
      exact ⟨rfl, hB3⟩
    · obtain ⟨hv, hk⟩ := tpOk_yes hok
      have la := wv_len hv
      rw [nb_length] at la
      have hrs : r.size = a.size := by rw [← nb_length, Hr.out, tp_len hok, nb_length]
      have hrle : r.size ≤ 200 := by omega
      have hrm : r.size ≤ maxLen := by unfold maxLen; omega
      have Hok := Lib.hid hok
      have Hok2 : Hid (tpOk (nb r) (nb key) = true) := by show _ = _; rw [Hr.out]; exact tpOk_of (wv_tp hok) hk
      have Hnl := Lib.hid (nb_length a)
      have Hcp := Lib.hid (cp_yes (n := (nb a).length) hk (wv_len hv))
      have Hcl := Lib.hid (colL_len hk (nb a).length)
      have Hrp := Lib.hid (rp_col hok)
      obtain ⟨k1, k2, hkw⟩ := kval_yes hk
      rw [nb_length] at k1 k2
      obtain ⟨c, hc1, hc2, hc3⟩ := kval_one hk
      have H1 : Hid (nb (key.extract 0 1) = [c]) := by show _ = _; rw [nb_extract, List.drop_zero]; exact hc1
      have Hs1 : Hid (tp (nb a) (nb (key.extract 0 1)) = nb a ∧ tpOk (nb a) (nb (key.extract 0 1)) = true) := by
        show _ ∧ _
        rw [H1.out]
        have ho := tpOk_of hv hc3
        exact ⟨by rw [tp_yes ho, col_one hc2, readL_iota], ho⟩
      have hxm : (key.extract 0 1).size ≤ maxLen := by rw [← nb_length, H1.out]; simp [maxLen]
      have k1i : (1 : Int) ≤ (key.size : Int) := by omega
      clear hc1 hc2 hc3 hkw hk hv hok hrs
      go_wp2_with fail
      refine (impl_ColumnPlaces key _ _ hkm).mono ?_
      rw [← Hnl.out, Hcp.out]
      rintro e v4 ⟨A4, n4, c4, rfl, hl4, ho4, hb4⟩
      have hn4 : n4 ≤ 200 := by have := Hcl.out; have := Hnl.out; omega
      have Hl4 := Lib.hid hl4
      have hB4 := bthen hB3 hb4
      clear hl4
      go_wp2_with fail
      refine (impl_ReadPlaces a _ _ _ _ _ ham ho4.ints Hl4.out (by omega)).mono ?_
      rw [Hrp.out.1, Hrp.out.2]
      rintro e v5 ⟨x, rfl, hx, hb5⟩
      obtain rfl : x = r := nb_inj (by rw [hx, Hr.out])
      have hB5 := bthen hB4 hb5
      clear hx ho4
      go_wp2_with fail
      refine (impl_Transpose a (key.extract 0 1) _ ham hxm).mono ?_
      rw [Hs1.out.1, Hs1.out.2]
      rintro e v6 ⟨y, rfl, hy, hb6⟩
      obtain rfl : y = a := nb_inj hy
      clear hy
      go_wp2_with fail
      go_ret
      exact ⟨rfl, bthen hB5 hb6⟩

set_option maxHeartbeats 2000000 in
theorem walk_FnTransposeBack (a0 : Option Addr) (len0 cap0 : Nat) (z0 : List Int) (w : World) (w0 : IsRow .u8 w a0 len0 cap0 z0) :
    Calls Try.prog 6 #[.slice a0 len0 cap0] w fun e w' => e = .returned (.bool true) ∧ Below w.heap.size w w' := by
  have hl := w0.len_le
  by_cases hbig : 1048576 < len0
  · clear w0
    go_enter Try.func6, Try.ntmps6
    go_wp2_with fail
    go_ret
    exact ⟨rfl, Below.refl _ _⟩
  · have W0 := Lib.hid w0
    clear w0
    go_enter Try.func6, Try.ntmps6
    go_wp2_with fail
    refine (spec_DrawTranspose _ _ _ _ _ W0.out).mono ?_
    rintro e v1 ⟨a, key, rfl, has, hks, hb1⟩
    have hkm : key.size ≤ maxLen := by unfold maxLen; omega
    have ham : a.size ≤ maxLen := by unfold maxLen; omega
    go_wp2_with fail
    refine (impl_Transpose a key _ ham hkm).mono ?_
    rintro e v2 ⟨r, rfl, hr, hb2⟩
    have Hr := Lib.hid hr
    have hB2 := bthen hb1 hb2
    clear hr
    go_wp2_with fail
    refine (spec_Transpose a key _ ham hkm).mono ?_
    rintro e v3 ⟨r', rfl, hr', hb3⟩
    obtain rfl : r = r' := nb_inj (by rw [Hr.out, hr'])
    have hB3 := bthen hB2 hb3
    clear hr'
    cases hok : tpOk (nb a) (nb key)
    · cases hv : wv (nb a)
      · go_wp2_with fail
        refine (impl_WordValid _ _ ham).mono ?_
        rintro e v4 ⟨rfl, rfl⟩
        go_wp2_with fail
        go_ret
        exact ⟨rfl, hB3⟩
      · have hk : kval (nb key) = false := by rw [tpOk, hv, Bool.true_and] at hok; exact hok
        have hko : ko (nb key) = [] := by rw [ko, hk]; rfl
        go_wp2_with fail
        refine (impl_WordValid _ _ ham).mono ?_
        rintro e v4 ⟨rfl, rfl⟩
        go_wp2_with fail
        refine (impl_KeyOrder key _ hkm).mono ?_
        rw [hko]
        rintro e v5 ⟨A5, n5, c5, rfl, hl5, ho5, hb5⟩
        obtain rfl : n5 = 0 := hl5.symm
        clear hl5 ho5
        go_wp2_with fail
        go_ret
        exact ⟨rfl, bthen hB3 hb5⟩
    · obtain ⟨hv, hk⟩ := tpOk_yes hok
      have la := wv_len hv
      rw [nb_length] at la
      have hrs : r.size = a.size := by rw [← nb_length, Hr.out, tp_len hok, nb_length]
      have hrle : r.size ≤ 200 := by omega
      have hrm : r.size ≤ maxLen := by unfold maxLen; omega
      have Hok := Lib.hid hok
      have Hok2 : Hid (tpOk (nb r) (nb key) = true) := by show _ = _; rw [Hr.out]; exact tpOk_of (wv_tp hok) hk
      have Hnl := Lib.hid (nb_length a)
      have hko : ko (nb key) = koL (nb key) := by rw [ko, hk]; rfl
      obtain ⟨k1, k2, hkw⟩ := kval_yes hk
      have hkl := (koL_len hkw).trans (nb_length key)
      rw [nb_length] at k1 k2
      have Hback : Hid (ut (nb r) (nb key) = nb a) := by show _ = _; rw [Hr.out]; exact ut_tp hok
      have Hko := Lib.hid hko
      have Hkl := Lib.hid hkl
      have h0 : (0 : Int) < (key.size : Int) := by omega
      have hsz : ((r.size : Int) == (a.size : Int)) = true := by rw [hrs]; simp
      clear hko hkl hkw hk hrs hok
      go_wp2_with fail
      refine (impl_WordValid _ _ ham).mono ?_
      rintro e v4 ⟨rfl, rfl⟩
      go_wp2_with fail
      refine (impl_KeyOrder key _ hkm).mono ?_
      rw [Hko.out]
      rintro e v5 ⟨A5, n5, c5, rfl, hl5, ho5, hb5⟩
      obtain rfl : n5 = key.size := by have := Hkl.out; omega
      have hB5 := bthen hB3 hb5
      clear hl5 ho5
      go_wp2_with fail
      refine (impl_Untranspose r key _ hrm hkm).mono ?_
      rw [Hback.out, Hok2.out]
      rintro e v6 ⟨y, rfl, hy, hb6⟩
      obtain rfl : y = a := nb_inj hy
      clear hy
      go_wp2_with fail
      go_ret
      exact ⟨rfl, bthen hB5 hb6⟩

set_option maxHeartbeats 2000000 in
theorem walk_FnUntransposeForth (a0 : Option Addr) (len0 cap0 : Nat) (z0 : List Int) (w : World) (w0 : IsRow .u8 w a0 len0 cap0 z0) :
    Calls Try.prog 3 #[.slice a0 len0 cap0] w fun e w' => e = .returned (.bool true) ∧ Below w.heap.size w w' := by
  have hl := w0.len_le
  by_cases hbig : 1048576 < len0
  · clear w0
    go_enter Try.func3, Try.ntmps3
    go_wp2_with fail
    go_ret
    exact ⟨rfl, Below.refl _ _⟩
  · have W0 := Lib.hid w0
    clear w0
    go_enter Try.func3, Try.ntmps3
    go_wp2_with fail
    refine (spec_DrawUntranspose _ _ _ _ _ W0.out).mono ?_
    rintro e v1 ⟨a, key, rfl, has, hks, hb1⟩
    have hkm : key.size ≤ maxLen := by unfold maxLen; omega
    have ham : a.size ≤ maxLen := by unfold maxLen; omega
    go_wp2_with fail
    refine (impl_Untranspose a key _ ham hkm).mono ?_
    rintro e v2 ⟨r, rfl, hr, hb2⟩
    have Hr := Lib.hid hr
    have hB2 := bthen hb1 hb2
    clear hr
    go_wp2_with fail
    refine (spec_Untranspose a key _ ham hkm).mono ?_
    rintro e v3 ⟨r', rfl, hr', hb3⟩
    obtain rfl : r = r' := nb_inj (by rw [Hr.out, hr'])
    have hB3 := bthen hB2 hb3
    clear hr'
    cases hok : tpOk (nb a) (nb key)
    · go_wp2_with fail
      go_ret
      exact ⟨rfl, hB3⟩
    · obtain ⟨hv, hk⟩ := tpOk_yes hok
      have la := wv_len hv
      rw [nb_length] at la
      have hrs : r.size = a.size := by rw [← nb_length, Hr.out, ut_len hok, nb_length]
      have hrle : r.size ≤ 200 := by omega
      have hrm : r.size ≤ maxLen := by unfold maxLen; omega
      have Hok := Lib.hid hok
      have Hok2 : Hid (tpOk (nb r) (nb key) = true) := by show _ = _; rw [Hr.out]; exact tpOk_of (wv_ut hok) hk
      have Hnl := Lib.hid (nb_length a)
      have Hback : Hid (tp (nb r) (nb key) = nb a) := by show _ = _; rw [Hr.out]; exact tp_ut hok
      have Hcounts : Hid (lc (nb r) = lc (nb a)) := by
        show _ = _
        rw [Hr.out]
        refine lc_perm ?_ (by rw [wv_ut hok, hv])
        rw [ut_yes hok]
        exact readL_perm (plv_undo (col_ok hok).1) (by rw [undoL_len]; exact (col_ok hok).2.symm)
      have hsame := same_refl (lc (nb a))
      clear hk hrs hok
      go_wp2_with fail
      refine (impl_Transpose r key _ hrm hkm).mono ?_
      rw [Hback.out, Hok2.out]
      rintro e v6 ⟨y, rfl, hy, hb6⟩
      obtain rfl : y = a := nb_inj hy
      have hB6 := bthen hB3 hb6
      clear hy
      go_wp2_with fail
      refine (impl_LetterCounts r _ hrm).mono ?_
      rw [Hcounts.out]
      rintro e v7 ⟨A7, n7, c7, rfl, hl7, ho7, hb7⟩
      have hB7 := bthen hB6 hb7
      have hL7 := ho7.ints
      have hn7 : n7 ≤ 10 := by have := lc_short (nb y); omega
      have Hl7 := Lib.hid hl7
      clear hl7 ho7
      go_wp2_with fail
      refine (impl_LetterCounts y v7 ham).mono ?_
      rintro e v8 ⟨A8, n8, c8, rfl, hl8, ho8, hb8⟩
      have hB8 := bthen hB7 hb8
      obtain rfl : n7 = n8 := by have := Hl7.out; omega
      clear hl8
      go_wp2_with fail
      refine (laws_rcInts _ _ _ _ _ _ _ _ _ (hL7.next hb8) ho8.ints Hl7.out Hl7.out (by omega) (by omega)).mono ?_
      rintro e v9 ⟨rfl, hb9⟩
      go_wp2_with fail
      go_ret
      exact ⟨rfl, bthen hB8 hb9⟩
end Go.Proofs.Ytljnakjphbnbjaa
