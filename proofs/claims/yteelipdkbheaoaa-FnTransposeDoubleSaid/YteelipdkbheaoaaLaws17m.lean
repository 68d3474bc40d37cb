/- The walk of the law on two transpositions in sequence. No condition. -/
import Derived.Test.YteelipdkbheaoaaDraw17c
import Derived.Test.YteelipdkbheaoaaTrans
import Derived.Test.YteelipdkbheaoaaPlainK2
set_option linter.unusedVariables false
namespace Go.Proofs.Yteelipdkbheaoaa
open Go.RowKit

theorem IsRow.next {k : IntKind} {w w' : World} {a : Option Addr} {len cap : Nat} {zs : List Int} (h : IsRow k w a len cap zs) (hb : Below w.heap.size w w') : IsRow k w' a len cap zs := by
  rcases h with h | ⟨x, ha, hl, hm, hz, hc, hw⟩
  · exact .inl h
  · refine .inr ⟨x, ha, hl, hm, hz, fun i hi => ?_, hw⟩
    have h1 := hc i hi
    rw [hb.cell (block_lt_of_cell h1)]
    exact h1
theorem jp_yes {f s : List Int} (hf : plv f = true) (hs : plv s = true) (hl : f.length = s.length) : jpOk f s = true ∧ jp f s = joinL f s := by
  have h : jpOk f s = true := by unfold jpOk g3; rw [hf, hs, hl]; simp
  exact ⟨h, by rw [jp, h]; rfl⟩
theorem tp_twice {l ks ms : List Nat} (h : tpOk l ks = true) (hm : kval ms = true) : tp (tp l ks) ms = readL l (joinL (colL ks l.length) (colL ms l.length)) := by
  have h2 : tpOk (tp l ks) ms = true := tpOk_of (wv_tp h) hm
  rw [tp_yes h2, tp_len h, tp_yes h]
  refine readL_join (col_ok h).1 (colL_plv hm (wv_len (tpOk_yes h).1)) (col_ok h).2.symm ?_
  rw [(col_ok h).2, colL_len hm]
set_option maxHeartbeats 2000000 in
theorem walk_FnTransposeDouble (a0 : Option Addr) (len0 cap0 : Nat) (z0 : List Int) (a1 : Option Addr) (len1 cap1 : Nat) (z1 : List Int) (w : World) (w0 : IsRow .u8 w a0 len0 cap0 z0) (w1 : IsRow .u8 w a1 len1 cap1 z1) :
    Calls Try.prog 3 #[.slice a0 len0 cap0, .slice a1 len1 cap1] w fun e w' => e = .returned (.bool true) ∧ Below w.heap.size w w' := by
  have hl := w0.len_le
  have hl1 := w1.len_le
  by_cases hbig : 1048576 < len0
  · clear w0 w1
    go_enter Try.func3, Try.ntmps3
    go_wp2_with fail
    go_ret
    exact ⟨rfl, Below.refl _ _⟩
  by_cases hbig1 : 1048576 < len1
  · clear w0 w1
    go_enter Try.func3, Try.ntmps3
    go_wp2_with fail
    go_ret
    exact ⟨rfl, Below.refl _ _⟩
  · have W0 := Lib.hid w0
    have W1 := Lib.hid w1
    clear w0 w1
    go_enter Try.func3, Try.ntmps3
    go_wp2_with fail
    refine (spec_DrawTranspose _ _ _ _ _ W0.out).mono ?_
    rintro e v1 ⟨a, key, rfl, has, hks, hb1⟩
    have hkm : key.size ≤ maxLen := by unfold maxLen; omega
    have ham : a.size ≤ maxLen := by unfold maxLen; omega
    have W1' := Lib.hid (W1.out.next hb1)
    go_wp2_with fail
    refine (spec_DrawTranspose _ _ _ _ _ W1'.out).mono ?_
    rintro e v1' ⟨a', oth, rfl, has', hos, hb1'⟩
    have hom : oth.size ≤ maxLen := by unfold maxLen; omega
    have hB1 := bthen hb1 hb1'
    go_wp2_with fail
    refine (impl_Transpose a key _ ham hkm).mono ?_
    rintro e v2 ⟨r, rfl, hr, hb2⟩
    have Hr := Lib.hid hr
    have hB2 := bthen hB1 hb2
    clear hr
    go_wp2_with fail
    refine (spec_Transpose a key _ ham hkm).mono ?_
    rintro e v3 ⟨r', rfl, hr', hb3⟩
    obtain rfl : r = r' := nb_inj (by rw [Hr.out, hr'])
    have hB3 := bthen hB2 hb3
    clear hr'
    cases hok : tpOk (nb a) (nb key)
    · go_wp2_with fail
      go_ret
      exact ⟨rfl, hB3⟩
    · cases hko : kval (nb oth)
      · have hke : ko (nb oth) = [] := by rw [ko, hko]; rfl
        go_wp2_with fail
        refine (impl_KeyOrder oth _ hom).mono ?_
        rw [hke]
        rintro e v5 ⟨A5, n5, c5, rfl, hl5, ho5, hb5⟩
        obtain rfl : n5 = 0 := hl5.symm
        clear hl5 ho5
        go_wp2_with fail
        go_ret
        exact ⟨rfl, bthen hB3 hb5⟩
      · obtain ⟨hv, hk⟩ := tpOk_yes hok
        have la := wv_len hv
        have hrs : r.size = a.size := by rw [← nb_length, Hr.out, tp_len hok, nb_length]
        have Hnl := Lib.hid (nb_length a)
        have Hcp := Lib.hid (cp_yes (n := (nb a).length) hk la)
        have Hcp2 := Lib.hid (cp_yes (n := (nb a).length) hko la)
        have hce := (col_ok hok).2
        have hcf := colL_len hko (nb a).length
        have Hjp := Lib.hid (jp_yes (col_ok hok).1 (colL_plv hko la) (by rw [hce, hcf]))
        have Hjl : Hid ((joinL (colL (nb key) (nb a).length) (colL (nb oth) (nb a).length)).length = (nb a).length) := by show _ = _; rw [joinL_len, hcf]
        have Hok2 : Hid (tpOk (nb r) (nb oth) = true) := by show _ = _; rw [Hr.out]; exact tpOk_of (wv_tp hok) hko
        have Htt : Hid (tp (nb r) (nb oth) = readL (nb a) (joinL (colL (nb key) (nb a).length) (colL (nb oth) (nb a).length))) := by show _ = _; rw [Hr.out]; exact tp_twice hok hko
        have Hro : Hid (rpOk (nb a) (joinL (colL (nb key) (nb a).length) (colL (nb oth) (nb a).length)) = true) := by
          show _ = _
          unfold rpOk g3
          rw [hv, plv_join (col_ok hok).1 (colL_plv hko la) (by rw [hce, hcf]), Hjl.out]; simp
        have Hback : Hid (ut (tp (nb r) (nb oth)) (nb oth) = nb r) := ut_tp Hok2.out
        have Hback2 : Hid (ut (nb r) (nb key) = nb a) := by show _ = _; rw [Hr.out]; exact ut_tp hok
        have Hok3 : Hid (tpOk (tp (nb r) (nb oth)) (nb oth) = true) := tpOk_of (wv_tp Hok2.out) hko
        have Hok4 : Hid (tpOk (nb r) (nb key) = true) := by show _ = _; rw [Hr.out]; exact tpOk_of (wv_tp hok) hk
        have Htl : Hid ((tp (nb r) (nb oth)).length = a.size) := by show _ = _; rw [tp_len Hok2.out, nb_length, hrs]
        have Hce := Lib.hid hce
        have Hcf := Lib.hid hcf
        have hke : ko (nb oth) = koL (nb oth) := by rw [ko, hko]; rfl
        obtain ⟨k1, k2, hkw⟩ := kval_yes hko
        have hkl := (koL_len hkw).trans (nb_length oth)
        rw [nb_length] at k1 k2 la
        have Hke := Lib.hid hke
        have Hkl := Lib.hid hkl
        have hrm : r.size ≤ maxLen := by unfold maxLen; omega
        have ho0 : ((oth.size : Int) == 0) = false := by rw [beq_eq_false_iff_ne]; omega
        clear hke hkl hkw hk hrs hok hko hv hce hcf
        go_wp2_with fail
        refine (impl_KeyOrder oth _ hom).mono ?_
        rw [Hke.out]
        rintro e v5 ⟨A5, n5, c5, rfl, hl5, ho5, hb5⟩
        obtain rfl : n5 = oth.size := by have := Hkl.out; omega
        have hB5 := bthen hB3 hb5
        clear hl5 ho5
        go_wp2_with fail
        refine (impl_Transpose r oth _ hrm hom).mono ?_
        rw [Hok2.out]
        rintro e v6 ⟨t, rfl, ht, hb6⟩
        have hts : t.size = a.size := by rw [← nb_length, ht, Htl.out]
        have htm : t.size ≤ maxLen := by unfold maxLen; omega
        have Ht := Lib.hid ht
        have hB6 := bthen hB5 hb6
        clear ht hts
        go_wp2_with fail
        refine (impl_ColumnPlaces key _ _ hkm).mono ?_
        rw [← Hnl.out, Hcp.out]
        rintro e v7 ⟨A7, n7, c7, rfl, hl7, ho7, hb7⟩
        have Hl7 := Lib.hid hl7
        have hn7 : n7 ≤ 200 := by have := Hce.out; have := Hnl.out; omega
        have hB7 := bthen hB6 hb7
        have hI7 := ho7.ints
        clear hl7 ho7
        go_wp2_with fail
        refine (impl_ColumnPlaces oth _ _ hom).mono ?_
        rw [← Hnl.out, Hcp2.out]
        rintro e v8 ⟨A8, n8, c8, rfl, hl8, ho8, hb8⟩
        have Hl8 := Lib.hid hl8
        have hn8 : n8 ≤ 200 := by have := Hcf.out; have := Hnl.out; omega
        have hB8 := bthen hB7 hb8
        have hI8 := ho8.ints
        clear hl8 ho8
        go_wp2_with fail
        refine (impl_JoinPlaces _ _ _ _ _ _ _ _ _ (hI7.next hb8) hI8 Hl7.out Hl8.out (by omega) (by omega)).mono ?_
        rw [Hjp.out.1, Hjp.out.2]
        rintro e v9 ⟨A9, n9, c9, rfl, hl9, ho9, hb9⟩
        have Hl9 := Lib.hid hl9
        have hn9 : n9 ≤ 200 := by have := Hjl.out; have := Hnl.out; omega
        have hB9 := bthen hB8 hb9
        have hI9 := ho9.ints
        clear hl9 ho9 hI7 hI8
        go_wp2_with fail
        refine (impl_ReadPlaces a _ _ _ _ _ ham hI9 Hl9.out (by omega)).mono ?_
        rw [rp, Hro.out, if_pos rfl, ← Htt.out]
        rintro e v10 ⟨x, rfl, hx, hb10⟩
        obtain rfl : x = t := nb_inj (by rw [hx, Ht.out])
        have hB10 := bthen hB9 hb10
        clear hx hI9
        go_wp2_with fail
        refine (impl_Untranspose x oth _ htm hom).mono ?_
        rw [Ht.out, Hback.out, Hok3.out]
        rintro e v11 ⟨y, rfl, hy, hb11⟩
        obtain rfl : y = r := nb_inj hy
        have hB11 := bthen hB10 hb11
        clear hy
        go_wp2_with fail
        refine (impl_Untranspose y key _ hrm hkm).mono ?_
        rw [Hback2.out, Hok4.out]
        rintro e v12 ⟨z, rfl, hz, hb12⟩
        obtain rfl : z = a := nb_inj hz
        clear hz
        go_wp2_with fail
        go_ret
        exact ⟨rfl, bthen hB11 hb12⟩
end Go.Proofs.Yteelipdkbheaoaa
