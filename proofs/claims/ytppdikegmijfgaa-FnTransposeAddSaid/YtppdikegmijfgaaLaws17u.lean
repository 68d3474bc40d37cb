/- The walk of the law on sums and renamed letters of transposed words. No condition. -/
import Derived.Test.YtppdikegmijfgaaDraw17c
import Derived.Test.YtppdikegmijfgaaDrawP
import Derived.Test.YtppdikegmijfgaaTrans
import Derived.Test.YtppdikegmijfgaaPerm2
import Derived.Test.YtppdikegmijfgaaMix
import Derived.Test.YtppdikegmijfgaaRev
set_option linter.unusedVariables false
namespace Go.Proofs.Ytppdikegmijfgaa
open Go.RowKit

theorem IsRow.next {k : IntKind} {w w' : World} {a : Option Addr} {len cap : Nat} {zs : List Int} (h : IsRow k w a len cap zs) (hb : Below w.heap.size w w') : IsRow k w' a len cap zs := by
  rcases h with h | ⟨x, ha, hl, hm, hz, hc, hw⟩
  · exact .inl h
  · refine .inr ⟨x, ha, hl, hm, hz, fun i hi => ?_, hw⟩
    have h1 := hc i hi
    rw [hb.cell (block_lt_of_cell h1)]
    exact h1
theorem readL_mixL {t : Nat} {a b : List Nat} {zs : List Int} (hz : plv zs = true) (ha : a.length = zs.length) (hb : b.length = zs.length) : readL (mixL t a b) zs = mixL t (readL a zs) (readL b zs) := by
  apply List.ext_getElem?
  intro k
  rcases Nat.lt_or_ge k zs.length with hk | hk
  · obtain ⟨z, hzk, hzl⟩ := plv_nat hz hk
    obtain ⟨c, hc⟩ : ∃ c, a[z]? = some c := ⟨_, List.getElem?_eq_getElem (by omega)⟩
    obtain ⟨d, hd⟩ : ∃ d, b[z]? = some d := ⟨_, List.getElem?_eq_getElem (by omega)⟩
    have e1 : (mixL t a b)[z]? = some (mix1 t c d) := zipWith_at hc hd
    have e2 : (mixL t (readL a zs) (readL b zs))[k]? = some (mix1 t c d) := zipWith_at (readL_at hzk hc) (readL_at hzk hd)
    rw [readL_at hzk e1, e2]
  · rw [List.getElem?_eq_none (by rw [readL_len]; exact hk), List.getElem?_eq_none (by simp [mixL, readL_len]; omega)]
theorem readL_map {f : Nat → Nat} {a : List Nat} {zs : List Int} (hz : plv zs = true) (ha : a.length = zs.length) : readL (a.map f) zs = (readL a zs).map f := by
  apply List.ext_getElem?
  intro k
  rcases Nat.lt_or_ge k zs.length with hk | hk
  · obtain ⟨z, hzk, hzl⟩ := plv_nat hz hk
    obtain ⟨c, hc⟩ : ∃ c, a[z]? = some c := ⟨_, List.getElem?_eq_getElem (by omega)⟩
    rw [readL_at hzk (c := f c) (by rw [List.getElem?_map, hc]; rfl), List.getElem?_map, readL_at hzk hc]
    rfl
  · rw [List.getElem?_eq_none (by rw [readL_len]; exact hk), List.getElem?_eq_none (by rw [List.length_map, readL_len]; exact hk)]
theorem wv_rev {l : List Nat} (h : wv l = true) : wv l.reverse = true := by
  refine wv_ofR (by rw [List.length_reverse]; exact wv_len h) fun x hx => ?_
  exact wv_mem h (by simpa using hx)
theorem wv_mix {t : Nat} {v w : List Nat} (h1 : v.length ≤ 200) (h : v.length = w.length) : wv (mixL t v w) = true := by
  refine wv_ofR (by simp [mixL]; omega) fun x hx => ?_
  obtain ⟨k, hk⟩ := List.getElem?_of_mem hx
  unfold mixL at hk
  rw [List.getElem?_zipWith] at hk
  split at hk
  · injection hk with hk
    unfold mix1 at hk
    omega
  · cases hk
theorem mix_len2 {t : Nat} {v w : List Nat} (h : v.length = w.length) : (mixL t v w).length = w.length := by simp [mixL]; omega
theorem wv_apL {l v : List Nat} (h : v.length ≤ 200) : wv (apL l v) = true := by
  refine wv_ofR (by rw [apL_len]; exact h) fun x hx => ?_
  simp only [apL, List.mem_map] at hx
  obtain ⟨c, _, rfl⟩ := hx
  exact ap1_bd l c
theorem cw_yes {t : Nat} {v w : List Nat} (hv : wv v = true) (hw : wv w = true) (hl : v.length = w.length) : cwOk v w = true ∧ cw t v w = mixL t v w := by
  have h : cwOk v w = true := by unfold cwOk g3; rw [hv, hw, hl]; simp
  exact ⟨h, by rw [cw, h]; rfl⟩
theorem tp_mix {a b ks : List Nat} (ha : tpOk a ks = true) (hb : tpOk b ks = true) (hl : a.length = b.length) : tp (mixL 1 a b) ks = mixL 1 (tp a ks) (tp b ks) := by
  have hm : tpOk (mixL 1 a b) ks = true := tpOk_of (wv_mix (wv_len (tpOk_yes ha).1) hl) (tpOk_yes ha).2
  rw [tp_yes hm, tp_yes ha, tp_yes hb, mix_len2 hl, hl]
  exact readL_mixL (col_ok hb).1 (by rw [(col_ok hb).2, hl]) (col_ok hb).2.symm
theorem tp_apL {l v ks : List Nat} (h : tpOk v ks = true) : tp (apL l v) ks = apL l (tp v ks) := by
  have hm : tpOk (apL l v) ks = true := tpOk_of (wv_apL (wv_len (tpOk_yes h).1)) (tpOk_yes h).2
  rw [tp_yes hm, tp_yes h, apL_len]
  exact readL_map (col_ok h).1 (col_ok h).2.symm
theorem ap_len (l v : List Nat) (h : v.length ≤ 200) : (ap l v).length ≤ 200 := by
  unfold ap
  split
  · rw [apL_len]; exact h
  · simp
theorem tp_short (l ks : List Nat) : (tp l ks).length ≤ l.length := by
  cases h : tpOk l ks
  · rw [tp_no h]; simp
  · rw [tp_len h]; exact Nat.le_refl _
set_option maxHeartbeats 2000000 in
set_option maxRecDepth 20000 in
theorem walk_FnTransposeAdd (a0 : Option Addr) (len0 cap0 : Nat) (z0 : List Int) (a1 : Option Addr) (len1 cap1 : Nat) (z1 : List Int) (w : World) (w0 : IsRow .u8 w a0 len0 cap0 z0) (w1 : IsRow .u8 w a1 len1 cap1 z1) :
    Calls Try.prog 3 #[.slice a0 len0 cap0, .slice a1 len1 cap1] w fun e w' => e = .returned (.bool true) ∧ Below w.heap.size w w' := by
  have hl := w0.len_le
  have hl1 := w1.len_le
  by_cases hbig : 1048576 < len0
  · clear w0 w1
    go_enter Try.func3, Try.ntmps3
    go_wp2_with fail
    go_ret
    exact ⟨rfl, Below.refl _ _⟩
  by_cases hbig1 : 1048576 < len1
  · clear w0 w1
    go_enter Try.func3, Try.ntmps3
    go_wp2_with fail
    go_ret
    exact ⟨rfl, Below.refl _ _⟩
  · have W0 := Lib.hid w0
    have W1 := Lib.hid w1
    clear w0 w1
    go_enter Try.func3, Try.ntmps3
    go_wp2_with fail
    refine (spec_DrawTranspose _ _ _ _ _ W0.out).mono ?_
    rintro e v1 ⟨a, key, rfl, has, hks, hb1⟩
    have hkm : key.size ≤ maxLen := by unfold maxLen; omega
    have ham : a.size ≤ maxLen := by unfold maxLen; omega
    go_wp2_with fail
    refine (impl_Transpose a key _ ham hkm).mono ?_
    rintro e v2 ⟨r, rfl, hr, hb2⟩
    have Hr := Lib.hid hr
    have hB2 := bthen hb1 hb2
    clear hr
    go_wp2_with fail
    refine (spec_Transpose a key _ ham hkm).mono ?_
    rintro e v3 ⟨r', rfl, hr', hb3⟩
    obtain rfl : r = r' := nb_inj (by rw [Hr.out, hr'])
    have hB3 := bthen hB2 hb3
    clear hr'
    cases hok : tpOk (nb a) (nb key)
    · go_wp2_with fail
      go_ret
      exact ⟨rfl, hB3⟩
    · obtain ⟨hv, hk⟩ := tpOk_yes hok
      have la := wv_len hv
      have hrv : rvW (nb a) = (nb a).reverse := by rw [rvW, hv]; rfl
      have vrv := wv_rev hv
      have lrv : (nb a).reverse.length = (nb a).length := List.length_reverse
      have hokv : tpOk (nb a).reverse (nb key) = true := tpOk_of vrv hk
      have hcs := cw_yes (t := 1) vrv hv lrv
      have hoks : tpOk (mixL 1 (nb a).reverse (nb a)) (nb key) = true := tpOk_of (wv_mix (by rw [lrv]; exact la) lrv) hk
      have hcz := cw_yes (t := 1) (wv_tp hokv) (wv_tp hok) (by rw [tp_len hokv, tp_len hok, lrv])
      have htm := tp_mix hokv hok lrv
      have Hrv := Lib.hid hrv
      have Hcs := Lib.hid hcs
      have Hcz := Lib.hid hcz
      have Htm := Lib.hid htm
      have Hokv := Lib.hid hokv
      have Hoks := Lib.hid hoks
      have Hok := Lib.hid hok
      have Hv := Lib.hid hv
      have Hk := Lib.hid hk
      have Hla := Lib.hid la
      have hrs : r.size ≤ 200 := by rw [← nb_length, Hr.out, tp_len hok]; exact la
      have hrm : r.size ≤ maxLen := by unfold maxLen; omega
      have Hlr := Lib.hid lrv
      clear hv hk la hrv vrv lrv hokv hcs hoks hcz htm hok
      go_wp2_with fail
      refine (impl_ReverseWord a _ ham).mono ?_
      rw [Hrv.out]
      rintro e v4 ⟨v, rfl, hv, hb4⟩
      have hB4 := bthen hB3 hb4
      have Hv' := Lib.hid hv
      have hvm : v.size ≤ maxLen := by rw [← nb_length, hv, Hlr.out, nb_length]; exact ham
      clear hv
      go_wp2_with fail
      refine (impl_AddWords v a _ hvm ham).mono ?_
      rw [Hv'.out, Hcs.out.1, Hcs.out.2]
      rintro e v5 ⟨s, rfl, hs, hb5⟩
      have hB5 := bthen hB4 hb5
      have Hs := Lib.hid hs
      have hsm : s.size ≤ maxLen := by rw [← nb_length, hs, mix_len2 Hlr.out, nb_length]; exact ham
      clear hs
      go_wp2_with fail
      refine (impl_Transpose v key _ hvm hkm).mono ?_
      rw [Hv'.out, Hokv.out]
      rintro e v6 ⟨x, rfl, hx, hb6⟩
      have hB6 := bthen hB5 hb6
      have Hx := Lib.hid hx
      have hxm : x.size ≤ maxLen := by rw [← nb_length, hx, tp_len Hokv.out, Hlr.out, nb_length]; exact ham
      clear hx
      go_wp2_with fail
      refine (impl_Transpose s key _ hsm hkm).mono ?_
      rw [Hs.out, Hoks.out, Htm.out]
      rintro e v7 ⟨y, rfl, hy, hb7⟩
      have hB7 := bthen hB6 hb7
      have Hy := Lib.hid hy
      clear hy
      go_wp2_with fail
      refine (impl_AddWords x r _ hxm hrm).mono ?_
      rw [Hx.out, Hr.out, Hcz.out.1, Hcz.out.2]
      rintro e v8 ⟨z, rfl, hz, hb8⟩
      obtain rfl : z = y := nb_inj (by rw [hz, Hy.out])
      have hB8 := bthen hB7 hb8
      have W8 := Lib.hid (W1.out.next hB8)
      clear hz
      go_wp2_with fail
      refine (spec_DrawInversePerm _ _ _ _ _ W8.out).mono ?_
      rintro e v9 ⟨p, rfl, hps, hb9⟩
      have hB9 := bthen hB8 hb9
      have hpm : p.size ≤ maxLen := by unfold maxLen; omega
      go_wp2_with fail
      refine (impl_ApplyPerm p a _ hpm ham).mono ?_
      rintro e v10 ⟨q, rfl, hq, hb10⟩
      have hB10 := bthen hB9 hb10
      have Hq := Lib.hid hq
      have hqm : q.size ≤ maxLen := by rw [← nb_length, hq]; have := ap_len (nb p) (nb a) Hla.out; unfold maxLen; omega
      clear hq
      go_wp2_with fail
      refine (impl_Transpose q key _ hqm hkm).mono ?_
      rintro e v11 ⟨n, rfl, hn, hb11⟩
      have hB11 := bthen hB10 hb11
      have Hn := Lib.hid hn
      clear hn
      cases hpo : pOk (nb p)
      · go_wp2_with fail
        refine (impl_PermValid p _ hpm).mono ?_
        rintro e v12 ⟨rfl, hb12⟩
        go_wp2_with fail
        go_ret
        exact ⟨rfl, bthen hB11 hb12⟩
      · have Hfin : Hid (ap (nb p) (nb r) = nb n) := by
          show _ = _
          have h1 : ap (nb p) (nb a) = apL (nb p) (nb a) := by rw [ap, hpo, Hv.out]; rfl
          have h2 : ap (nb p) (nb r) = apL (nb p) (nb r) := by rw [ap, hpo, Hr.out, wv_tp Hok.out]; rfl
          rw [h2, Hn.out, Hq.out, h1, Hr.out]
          exact (tp_apL Hok.out).symm
        go_wp2_with fail
        refine (impl_PermValid p _ hpm).mono ?_
        rintro e v12 ⟨rfl, hb12⟩
        have hB12 := bthen hB11 hb12
        go_wp2_with fail
        refine (impl_ApplyPerm p r _ hpm hrm).mono ?_
        rw [Hfin.out]
        rintro e v13 ⟨m, rfl, hm, hb13⟩
        obtain rfl : m = n := nb_inj hm
        clear hm
        go_wp2_with fail
        go_ret
        exact ⟨rfl, bthen hB12 hb13⟩
end Go.Proofs.Ytppdikegmijfgaa
