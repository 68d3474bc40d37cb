/- The walk of the law on a crib in its own place. No condition. -/
import Derived.Test.YtilnffidckdadaaLaws18i
set_option linter.unusedVariables false
namespace Go.Proofs.Ytilnffidckdadaa
open Go.RowKit

set_option maxHeartbeats 2000000 in
set_option maxRecDepth 20000 in
theorem walk_FnDragTrue (a0 : Option Addr) (len0 cap0 : Nat) (z0 : List Int) (a1 : Option Addr) (len1 cap1 : Nat) (z1 : List Int) (w : World) (w0 : IsRow .u8 w a0 len0 cap0 z0) (w1 : IsRow .u8 w a1 len1 cap1 z1) :
    Calls Try.prog 14 #[.slice a0 len0 cap0, .slice a1 len1 cap1] w fun e w' => e = .returned (.bool true) ∧ Below w.heap.size w w' := by
  have hl := w0.len_le
  have hl1 := w1.len_le
  by_cases hbig : 1048576 < len0
  · clear w0 w1
    go_enter Try.func14, Try.ntmps14
    go_wp2_with fail
    go_ret
    exact ⟨rfl, Below.refl _ _⟩
  by_cases hbig1 : 1048576 < len1
  · clear w0 w1
    go_enter Try.func14, Try.ntmps14
    go_wp2_with fail
    go_ret
    exact ⟨rfl, Below.refl _ _⟩
  · have W0 := Lib.hid w0
    clear w0 w1
    go_enter Try.func14, Try.ntmps14
    go_wp2_with fail
    refine (spec_DrawAddWords _ _ _ _ _ W0.out).mono ?_
    rintro e v1 ⟨a, key, rfl, has, hks, hb1⟩
    have hkm : key.size ≤ maxLen := by unfold maxLen; omega
    have ham : a.size ≤ maxLen := by unfold maxLen; omega
    go_wp2_with fail
    refine (impl_AddWords a key _ ham hkm).mono ?_
    rintro e v2 ⟨r, rfl, hr, hb2⟩
    have Hr := Lib.hid hr
    have hB2 := bthen hb1 hb2
    clear hr
    go_wp2_with fail
    refine (spec_AddWords a key _ ham hkm).mono ?_
    rintro e v3 ⟨r', rfl, hr', hb3⟩
    obtain rfl : r = r' := nb_inj (by rw [Hr.out, hr'])
    have hB3 := bthen hB2 hb3
    clear hr'
    cases hok : cwOk (nb a) (nb key)
    · go_wp2_with fail
      go_ret
      exact ⟨rfl, hB3⟩
    · obtain ⟨va, vk, hlen⟩ := g3_yes hok
      have la := wv_len va
      have hr : nb r = mixL 1 (nb a) (nb key) := by rw [Hr.out, cw, hok]; rfl
      have hrl : (nb r).length = (nb key).length := by rw [hr]; exact mixL_len hlen
      have hrs : r.size = a.size := by rw [← nb_length, hrl, ← hlen, nb_length]
      have hrm : r.size ≤ maxLen := by unfold maxLen; omega
      have Hr2 := Lib.hid hr
      have hrv : rvW (nb a) = (nb a).reverse := by rw [rvW, va]; rfl
      have Hrv := Lib.hid hrv
      have vrv := rv_wv va
      obtain ⟨q, hq, hq10⟩ : ∃ q : Nat, (len1 : Int).tmod 10 = (q : Int) ∧ q < 10 := tmod_nat len1 10 (by omega)
      obtain ⟨t, ht, hta⟩ : ∃ t : Nat, (len1 : Int).tmod ((a.size : Int) + 1) = (t : Int) ∧ t < a.size + 1 := by
        have := tmod_nat len1 (a.size + 1) (by omega)
        simpa using this
      obtain ⟨m, hm, htm⟩ : ∃ m : Nat, ((a.size : Int) - (t : Int) + 1).tdiv 2 = (m : Int) ∧ t + m ≤ a.size := by
        refine ⟨(a.size - t + 1) / 2, ?_, by omega⟩
        rw [Int.tdiv_eq_ediv_of_nonneg (by omega)]; omega
      have vs : wv (((nb a).reverse).map (fun c => 97 + (c - 97 + q) % 10)) = true := sh_wv (by simpa using la) q
      have ls : (((nb a).reverse).map (fun c => 97 + (c - 97 + q) % 10)).length = (nb key).length := by simp; exact hlen
      have Hcw : Hid (cwOk (((nb a).reverse).map (fun c => 97 + (c - 97 + q) % 10)) (nb key) = true) := by
        show _ = _
        unfold cwOk g3
        rw [vs, vk, ls]; simp
      have Hvrv := Lib.hid vrv
      have Hva := Lib.hid va
      have Hvk := Lib.hid vk
      have Hvs := Lib.hid vs
      have Hls := Lib.hid ls
      have Hlen := Lib.hid hlen
      have Hnl := Lib.hid (nb_length a)
      rw [nb_length] at la
      have lk : key.size ≤ 200 := by rw [nb_length, nb_length] at hlen; omega
      have hal : a.size ≤ key.size := by rw [nb_length, nb_length] at hlen; omega
      have hal' : key.size ≤ a.size := by rw [nb_length, nb_length] at hlen; omega
      clear hok va vk hlen hr hrl hrs hrv vrv vs ls
      go_wp2_with fail
      refine (impl_ReverseWord a _ ham).mono ?_
      rw [Hrv.out]
      rintro e v4 ⟨b, rfl, hb, hb4⟩
      have hB4 := bthen hB3 hb4
      have Hb := Lib.hid hb
      clear hb
      go_wp2_with fail
      refine (impl_ShiftWord b q _ (by rw [Hb.out]; exact Hvrv.out) hq10).mono ?_
      rw [Hb.out]
      rintro e v5 ⟨v, rfl, hv, hb5⟩
      have hB5 := bthen hB4 hb5
      have hvs : v.size = key.size := by rw [← nb_length, hv, Hls.out, nb_length]
      have hvm : v.size ≤ maxLen := by unfold maxLen; omega
      have hvk1 : v.size ≤ key.size := by omega
      have hvk2 : key.size ≤ v.size := by omega
      have Hv := Lib.hid hv
      clear hv hvs
      go_wp2_with fail
      refine (impl_AddWords v key _ hvm hkm).mono ?_
      rw [Hv.out, cw, Hcw.out, if_pos rfl]
      rintro e v6 ⟨o, rfl, ho, hb6⟩
      have hB6 := bthen hB5 hb6
      have Hol : Hid ((nb o).length = (nb key).length) := by show _ = _; rw [ho]; exact mixL_len Hls.out
      have hom : o.size ≤ maxLen := by rw [← nb_length, Hol.out, nb_length]; exact hkm
      have Ho := Lib.hid ho
      clear ho
      have HX : Hid (nb (a.extract t (t + m)) = seg (nb a) t m) := by show _ = _; rw [nb_extract, seg]
      have HV : Hid (nb (v.extract t (t + m)) = seg (nb v) t m) := by show _ = _; rw [nb_extract, seg]
      have hta' : t + m ≤ (nb a).length := by rw [nb_length]; exact htm
      have hsl := seg_len hta'
      have hxm : (a.extract t (t + m)).size ≤ maxLen := by rw [← nb_length, HX.out, hsl]; unfold maxLen; omega
      have Hdg : Hid (dgOk (nb r) (nb (a.extract t (t + m))) (nb o) = true) := by
        show _ = _
        have h1 : wv (nb r) = true := by rw [Hr2.out]; exact wv_mixL (by rw [nb_length]; exact la) Hlen.out
        have h2 : wv (nb o) = true := by rw [Ho.out]; exact wv_mixL (by rw [Hls.out, nb_length]; exact lk) Hls.out
        have h3 : (nb r).length = (nb o).length := by rw [Hol.out, Hr2.out]; exact mixL_len Hlen.out
        unfold dgOk g3
        rw [h1, HX.out, wv_seg Hva.out hta', h2, h3]; simp
      have HdN : Hid (dgN (nb r) (nb (a.extract t (t + m))) = a.size + 1 - m) := by
        show _ = _
        rw [dgN, HX.out, hsl, Hr2.out, mixL_len Hlen.out, ← Hlen.out, nb_length]
      have Hat : Hid (dgAt (nb r) (nb (a.extract t (t + m))) (nb o) t = nb (v.extract t (t + m))) := by
        show _ = _
        rw [HX.out, HV.out, Hr2.out, Ho.out, Hv.out]
        exact drag_true Hva.out Hvk.out Hvs.out Hlen.out Hls.out hta'
      clear hta' hsl
      have htmi : (t : Int) + (m : Int) ≤ (a.size : Int) := by omega
      have e1 : ((t : Int) + (m : Int)).toNat = t + m := by omega
      have e0 : (0 : Int) ≤ (t : Int) + (m : Int) := by omega
      have ha1 : (a.size : Int) - (t : Int) + 1 ≤ 300 := by omega
      go_wp2_with fail
      refine (impl_DragCrib r (a.extract t (t + m)) o _ hrm hxm hom).mono ?_
      rw [dg, Hdg.out, if_pos rfl]
      rintro e v7 ⟨A7, n7, c7, zs, rfl, hl7, hz7, hS, hb7⟩
      have hB7 := bthen hB6 hb7
      have hn7 : n7 = a.size + 1 - m := by rw [← hl7, ← HdN.out, ← List.length_map (f := nb), hz7]; simp [dgK]
      have htn : t < n7 := by omega
      obtain ⟨x, hx⟩ := sget zs t (by rw [hl7]; exact htn)
      have hxe : x = v.extract t (t + m) := by
        apply nb_inj
        have h1 : (zs.map nb)[t]? = some (nb x) := by rw [List.getElem?_map, hx]; rfl
        rw [hz7, dgK_at _ _ _ _ _ (by rw [HdN.out]; omega)] at h1
        injection h1 with h1
        rw [← h1]
        exact Hat.out
      obtain ⟨b2, off2, rfl, hbl2, hc2⟩ := hS.strs.at_ hx
      rw [hxe] at hc2
      have hti : (t : Int) < (n7 : Int) := by omega
      have htd : decide ((t : Int) < (n7 : Int)) = true := decide_eq_true hti
      have htv : (t : Int) + (m : Int) ≤ (v.size : Int) := by omega
      have k1 : IntKind.i64.wrap ((t : Int) + (m : Int)) = (t : Int) + (m : Int) := IntWalk.i64_in _ (by omega)
      clear hl7 hz7 hS hx hxe hn7 hq ht hm
      go_wp2_with fail
      go_quiet (fail)
      go_wp2_with fail
      go_ret
      exact ⟨rfl, bel_drewN hB7 _⟩
end Go.Proofs.Ytilnffidckdadaa
