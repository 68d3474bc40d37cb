/- The walk of the law on the columns of a transposed word. No condition. Written by mk_laws17l.py. -/
import Derived.Test.YtljnakjphbnbjaaDraw17c
import Derived.Test.YtljnakjphbnbjaaColsOf
set_option linter.unusedVariables false
namespace Go.Proofs.Ytljnakjphbnbjaa
open Go.RowKit

theorem readL_app (l : List Nat) (xs ys : List Int) : readL l (xs ++ ys) = readL l xs ++ readL l ys := by simp [readL]

set_option maxHeartbeats 2000000 in
theorem walk_FnTransposeColumns (a0 : Option Addr) (len0 cap0 : Nat) (z0 : List Int) (w : World) (w0 : IsRow .u8 w a0 len0 cap0 z0) :
    Calls Try.prog 5 #[.slice a0 len0 cap0] w fun e w' => e = .returned (.bool true) ∧ Below w.heap.size w w' := by
  have hl := w0.len_le
  by_cases hbig : 1048576 < len0
  · clear w0
    go_enter Try.func5, Try.ntmps5
    go_wp2_with fail
    go_ret
    exact ⟨rfl, Below.refl _ _⟩
  · have W0 := Lib.hid w0
    clear w0
    go_enter Try.func5, Try.ntmps5
    go_wp2_with fail
    refine (spec_DrawTranspose _ _ _ _ _ W0.out).mono ?_
    rintro e v1 ⟨a, key, rfl, has, hks, hb1⟩
    have hkm : key.size ≤ maxLen := by unfold maxLen; omega
    have ham : a.size ≤ maxLen := by unfold maxLen; omega
    go_wp2_with fail
    refine (impl_Transpose a key _ ham hkm).mono ?_
    rintro e v2 ⟨r, rfl, hr, hb2⟩
    have Hr := Lib.hid hr
    have hB2 := bthen hb1 hb2
    clear hr
    go_wp2_with fail
    refine (spec_Transpose a key _ ham hkm).mono ?_
    rintro e v3 ⟨r', rfl, hr', hb3⟩
    obtain rfl : r = r' := nb_inj (by rw [Hr.out, hr'])
    have hB3 := bthen hB2 hb3
    clear hr'
    cases hok : tpOk (nb a) (nb key)
    · go_wp2_with fail
      go_ret
      exact ⟨rfl, hB3⟩
    · obtain ⟨hv, hk⟩ := tpOk_yes hok
      have la := wv_len hv
      rw [nb_length] at la
      have hrs : r.size = a.size := by rw [← nb_length, Hr.out, tp_len hok, nb_length]
      have hrle : r.size ≤ 200 := by omega
      have hrm : r.size ≤ maxLen := by unfold maxLen; omega
      have Hok := Lib.hid hok
      have Hok2 : Hid (tpOk (nb r) (nb key) = true) := by show _ = _; rw [Hr.out]; exact tpOk_of (wv_tp hok) hk
      have Hnl := Lib.hid (nb_length a)
      have hko : ko (nb key) = koL (nb key) := by rw [ko, hk]; rfl
      obtain ⟨k1, k2, hkw⟩ := kval_yes hk
      have hkl := (koL_len hkw).trans (nb_length key)
      rw [nb_length] at k1 k2
      have Hko := Lib.hid hko
      have Hkl := Lib.hid hkl
      have Hkp := Lib.hid (koL_plv hk)
      have Hrd : Hid (nb r = readL (nb a) ((cols (nb key).length (koL (nb key)) a.size).take key.size).flatten) := by
        show _ = _
        have := cols_all (ks := nb key) a.size
        rw [hkl] at this
        rw [Hr.out, tp_yes hok, nb_length a, this]
      have Hsh := Lib.hid (fun k => cols_short hk a.size k)
      have Hkn := Lib.hid (nb_length key)
      clear hko hkl hkw hk hrs hok
      go_wp2_with fail
      refine (impl_ColumnsOf a key.size _ hv k1 k2).mono ?_
      rintro e v4 ⟨A4, c4, zs, rfl, hl4, hz4, hS4, hb4⟩
      have hB4 := bthen hB3 hb4
      have Hl4 := Lib.hid hl4
      have Hz4 := Lib.hid hz4
      clear hl4 hz4
      go_wp2_with fail
      refine (impl_KeyOrder key _ hkm).mono ?_
      rw [Hko.out]
      rintro e v5 ⟨A5, n5, c5, rfl, hl5, ho5, hb5⟩
      obtain rfl : n5 = key.size := by have := Hkl.out; omega
      have hB5 := bthen hB4 hb5
      have hI5 := ho5.ints
      have hS5 := hS4.next hb5
      clear hl5 ho5 hS4
      go_wp2_with fail
      go_loopw [11, 12] (fun o i wr => ∃ (k : Nat) (s : ByteArray), k ≤ key.size ∧ i = .int .i64 k ∧ o = .string s ∧ Hid (nb s = readL (nb a) ((cols (nb key).length (koL (nb key)) a.size).take k).flatten) ∧ Below v5.heap.size v5 wr) (fun _ i _ => key.size - (intOf i).toNat)
      case atStart => exact ⟨0, ByteArray.empty, Nat.zero_le _, rfl, rfl, rfl, Below.refl _ _⟩
      case round =>
        obtain ⟨k, s, hkk, rfl, rfl, Hs, hbe⟩ := hrel
        have hss : s.size ≤ 200 := by rw [← nb_length, Hs.out, readL_len]; have := Hsh.out k; omega
        by_cases hlt : k < key.size
        · obtain ⟨c, hc, hcl⟩ := plv_nat Hkp.out (by rw [Hkl.out]; exact hlt : k < (koL (nb key)).length)
          rw [Hkl.out] at hcl
          obtain ⟨x, hx⟩ := sget zs c (by rw [Hl4.out]; exact hcl)
          have hnx : nb x = cS (nb a) key.size c a.size := by
            have h1 : (zs.map nb)[c]? = some (nb x) := by rw [List.getElem?_map, hx]; rfl
            rw [Hz4.out, cSs_at _ _ _ _ hcl, Hnl.out] at h1
            injection h1 with h1
            exact h1.symm
          have hxs : x.size ≤ 200 := by rw [← nb_length, hnx]; have := cS_len (nb a) key.size c a.size; omega
          have Hnx : Hid (nb s ++ nb x = readL (nb a) ((cols (nb key).length (koL (nb key)) a.size).take (k + 1)).flatten) := by
            show _ = _
            rw [Hs.out, hnx, cols_take hc, readL_app, Hkn.out]; rfl
          obtain ⟨b1, off1, rfl, hbl1, hc1⟩ := (hI5.next hbe).at_ hc
          obtain ⟨b2, off2, rfl, hbl2, hc2⟩ := (hS5.next hbe).at_ hx
          have HI := Lib.hid hI5
          have HS := Lib.hid hS5
          clear hI5 hS5 hc hx hnx
          go_wp2_with fail
          go_roundw
          case rel => exact ⟨k + 1, s ++ x, by omega, by go_num, rfl, (show nb (s ++ x) = _ by rw [nb_append]; exact Hnx.out), hbe⟩
          case measure => simp [intOf]; omega
        · have hkn : k = key.size := by omega
          subst hkn
          obtain rfl : s = r := nb_inj (by rw [Hs.out, Hrd.out])
          go_wp2_with fail
          go_ret
          exact ⟨rfl, bthen hB5 hbe⟩
end Go.Proofs.Ytljnakjphbnbjaa
