/- The walk of the law on the shape of a key. No condition. -/
import Derived.Test.YtggjlagfjggmiaaDraw17c
import Derived.Test.YtggjlagfjggmiaaTrans
import Derived.Test.YtggjlagfjggmiaaPlainK2
import Derived.Test.YtggjlagfjggmiaaRc
set_option linter.unusedVariables false
namespace Go.Proofs.Ytggjlagfjggmiaa
open Go.RowKit

theorem shK_step {w : World} {g : Nat} {t : TypeId} {zs : List Int} {k j : Nat} {v : Int} (h : Buf w g t (bcells (shK zs k))) (hz : zs[k]? = some (j : Int)) (hv : v = ((97 + k : Nat) : Int)) :
    Buf (w.setCell ⟨g, j, none⟩ (.int .u8 v)) g t (bcells (shK zs (k + 1))) := by
  subst hv
  have := h.set j (.int .u8 ((97 + k : Nat) : Int))
  rw [bcells_set] at this
  have e : (zs.getD k 0).toNat = j := by rw [List.getD_eq_getElem?_getD, hz]; simp
  rwa [shK, e]
set_option maxHeartbeats 2000000 in
theorem walk_FnKeyOrderShape (a0 : Option Addr) (len0 cap0 : Nat) (z0 : List Int) (a1 : Option Addr) (len1 cap1 : Nat) (z1 : List Int) (w : World) (w0 : IsRow .u8 w a0 len0 cap0 z0) (w1 : IsRow .u8 w a1 len1 cap1 z1) :
    Calls Try.prog 6 #[.slice a0 len0 cap0, .slice a1 len1 cap1] w fun e w' => e = .returned (.bool true) ∧ Below w.heap.size w w' := by
  have hl := w0.len_le
  have hl1 := w1.len_le
  by_cases hbig : 1048576 < len0
  · clear w0 w1
    go_enter Try.func6, Try.ntmps6
    go_wp2_with fail
    go_ret
    exact ⟨rfl, Below.refl _ _⟩
  by_cases hbig1 : 1048576 < len1
  · clear w0 w1
    go_enter Try.func6, Try.ntmps6
    go_wp2_with fail
    go_ret
    exact ⟨rfl, Below.refl _ _⟩
  · have W0 := Lib.hid w0
    clear w0 w1
    go_enter Try.func6, Try.ntmps6
    go_wp2_with fail
    refine (spec_DrawKeyOrder _ _ _ _ _ W0.out).mono ?_
    rintro e v1 ⟨key, rfl, hks, hb1⟩
    have hkm : key.size ≤ maxLen := by unfold maxLen; omega
    go_wp2_with fail
    refine (impl_KeyOrder key _ hkm).mono ?_
    rintro e v2 ⟨A2, n2, c2, rfl, hl2, ho2, hb2⟩
    have hn2 : n2 ≤ 12 := by have := ko_len (nb key); omega
    have hI2 := ho2.ints
    have hB2 := bthen hb1 hb2
    have Hl2 := Lib.hid hl2
    clear hl2 ho2
    have hsame := same_refl (ko (nb key))
    go_wp2_with fail
    refine (spec_KeyOrder key _ hkm).mono ?_
    rintro e v4 ⟨A4, n4, c4, rfl, hl4, ho4, hb4⟩
    obtain rfl : n4 = n2 := by have := Hl2.out; omega
    have hB4 := bthen hB2 hb4
    clear hl4
    go_wp2_with fail
    refine (laws_rcInts _ _ _ _ _ _ _ _ _ (hI2.next hb4) ho4.ints Hl2.out Hl2.out (by omega) (by omega)).mono ?_
    rintro e v5 ⟨rfl, hb5⟩
    have hB5 := bthen hB4 hb5
    have hI5 := (hI2.next hb4).next hb5
    clear ho4 hI2
    by_cases hbad : n4 = 0 ∨ 10 < n4
    · have hcase : ((n4 : Int) == 0) = true ∨ (((n4 : Int) == 0) = false ∧ (10 : Int) < (n4 : Int)) := by
        rcases hbad with rfl | h
        · exact .inl rfl
        · refine .inr ⟨?_, by omega⟩
          rw [beq_eq_false_iff_ne]; omega
      rcases hcase with h0 | ⟨h0, h1⟩
      · go_wp2_with fail
        refine (spec_KeyOrder key _ hkm).mono ?_
        rintro e v6 ⟨A6, n6, c6, rfl, hl6, ho6, hb6⟩
        obtain rfl : n6 = n4 := by have := Hl2.out; omega
        have hB6 := bthen hB5 hb6
        clear hl6
        go_wp2_with fail
        refine (laws_rcInts _ _ _ _ _ _ _ _ _ (hI5.next hb6) ho6.ints Hl2.out Hl2.out (by omega) (by omega)).mono ?_
        rintro e v7 ⟨rfl, hb7⟩
        go_wp2_with fail
        go_ret
        exact ⟨rfl, bthen hB6 hb7⟩
      · go_wp2_with fail
        refine (spec_KeyOrder key _ hkm).mono ?_
        rintro e v6 ⟨A6, n6, c6, rfl, hl6, ho6, hb6⟩
        obtain rfl : n6 = n4 := by have := Hl2.out; omega
        have hB6 := bthen hB5 hb6
        clear hl6
        go_wp2_with fail
        refine (laws_rcInts _ _ _ _ _ _ _ _ _ (hI5.next hb6) ho6.ints Hl2.out Hl2.out (by omega) (by omega)).mono ?_
        rintro e v7 ⟨rfl, hb7⟩
        go_wp2_with fail
        go_ret
        exact ⟨rfl, bthen hB6 hb7⟩
    · have hk : kval (nb key) = true := by
        cases hk : kval (nb key)
        · have hko : ko (nb key) = [] := by rw [ko, hk]; rfl
          have := Hl2.out
          rw [hko] at this
          simp at this
          omega
        · rfl
      obtain ⟨k1, k2, hv⟩ := kval_yes hk
      rw [nb_length] at k1 k2
      have hko : ko (nb key) = koL (nb key) := by rw [ko, hk]; rfl
      have hkl := (koL_len hv).trans (nb_length key)
      obtain rfl : n4 = key.size := by have := Hl2.out; rw [hko] at this; omega
      have k10 : key.size ≤ 10 := by omega
      have hb0 : ((key.size : Int) == 0) = false := by rw [beq_eq_false_iff_ne]; omega
      have h10 : ¬ (10 : Int) < (key.size : Int) := by omega
      have Hkp := Lib.hid (koL_plv hk)
      have Hkl := Lib.hid hkl
      have Hko := Lib.hid hko
      have Hk := Lib.hid hk
      rw [hko] at hI5
      have hsameL := same_refl (koL (nb key))
      obtain ⟨m40, hm40, hm40'⟩ : ∃ m : Nat, (len1 : Int).tmod 40 = (m : Int) ∧ m < 40 := tmod_nat len1 40 (by omega)
      obtain ⟨N5, hN5, hN5'⟩ : ∃ N : Nat, (5 : Int) + (m40 : Int) = (N : Int) ∧ N ≤ 44 := ⟨5 + m40, by omega, by omega⟩
      have Hnl := Lib.hid (nb_length key)
      clear hkl hko hk hbad hv
      obtain ⟨wm, hmk, hbuf, hbel, hsz⟩ := make_bytes key.size (by omega) v5
      go_wp2_with fail
      go_loopw [8] (fun i wr => ∃ (k : Nat), k ≤ key.size ∧ i = .int .i64 k ∧ Buf wr v5.heap.size 5 (bcells (shK (koL (nb key)) k)) ∧ Below v5.heap.size v5 wr) (fun i _ => key.size - (intOf i).toNat)
      case atStart => exact ⟨0, Nat.zero_le _, rfl, by rw [shK, Hkl.out]; exact hbuf, hbel⟩
      case round =>
        obtain ⟨k, hk2, rfl, hbk, hbe⟩ := hrel
        clear hmk hbuf hbel hsz
        have hB6 := bthen hB5 hbe
        have hI6 := hI5.next hbe
        by_cases hlt : k < key.size
        · obtain ⟨p, hp, hpl⟩ := plv_nat Hkp.out (by rw [Hkl.out]; omega : k < (koL (nb key)).length)
          rw [Hkl.out] at hpl
          obtain ⟨bb, off, rfl, hbl, hc1⟩ := hI6.at_ hp
          have hfree := hbk.free (j := p) (by rw [bcells_len, shK_len, Hkl.out]; exact hpl)
          obtain ⟨u, hcell⟩ : ∃ u, wr.cell? ⟨v5.heap.size, p, none⟩ = some u := by
            obtain ⟨u, hu⟩ := get_some (bcells (shK (koL (nb key)) k)) p (by rw [bcells_len, shK_len, Hkl.out]; exact hpl)
            exact ⟨u, hbk.cell hu⟩
          have Hp := Lib.hid hp
          have hI5' := Lib.hid hI5
          clear hp hI6 hI5
          go_wp2
          go_roundw
          case rel => exact ⟨k + 1, by omega, by go_num, shK_step hbk Hp.out (by omega), hbe.setCell (Nat.le_refl _) _⟩
          case measure => simp [intOf]; omega
        · have hkn : k = key.size := by omega
          subst hkn
          have Hlen : Hid ((shL (koL (nb key))).length = key.size) := by show _ = _; rw [shL_len, Hkl.out]
          have hbk' : Buf wr v5.heap.size 5 (bcells (shL (koL (nb key)))) := by rw [shL, Hkl.out]; exact hbk
          obtain ⟨r, hr, hrun⟩ := of_bytes wr v5.heap.size key.size key.size (shL (koL (nb key))) hbk' Hlen.out (shK_lt _ (by rw [Hkl.out]; omega) _ (Nat.le_refl _))
          have hrs : r.size = key.size := by rw [← nb_length, hr, Hlen.out]
          have hrm : r.size ≤ maxLen := by unfold maxLen; omega
          have Hr := Lib.hid hr
          have HkoR : Hid (ko (nb r) = koL (nb key)) := by
            show _ = _
            rw [Hr.out, ko, shL_kval Hkp.out (by rw [Hkl.out]; omega) (by rw [Hkl.out]; omega), if_pos rfl]
            exact shape_ko Hkp.out (by rw [Hkl.out]; omega)
          have HcpR : Hid (∀ m : Nat, m ≤ 200 → cp (nb r) (m : Int) = cp (nb key) (m : Int)) := by
            intro m hm
            rw [cp_yes (by rw [Hr.out]; exact shL_kval Hkp.out (by rw [Hkl.out]; omega) (by rw [Hkl.out]; omega)) hm, cp_yes Hk.out hm, Hr.out]
            exact shape_col Hk.out (by rw [Hnl.out]; omega) m
          have hsame2 := same_refl (cp (nb key) (N5 : Int))
          have Hbk' := Lib.hid hbk'
          clear hr hrs hbk hbk'
          go_wp2_with fail
          refine (impl_KeyOrder r _ hrm).mono ?_
          rw [HkoR.out]
          rintro e v7 ⟨A7, n7, c7, rfl, hl7, ho7, hb7⟩
          obtain rfl : n7 = key.size := by have := Hkl.out; omega
          have hB7 := bthen hB6 hb7
          clear hl7
          go_wp2_with fail
          refine (laws_rcInts _ _ _ _ _ _ _ _ _ ho7.ints (hI6.next hb7) Hkl.out Hkl.out (by omega) (by omega)).mono ?_
          rintro e v8 ⟨rfl, hb8⟩
          have hB8 := bthen hB7 hb8
          clear ho7
          obtain ⟨r2, hr2, hrun2⟩ := of_bytes v8 v5.heap.size key.size key.size (shL (koL (nb key))) ((Hbk'.out.next hb7).next hb8) Hlen.out (shK_lt _ (by rw [Hkl.out]; omega) _ (Nat.le_refl _))
          obtain rfl : r2 = r := nb_inj (by rw [hr2, Hr.out])
          clear hr2 hrun
          go_wp2_with fail
          refine (impl_ColumnPlaces r2 _ _ hrm).mono ?_
          rw [HcpR.out _ (by omega)]
          rintro e v9 ⟨A9, n9, c9, rfl, hl9, ho9, hb9⟩
          have hB9 := bthen hB8 hb9
          have hn9 : n9 ≤ 200 := by have := cp_len (nb key) (N5 : Int); omega
          have Hl9 := Lib.hid hl9
          clear hl9
          go_wp2_with fail
          refine (impl_ColumnPlaces key _ _ hkm).mono ?_
          rintro e v10 ⟨A10, n10, c10, rfl, hl10, ho10, hb10⟩
          obtain rfl : n10 = n9 := by have := Hl9.out; omega
          clear hl10
          go_wp2_with fail
          refine (laws_rcInts _ _ _ _ _ _ _ _ _ (ho9.ints.next hb10) ho10.ints Hl9.out Hl9.out (by omega) (by omega)).mono ?_
          rintro e v11 ⟨rfl, hb11⟩
          go_wp2_with fail
          go_ret
          exact ⟨rfl, bthen (bthen hB9 hb10) hb11⟩
end Go.Proofs.Ytggjlagfjggmiaa
