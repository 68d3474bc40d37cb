/- The walk of the law on the places of columns. No condition. -/
import Derived.Test.YtggjlagfjggmiaaDraw17c
import Derived.Test.YtggjlagfjggmiaaCol
import Derived.Test.YtggjlagfjggmiaaTrans
import Derived.Test.YtggjlagfjggmiaaPlainK2
import Derived.Test.YtggjlagfjggmiaaRc
set_option linter.unusedVariables false
namespace Go.Proofs.Ytggjlagfjggmiaa
open Go.RowKit

set_option maxHeartbeats 2000000 in
theorem walk_FnColumnPlaces (a0 : Option Addr) (len0 cap0 : Nat) (z0 : List Int) (w : World) (w0 : IsRow .u8 w a0 len0 cap0 z0) :
    Calls Try.prog 7 #[.slice a0 len0 cap0] w fun e w' => e = .returned (.bool true) ∧ Below w.heap.size w w' := by
  have hl := w0.len_le
  by_cases hbig : 1048576 < len0
  · clear w0
    go_enter Try.func7, Try.ntmps7
    go_wp2_with fail
    go_ret
    exact ⟨rfl, Below.refl _ _⟩
  · have W0 := Lib.hid w0
    clear w0
    go_enter Try.func7, Try.ntmps7
    go_wp2_with fail
    refine (spec_DrawColumnPlaces _ _ _ _ _ W0.out).mono ?_
    rintro e v1 ⟨key, z, rfl, hks, hb1⟩
    have hkm : key.size ≤ maxLen := by unfold maxLen; omega
    go_wp2_with fail
    refine (impl_ColumnPlaces key z _ hkm).mono ?_
    rintro e v2 ⟨A2, n2, c2, rfl, hl2, ho2, hb2⟩
    have hn2 : n2 ≤ 200 := by have := cp_len (nb key) z; omega
    have hI2 := ho2.ints
    have hB2 := bthen hb1 hb2
    have Hl2 := Lib.hid hl2
    clear hl2 ho2
    have hsame := same_refl (cp (nb key) z)
    go_wp2_with fail
    refine (spec_ColumnPlaces key z _ hkm).mono ?_
    rintro e v4 ⟨A4, n4, c4, rfl, hl4, ho4, hb4⟩
    obtain rfl : n4 = n2 := by have := Hl2.out; omega
    have hB4 := bthen hB2 hb4
    clear hl4
    go_wp2_with fail
    refine (laws_rcInts _ _ _ _ _ _ _ _ _ (hI2.next hb4) ho4.ints Hl2.out Hl2.out (by omega) (by omega)).mono ?_
    rintro e v5 ⟨rfl, hb5⟩
    have hB5 := bthen hB4 hb5
    have hI5 := (hI2.next hb4).next hb5
    clear ho4 hI2
    go_wp2_with fail
    refine (impl_KeyOrder key _ hkm).mono ?_
    rintro e v6 ⟨A6, n6, c6, rfl, hl6, ho6, hb6⟩
    have hn6 : n6 ≤ 12 := by have := ko_len (nb key); omega
    have hB6 := bthen hB5 hb6
    have hI6 := hI5.next hb6
    have Hl6 := Lib.hid hl6
    clear hl6 ho6 hI5
    by_cases hbad : n6 = 0 ∨ z < 0 ∨ 200 < z
    · have hcase : ((n6 : Int) == 0) = true ∨ (((n6 : Int) == 0) = false ∧ z < 0) ∨ (((n6 : Int) == 0) = false ∧ ¬ z < 0 ∧ 200 < z) := by
        rcases Nat.eq_zero_or_pos n6 with rfl | h0
        · exact .inl rfl
        · have hb : ((n6 : Int) == 0) = false := by rw [beq_eq_false_iff_ne]; omega
          by_cases hz : z < 0
          · exact .inr (.inl ⟨hb, hz⟩)
          · exact .inr (.inr ⟨hb, hz, by omega⟩)
      clear hbad
      rcases hcase with h0 | ⟨h0, h1⟩ | ⟨h0, h1, h2⟩
      all_goals
        go_wp2_with fail
        refine (spec_ColumnPlaces key z _ hkm).mono ?_
        rintro e v7 ⟨A7, n7, c7, rfl, hl7, ho7, hb7⟩
        obtain rfl : n7 = n4 := by have := Hl2.out; omega
        have hB7 := bthen hB6 hb7
        clear hl7
        go_wp2_with fail
        refine (laws_rcInts _ _ _ _ _ _ _ _ _ (hI6.next hb7) ho7.ints Hl2.out Hl2.out (by omega) (by omega)).mono ?_
        rintro e v8 ⟨rfl, hb8⟩
        go_wp2_with fail
        go_ret
        exact ⟨rfl, bthen hB7 hb8⟩
    · have hk : kval (nb key) = true := by
        cases hk : kval (nb key)
        · have hko : ko (nb key) = [] := by rw [ko, hk]; rfl
          have := Hl6.out
          rw [hko] at this
          simp at this
          omega
        · rfl
      obtain ⟨N, rfl, hN⟩ : ∃ N : Nat, z = (N : Int) ∧ N ≤ 200 := ⟨z.toNat, by omega, by omega⟩
      have hb6' : ((n6 : Int) == 0) = false := by rw [beq_eq_false_iff_ne]; omega
      obtain ⟨k1, k2, hv⟩ := kval_yes hk
      rw [nb_length] at k1 k2
      have hko : ko (nb key) = koL (nb key) := by rw [ko, hk]; rfl
      have hkl := (koL_len hv).trans (nb_length key)
      obtain rfl : n6 = key.size := by have := Hl6.out; rw [hko] at this; omega
      have hcp := cp_yes hk hN
      have hcl := colL_len hk N
      obtain rfl : n4 = N := by have := Hl2.out; rw [hcp] at this; omega
      rw [hcp] at hI6
      have Hkp := Lib.hid (koL_plv hk)
      have Hkl := Lib.hid hkl
      have Hko := Lib.hid hko
      have Hcl := Lib.hid hcl
      have hplv := colL_plv hk hN
      have Hsh := Lib.hid (fun k => cols_short hk n4 k)
      have Hnl := Lib.hid (nb_length key)
      have Hall := Lib.hid (cols_all (ks := nb key) n4)
      have hN0 : ¬ (n4 : Int) < 0 := by omega
      have hN2 : ¬ (200 : Int) < (n4 : Int) := by omega
      clear hkl hko hk hbad hv hcl hcp
      go_wp2_with fail
      refine (impl_KeyOrder key _ hkm).mono ?_
      rw [Hko.out]
      rintro e v7 ⟨A7, n7, c7, rfl, hl7, ho7, hb7⟩
      obtain rfl : n7 = key.size := by have := Hkl.out; omega
      have hB7 := bthen hB6 hb7
      have hI7 := hI6.next hb7
      have hO7 := ho7.ints
      clear hl7 ho7 hI6
      go_wp2_with fail
      go_loopw [7, 8] (fun t i wr => ∃ (k : Nat), k ≤ key.size ∧ i = .int .i64 k ∧ t = .int .i64 ((((cols (nb key).length (koL (nb key)) n4).take k).flatten).length : Int) ∧ Below v7.heap.size v7 wr) (fun _ i _ => key.size - (intOf i).toNat)
      case atStart => exact ⟨0, Nat.zero_le _, rfl, rfl, Below.refl _ _⟩
      case round =>
        obtain ⟨k, hk2, rfl, rfl, hbe⟩ := hrel
        by_cases hlt : k < key.size
        · obtain ⟨c, hc, hcl⟩ := plv_nat Hkp.out (by rw [Hkl.out]; exact hlt : k < (koL (nb key)).length)
          rw [Hkl.out] at hcl
          obtain ⟨bb, off, rfl, hbl, hcell⟩ := (hO7.next hbe).at_ hc
          have Hct := Lib.hid (cols_take (m := (nb key).length) (n := n4) hc)
          have Hc := Lib.hid hc
          have HO7 := Lib.hid hO7
          have HI7 := Lib.hid hI7
          clear hc hO7 hI7
          go_wp2_with fail
          go_loopw [7, 9] (fun t i wt => ∃ a : Nat, a < n4 + key.size ∧ i = .int .i64 a ∧ Hid (a % key.size = c) ∧ t = .int .i64 ((((cols (nb key).length (koL (nb key)) n4).take k).flatten ++ colK (nb key).length c a).length : Int) ∧ Below v7.heap.size v7 wt) (fun _ i _ => n4 + key.size - (intOf i).toNat)
          case atStart => exact ⟨c, by omega, rfl, mod_of_lt hcl, by rw [colK_start (by rw [Hnl.out]; exact hcl), List.append_nil], hbe⟩
          case round =>
            obtain ⟨a, ha, rfl, Hm, rfl, hbj⟩ := hrel
            clear hcell
            by_cases hlj : a < n4
            · have Hat := col_at (n := n4) Hc.out (by rw [Hnl.out]; exact Hm.out) hlj
              have hlen := (List.getElem?_eq_some_iff.1 Hat).1
              rw [Hcl.out] at hlen
              obtain ⟨b2, off2, rfl, hbl2, hcell2⟩ := (HI7.out.next hbj).at_ Hat
              have Hs := Lib.hid (colK_next (m := (nb key).length) (c := c) (a := a) (by rw [Hnl.out]; exact k1) (by rw [Hnl.out]; exact Hm.out))
              have hne : ((a : Int) != (a : Int)) = false := by simp
              have Hls : Hid ((((cols (nb key).length (koL (nb key)) n4).take k).flatten ++ colK (nb key).length c (a + key.size)).length = (((cols (nb key).length (koL (nb key)) n4).take k).flatten ++ colK (nb key).length c a).length + 1) := by
                show _ = _
                rw [← Hnl.out, Hs.out, ← List.append_assoc, List.length_append (bs := [(a : Int)])]; rfl
              clear Hat Hs
              generalize (((cols (nb key).length (koL (nb key)) n4).take k).flatten ++ colK (nb key).length c a).length = t at *
              go_wp2_with fail
              go_roundw
              case rel => exact ⟨a + key.size, by omega, by go_num, (show (a + key.size) % key.size = c by rw [Nat.add_mod_right]; exact Hm.out), by rw [Hls.out]; go_num, hbj⟩
              case measure => simp [intOf]; omega
            · have Hd := Lib.hid (colK_done (m := (nb key).length) (c := c) (a := a) (n := n4) (by rw [Hnl.out]; exact k1) (by rw [Hnl.out]; exact Hm.out) (by omega) (by rw [Hnl.out]; exact ha))
              go_wp2_with fail
              go_roundw
              case rel => exact ⟨k + 1, by omega, by go_num, by rw [Hct.out, ← Hd.out], hbj⟩
              case measure => simp [intOf]; omega
        · have hkn : k = key.size := by omega
          subst hkn
          have Hall' : Hid ((((cols (nb key).length (koL (nb key)) n4).take key.size).flatten).length = n4) := by
            show _ = _
            have := Hall.out
            rw [Hkl.out] at this
            rw [← this, Hcl.out]
          have HI7 := Lib.hid hI7
          clear hI7
          generalize (((cols (nb key).length (koL (nb key)) n4).take key.size).flatten).length = t at *
          obtain rfl : t = n4 := Hall'.out
          have heq : ((t : Int) == (t : Int)) = true := by simp
          go_wp2_with fail
          refine (impl_PlacesValid _ _ _ _ _ (HI7.out.next hbe) Hcl.out (by omega)).mono ?_
          rintro e v8 ⟨rfl, hb8⟩
          go_wp2_with fail
          go_ret
          exact ⟨rfl, bthen (bthen hB7 hbe) hb8⟩
end Go.Proofs.Ytggjlagfjggmiaa
