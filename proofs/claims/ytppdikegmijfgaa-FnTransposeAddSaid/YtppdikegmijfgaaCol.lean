/- The places of columns; transposing: both programs return what the plain functions say. No condition. -/
import Derived.Test.YtppdikegmijfgaaKeyOrd
import Derived.Test.YtppdikegmijfgaaRead
import Derived.Test.YtppdikegmijfgaaApp
set_option linter.unusedVariables false
namespace Go.Proofs.Ytppdikegmijfgaa
open Go.RowKit

theorem mod_of_lt {c m : Nat} (h : c < m) : c % m = c := Nat.mod_eq_of_lt h
theorem cp_no {ks : List Nat} {n : Int} (h : cpv ks n = false) : cp ks n = [] := by rw [cp, h]; rfl
theorem cols_all {ks : List Nat} (n : Nat) : colL ks n = ((cols ks.length (koL ks) n).take (koL ks).length).flatten := by rw [colL, ← cols_len ks.length (koL ks) n, List.take_length]
set_option maxHeartbeats 2000000 in
theorem impl_ColumnPlaces (key : ByteArray) (n : Int) (w : World) (hs : key.size ≤ maxLen) : Calls Try.prog 19 #[.string key, .int .i64 n] w (RetI w (cp (nb key) n)) := by
  cases hv : cpv (nb key) n
  · rw [cp_no hv]
    cases hk : kval (nb key)
    · go_enter Try.func19, Try.ntmps19
      go_wp2_with fail
      refine (impl_keyValid _ _ hs).mono ?_
      rw [hk]
      rintro e v1 ⟨rfl, rfl⟩
      go_wp2_with fail
      go_ret
      exact ⟨_, 0, 0, rfl, rfl, .inl rfl, Below.refl _ _⟩
    · have hq : decide (0 ≤ n ∧ n ≤ 200) = false := by rw [cpv, hk, Bool.true_and] at hv; exact hv
      have hq' : n < 0 ∨ (0 ≤ n ∧ 200 < n) := by rw [decide_eq_false_iff_not] at hq; omega
      clear hq hv
      rcases hq' with h1 | ⟨h0, h1⟩
      · go_enter Try.func19, Try.ntmps19
        go_wp2_with fail
        refine (impl_keyValid _ _ hs).mono ?_
        rw [hk]
        rintro e v1 ⟨rfl, rfl⟩
        go_wp2_with fail
        go_ret
        exact ⟨_, 0, 0, rfl, rfl, .inl rfl, Below.refl _ _⟩
      · have h0' : ¬ n < 0 := by omega
        go_enter Try.func19, Try.ntmps19
        go_wp2_with fail
        refine (impl_keyValid _ _ hs).mono ?_
        rw [hk]
        rintro e v1 ⟨rfl, rfl⟩
        go_wp2_with fail
        go_ret
        exact ⟨_, 0, 0, rfl, rfl, .inl rfl, Below.refl _ _⟩
  · have hr : cp (nb key) n = colL (nb key) n.toNat := by rw [cp, hv]; rfl
    rw [hr]
    clear hr
    obtain ⟨hk, N, rfl, hN⟩ := cpv_yes hv
    rw [Int.toNat_natCast, cols_all]
    have hko : ko (nb key) = koL (nb key) := by rw [ko, hk]; rfl
    obtain ⟨k1, k2, hw⟩ := kval_yes hk
    have hkl := koL_len hw
    have hkp := koL_plv hk
    have Hkp := Lib.hid hkp
    have Hsh := Lib.hid (fun k => cols_short hk N k)
    rw [nb_length] at k1 k2 hkl
    have Hkl := Lib.hid hkl
    obtain ⟨w1, hmk, hrow, hbel, hsz⟩ := make_room N (by omega) w
    have hN0 : ¬ (N : Int) < 0 := by omega
    have hN2 : ¬ (200 : Int) < (N : Int) := by omega
    have Hnl := Lib.hid (nb_length key)
    clear hv hw hkp hkl
    go_enter Try.func19, Try.ntmps19
    go_wp2_with fail
    refine (impl_keyValid _ _ hs).mono ?_
    rw [hk]
    rintro e v1 ⟨rfl, rfl⟩
    go_wp2_with fail
    refine (impl_KeyOrder _ _ hs).mono ?_
    rw [hko]
    rintro e v2 ⟨A2, n2, c2, rfl, hl2, ho2, hB2⟩
    obtain rfl : n2 = key.size := by have := Hkl.out; omega
    have hord : ∃ g2, A2 = some ⟨g2, 0, none⟩ ∧ w1.heap.size ≤ g2 ∧ Buf v2 g2 3 (icells (koL (nb key))) := by
      rcases ho2 with h | h
      · have := Hkl.out; rw [h] at this; simp at this; omega
      · exact h
    obtain ⟨g2, rfl, hg2, hord⟩ := hord
    have hrow2 := own_kept hrow hB2
    have hbw := bthen hbel hB2
    have hob : Value.ownBlock (.slice (some ⟨w.heap.size, 0, none⟩) 0 N) ≠ some g2 := by intro e; injection e with e; have e' : w.heap.size = g2 := e; omega
    clear hl2 hmk hrow hbel hko ho2
    go_wp2_with fail
    go_loopw [5, 25] (fun o i wr => ∃ k : Nat, k ≤ key.size ∧ i = .int .i64 k ∧ wr.ownsRow w.heap.size 3 1 o (((cols (nb key).length (koL (nb key)) N).take k).flatten).length (icells ((cols (nb key).length (koL (nb key)) N).take k).flatten) ∧ Buf wr g2 3 (icells (koL (nb key))) ∧ o.ownBlock ≠ some g2 ∧ Below w.heap.size w wr) (fun _ i _ => key.size - (intOf i).toNat)
    case atStart => exact ⟨0, Nat.zero_le _, rfl, hrow2, hord, hob, hbw⟩
    case round =>
      obtain ⟨k, hkk, rfl, hrk, hok, hobk, hbe⟩ := hrel
      clear hrow2 hord hob hbw
      have Hrk := Lib.hid hrk
      clear hrk
      by_cases hlt : k < key.size
      · obtain ⟨c, hc, hcl⟩ := plv_nat Hkp.out (by rw [Hkl.out]; exact hlt : k < (koL (nb key)).length)
        rw [Hkl.out] at hcl
        have hcell := hok.cell (icells_at hc)
        have Hct := Lib.hid (cols_take (m := (nb key).length) (n := N) hc)
        clear hc
        go_wp2_with fail
        go_loopw [5, 8] (fun o i wt => ∃ a : Nat, a < N + key.size ∧ i = .int .i64 a ∧ Hid (a % key.size = c) ∧ wt.ownsRow w.heap.size 3 1 o ((((cols (nb key).length (koL (nb key)) N).take k).flatten) ++ colK (nb key).length c a).length (icells (((cols (nb key).length (koL (nb key)) N).take k).flatten ++ colK (nb key).length c a)) ∧ Buf wt g2 3 (icells (koL (nb key))) ∧ o.ownBlock ≠ some g2 ∧ Below w.heap.size w wt) (fun _ i _ => N + key.size - (intOf i).toNat)
        case atStart => exact ⟨c, by omega, rfl, mod_of_lt hcl, by rw [colK_start (by rw [Hnl.out]; exact hcl), List.append_nil]; exact Hrk.out, hok, hobk, hbe⟩
        case round =>
          obtain ⟨a, ha, rfl, Hm, hrj, hoj, hobj, hbj⟩ := hrel
          clear Hrk hok hobk hbe hcell
          have Hrj := Lib.hid hrj
          clear hrj
          by_cases hlj : a < N
          · have hlen : ((((cols (nb key).length (koL (nb key)) N).take k).flatten) ++ colK (nb key).length c a).length ≤ 1000 := by rw [List.length_append]; have := Hsh.out k; have := colK_len (nb key).length c a; omega
            have Hs := Lib.hid (colK_next (m := (nb key).length) (c := c) (a := a) (by rw [Hnl.out]; exact k1) (by rw [Hnl.out]; exact Hm.out))
            go_wp2_with (at_builtin; go_must (refine wpList_append_int3 wr rfl _ _ rfl w.heap.size _ _ _ (a : Int) Hrj.out rfl rfl (by omega) hbj.size ?_); intro v' w1' hown' hgr' hat'; have Ho := Lib.hid hown'; have hbel' := app_below hbj.size Hrj.out hgr'; have hkp' := app_keeps hoj hobj hgr' hat'; clear hown' hgr' hat')
            go_roundw
            case rel => exact ⟨a + key.size, by omega, by go_num, (show (a + key.size) % key.size = c by rw [Nat.add_mod_right]; exact Hm.out), by rw [← Hnl.out, Hs.out, ← List.append_assoc, List.length_append (bs := [(a : Int)])]; exact Ho.out, hkp'.1, hkp'.2, hbj.trans hbel'⟩
            case measure => simp [intOf]; omega
          · have Hd := Lib.hid (colK_done (m := (nb key).length) (c := c) (a := a) (n := N) (by rw [Hnl.out]; exact k1) (by rw [Hnl.out]; exact Hm.out) (by omega) (by rw [Hnl.out]; exact ha))
            go_wp2_with fail
            go_roundw
            case rel => exact ⟨k + 1, by omega, by go_num, by rw [Hct.out, ← Hd.out]; exact Hrj.out, hoj, hobj, hbj⟩
            case measure => simp [intOf]; omega
      · have hkn : k = key.size := by omega
        subst hkn
        go_wp2_with fail
        go_ret
        rw [Hkl.out]
        exact RetI.of_row Hrk.out hbe
set_option maxHeartbeats 2000000 in
theorem spec_ColumnPlaces (key : ByteArray) (n : Int) (w : World) (hs : key.size ≤ maxLen) : Calls Try.prog 23 #[.string key, .int .i64 n] w (RetI w (cp (nb key) n)) := by
  cases hv : cpv (nb key) n
  · rw [cp_no hv]
    have hrow := emptyRowK w w.heap.size (Nat.le_refl _)
    have hbel : Below w.heap.size w (w.alloc (.cells #[] 3)) := (Below.refl _ _).alloc (Nat.le_refl _) _
    cases hq : decide (0 ≤ n ∧ n ≤ 200)
    · go_enter Try.func23, Try.ntmps23
      go_wp2_with fail
      refine (spec_KeyOrder _ _ hs).mono ?_
      rintro e v2 ⟨A2, n2, c2, rfl, hl2, ho2, hB2⟩
      have hrow2 := own_kept hrow hB2
      have hbw := bthen hbel hB2
      clear hl2 ho2 hrow hbel
      go_wp2_with fail
      refine (spec_l1In _ _ _ _ _ hq).mono ?_
      rintro e v3 ⟨rfl, rfl⟩
      go_wp2_with fail
      go_ret
      exact RetI.of_row hrow2 hbw
    · have hk : kval (nb key) = false := by rw [cpv, hq, Bool.and_true] at hv; exact hv
      have hko : ko (nb key) = [] := by rw [ko, hk]; rfl
      go_enter Try.func23, Try.ntmps23
      go_wp2_with fail
      refine (spec_KeyOrder _ _ hs).mono ?_
      rw [hko]
      rintro e v2 ⟨A2, n2, c2, rfl, hl2, ho2, hB2⟩
      obtain rfl : n2 = 0 := hl2.symm
      have hrow2 := own_kept hrow hB2
      have hbw := bthen hbel hB2
      clear hl2 ho2 hrow hbel
      go_wp2_with fail
      refine (spec_l1In _ _ _ _ _ hq).mono ?_
      rintro e v3 ⟨rfl, rfl⟩
      go_wp2_with fail
      refine wp_loop_rounds 1 ?_
      rw [rounds_succ]
      go_wp2_with fail
      go_ret
      exact RetI.of_row hrow2 hbw
  · have hr : cp (nb key) n = colL (nb key) n.toNat := by rw [cp, hv]; rfl
    rw [hr]
    clear hr
    obtain ⟨hk, N, rfl, hN⟩ := cpv_yes hv
    rw [Int.toNat_natCast, cols_all]
    have hko : ko (nb key) = koL (nb key) := by rw [ko, hk]; rfl
    obtain ⟨k1, k2, hw⟩ := kval_yes hk
    have hkl := koL_len hw
    have hkp := koL_plv hk
    have Hkp := Lib.hid hkp
    have Hsh := Lib.hid (fun k => cols_short hk N k)
    rw [nb_length] at k1 k2 hkl
    have Hkl := Lib.hid hkl
    have hrow := emptyRowK w w.heap.size (Nat.le_refl _)
    have hbel : Below w.heap.size w (w.alloc (.cells #[] 3)) := (Below.refl _ _).alloc (Nat.le_refl _) _
    have hsz : (w.alloc (.cells #[] 3)).heap.size = w.heap.size + 1 := by simp
    have Hsz := Lib.hid hsz
    clear hsz
    have hq : decide (0 ≤ (N : Int) ∧ (N : Int) ≤ 200) = true := by rw [decide_eq_true_eq]; omega
    have hN0 : ¬ (N : Int) < 0 := by omega
    have hN2 : ¬ (200 : Int) < (N : Int) := by omega
    have Hnl := Lib.hid (nb_length key)
    clear hv hw hkp hkl
    go_enter Try.func23, Try.ntmps23
    go_wp2_with fail
    refine (spec_KeyOrder _ _ hs).mono ?_
    rw [hko]
    rintro e v2 ⟨A2, n2, c2, rfl, hl2, ho2, hB2⟩
    obtain rfl : n2 = key.size := by have := Hkl.out; omega
    have hord : ∃ g2, A2 = some ⟨g2, 0, none⟩ ∧ (w.alloc (.cells #[] 3)).heap.size ≤ g2 ∧ Buf v2 g2 3 (icells (koL (nb key))) := by
      rcases ho2 with h | h
      · have := Hkl.out; rw [h] at this; simp at this; omega
      · exact h
    obtain ⟨g2, rfl, hg2, hord⟩ := hord
    have hrow2 := own_kept hrow hB2
    have hbw := bthen hbel hB2
    have hob : Value.ownBlock (.slice (some ⟨w.heap.size, 0, none⟩) 0 0) ≠ some g2 := by intro e; injection e with e; have e' : w.heap.size = g2 := e; have := Hsz.out; omega
    clear hl2 hrow hbel hko ho2 hg2
    go_wp2_with fail
    refine (spec_l1In _ _ _ _ _ hq).mono ?_
    rintro e v3 ⟨rfl, rfl⟩
    go_wp2_with fail
    go_loopw [5, 7] (fun o i wr => ∃ k : Nat, k ≤ key.size ∧ i = .int .i64 k ∧ wr.ownsRow w.heap.size 3 1 o (((cols (nb key).length (koL (nb key)) N).take k).flatten).length (icells ((cols (nb key).length (koL (nb key)) N).take k).flatten) ∧ Buf wr g2 3 (icells (koL (nb key))) ∧ o.ownBlock ≠ some g2 ∧ Below w.heap.size w wr) (fun _ i _ => key.size - (intOf i).toNat)
    case atStart => exact ⟨0, Nat.zero_le _, rfl, hrow2, hord, hob, hbw⟩
    case round =>
      obtain ⟨k, hkk, rfl, hrk, hok, hobk, hbe⟩ := hrel
      clear hrow2 hord hob hbw
      have Hrk := Lib.hid hrk
      clear hrk
      by_cases hlt : k < key.size
      · obtain ⟨c, hc, hcl⟩ := plv_nat Hkp.out (by rw [Hkl.out]; exact hlt : k < (koL (nb key)).length)
        rw [Hkl.out] at hcl
        have hcell := hok.cell (icells_at hc)
        have Hct := Lib.hid (cols_take (m := (nb key).length) (n := N) hc)
        clear hc
        go_wp2_with fail
        go_loopw [5, 8] (fun o i wt => ∃ a : Nat, a < N + key.size ∧ i = .int .i64 a ∧ Hid (a % key.size = c) ∧ wt.ownsRow w.heap.size 3 1 o ((((cols (nb key).length (koL (nb key)) N).take k).flatten) ++ colK (nb key).length c a).length (icells (((cols (nb key).length (koL (nb key)) N).take k).flatten ++ colK (nb key).length c a)) ∧ Buf wt g2 3 (icells (koL (nb key))) ∧ o.ownBlock ≠ some g2 ∧ Below w.heap.size w wt) (fun _ i _ => N + key.size - (intOf i).toNat)
        case atStart => exact ⟨c, by omega, rfl, mod_of_lt hcl, by rw [colK_start (by rw [Hnl.out]; exact hcl), List.append_nil]; exact Hrk.out, hok, hobk, hbe⟩
        case round =>
          obtain ⟨a, ha, rfl, Hm, hrj, hoj, hobj, hbj⟩ := hrel
          clear Hrk hok hobk hbe hcell
          have Hrj := Lib.hid hrj
          clear hrj
          by_cases hlj : a < N
          · have hlen : ((((cols (nb key).length (koL (nb key)) N).take k).flatten) ++ colK (nb key).length c a).length ≤ 1000 := by rw [List.length_append]; have := Hsh.out k; have := colK_len (nb key).length c a; omega
            have Hs := Lib.hid (colK_next (m := (nb key).length) (c := c) (a := a) (by rw [Hnl.out]; exact k1) (by rw [Hnl.out]; exact Hm.out))
            go_wp2_with (at_builtin; go_must (refine wpList_append_int3 wr rfl _ _ rfl w.heap.size _ _ _ (a : Int) Hrj.out rfl rfl (by omega) hbj.size ?_); intro v' w1' hown' hgr' hat'; have Ho := Lib.hid hown'; have hbel' := app_below hbj.size Hrj.out hgr'; have hkp' := app_keeps hoj hobj hgr' hat'; clear hown' hgr' hat')
            go_roundw
            case rel => exact ⟨a + key.size, by omega, by go_num, (show (a + key.size) % key.size = c by rw [Nat.add_mod_right]; exact Hm.out), by rw [← Hnl.out, Hs.out, ← List.append_assoc, List.length_append (bs := [(a : Int)])]; exact Ho.out, hkp'.1, hkp'.2, hbj.trans hbel'⟩
            case measure => simp [intOf]; omega
          · have Hd := Lib.hid (colK_done (m := (nb key).length) (c := c) (a := a) (n := N) (by rw [Hnl.out]; exact k1) (by rw [Hnl.out]; exact Hm.out) (by omega) (by rw [Hnl.out]; exact ha))
            go_wp2_with fail
            go_roundw
            case rel => exact ⟨k + 1, by omega, by go_num, by rw [Hct.out, ← Hd.out]; exact Hrj.out, hoj, hobj, hbj⟩
            case measure => simp [intOf]; omega
      · have hkn : k = key.size := by omega
        subst hkn
        go_wp2_with fail
        go_ret
        rw [Hkl.out]
        exact RetI.of_row Hrk.out hbe
end Go.Proofs.Ytppdikegmijfgaa
