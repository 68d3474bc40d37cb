/- The walk of the law on merging three words with gaps. No condition. -/
import Derived.Test.YtilnffidckdadaaDraw18b
import Derived.Test.YtilnffidckdadaaMerge
import Derived.Test.YtilnffidckdadaaPlain18c
import Derived.Test.YtilnffidckdadaaPartly
set_option linter.unusedVariables false
namespace Go.Proofs.Ytilnffidckdadaa
open Go.RowKit

theorem mg_le (p q : List Nat) : (mg p q).length ≤ p.length := by
  unfold mg
  split
  · simp [mgL]; omega
  · simp
theorem toList_empty {x : ByteArray} (h : x.size = 0) : x.toList.isEmpty = true := by
  rw [ByteArray.toList_eq, List.isEmpty_iff]
  exact List.eq_nil_of_length_eq_zero (by rw [Array.length_toList]; exact h)
theorem toList_some {x : ByteArray} (h : ¬ x.size = 0) : x.toList.isEmpty = false := by
  rw [ByteArray.toList_eq, ← Bool.not_eq_true, List.isEmpty_iff]
  intro e
  have := congrArg List.length e
  rw [Array.length_toList] at this
  exact h this

set_option maxHeartbeats 2000000 in
theorem walk_FnMergeThree (a0 : Option Addr) (len0 cap0 : Nat) (z0 : List Int) (a1 : Option Addr) (len1 cap1 : Nat) (z1 : List Int) (w : World) (w0 : IsRow .u8 w a0 len0 cap0 z0) (w1 : IsRow .u8 w a1 len1 cap1 z1) :
    Calls Try.prog 12 #[.slice a0 len0 cap0, .slice a1 len1 cap1] w fun e w' => e = .returned (.bool true) ∧ Below w.heap.size w w' := by
  have hl := w0.len_le
  have hl1 := w1.len_le
  by_cases hbig : 1048576 < len0
  · clear w0 w1
    go_enter Try.func12, Try.ntmps12
    go_wp2_with fail
    go_ret
    exact ⟨rfl, Below.refl _ _⟩
  by_cases hbig1 : 1048576 < len1
  · clear w0 w1
    go_enter Try.func12, Try.ntmps12
    go_wp2_with fail
    go_ret
    exact ⟨rfl, Below.refl _ _⟩
  · have W0 := Lib.hid w0
    have hU := URow.of_row w1
    clear w0 w1
    go_enter Try.func12, Try.ntmps12
    go_wp2_with fail
    refine (spec_DrawMergePartials _ _ _ _ _ W0.out).mono ?_
    rintro e v1 ⟨p, q, rfl, hp, hq, hb1⟩
    have hpm : p.size ≤ maxLen := by unfold maxLen; omega
    have hqm : q.size ≤ maxLen := by unfold maxLen; omega
    go_wp2_with fail
    refine (impl_MergePartials p q v1 hpm hqm).mono ?_
    rintro e v2 ⟨r1, rfl, hr1, hb2⟩
    have Hr1 := Lib.hid hr1
    have hB2 := bthen hb1 hb2
    clear hr1
    go_wp2_with fail
    refine (spec_MergePartials p q v2 hpm hqm).mono ?_
    rintro e v3 ⟨r2, rfl, hr2, hb3⟩
    obtain rfl : r1 = r2 := nb_inj (by rw [Hr1.out, hr2])
    have hB3 := bthen hB2 hb3
    clear hr2
    cases hok : mgOk (nb p) (nb q)
    · go_wp2_with fail
      go_ret
      exact ⟨rfl, hB3⟩
    · have Hok := Lib.hid hok
      have hmg : nb r1 = mgL (nb p) (nb q) := by rw [Hr1.out, mg_ok hok]
      have hlen : r1.size = p.size := by
        have := (mgV_parts (mgOk_parts hok).1).2.2
        rw [← nb_length, hmg, mgL_len this, nb_length]
      have Hmg := Lib.hid hmg
      have Hlen := Lib.hid hlen
      have hr1s : r1.size ≤ 1000 := by omega
      clear hmg hlen
      go_wp2_with fail
      refine (laws_rcPartly r1 _ _ _ v3 (hU.next hB3) (by omega) (by omega)).mono ?_
      rintro e v4 ⟨x, rfl, hx, rfl⟩
      have hr1m : r1.size ≤ maxLen := by unfold maxLen; omega
      have hxs1 : x.size ≤ 1000 := by omega
      have hxm : x.size ≤ maxLen := by unfold maxLen; omega
      have Hxs : Hid (x.size = p.size) := hx.trans Hlen.out
      clear hx
      cases hm4 : (((len1 : Int) % 4) == 0)
      · go_wp2_with fail
        refine (impl_MergePartials r1 x v3 hr1m hxm).mono ?_
        rintro e v5 ⟨ra, rfl, hra, hb5⟩
        have Hra := Lib.hid hra
        have hB5 := bthen hB3 hb5
        clear hra
        go_wp2_with fail
        refine (impl_MergePartials q x v5 hqm hxm).mono ?_
        rintro e v6 ⟨rr, rfl, hrr, hb6⟩
        have hrrs : rr.size ≤ 1000 := by rw [← nb_length, hrr]; have := mg_le (nb q) (nb x); rw [nb_length] at this; omega
        have hrrm : rr.size ≤ maxLen := by unfold maxLen; omega
        have Hrr := Lib.hid hrr
        have hB6 := bthen hB5 hb6
        clear hrr
        go_wp2_with fail
        refine (impl_MergePartials p rr v6 hpm hrrm).mono ?_
        rintro e v7 ⟨rb, rfl, hrb, hb7⟩
        have Hrb := Lib.hid hrb
        have hB7 := bthen hB6 hb7
        clear hrb
        have H3 := three (x := nb x) Hok.out (by rw [nb_length, nb_length]; exact Hxs.out)
        rw [← Hmg.out, ← Hrr.out, ← Hra.out, ← Hrb.out, nb_length, nb_length] at H3
        cases h1 : mgOk (nb r1) (nb x)
        · cases h2 : mgOk (nb p) (nb rr)
          · clear H3
            go_wp2_with fail
            go_ret
            exact ⟨rfl, hB7⟩
          · have hne : ((rr.size : Int) == (p.size : Int)) = false := by
              rw [beq_eq_false_iff_ne]
              have := H3.2 h1 h2
              omega
            clear H3
            go_wp2_with fail
            go_ret
            exact ⟨rfl, hB7⟩
        · obtain ⟨h2, h4, h5⟩ := H3.1 h1
          have hne : ((rr.size : Int) == (p.size : Int)) = true := by rw [beq_iff_eq]; omega
          obtain rfl : ra = rb := nb_inj h5
          clear H3 h4 h5
          go_wp2_with fail
          go_ret
          exact ⟨rfl, hB7⟩
      · by_cases hx0 : x.size = 0
        · have he : x.toList.isEmpty = true := toList_empty hx0
          clear hx0
          go_wp2_with fail
          refine (impl_MergePartials r1 x v3 hr1m hxm).mono ?_
          rintro e v5 ⟨ra, rfl, hra, hb5⟩
          have Hra := Lib.hid hra
          have hB5 := bthen hB3 hb5
          clear hra
          go_wp2_with fail
          refine (impl_MergePartials q x v5 hqm hxm).mono ?_
          rintro e v6 ⟨rr, rfl, hrr, hb6⟩
          have hrrs : rr.size ≤ 1000 := by rw [← nb_length, hrr]; have := mg_le (nb q) (nb x); rw [nb_length] at this; omega
          have hrrm : rr.size ≤ maxLen := by unfold maxLen; omega
          have Hrr := Lib.hid hrr
          have hB6 := bthen hB5 hb6
          clear hrr
          go_wp2_with fail
          refine (impl_MergePartials p rr v6 hpm hrrm).mono ?_
          rintro e v7 ⟨rb, rfl, hrb, hb7⟩
          have Hrb := Lib.hid hrb
          have hB7 := bthen hB6 hb7
          clear hrb
          have H3 := three (x := nb x) Hok.out (by rw [nb_length, nb_length]; exact Hxs.out)
          rw [← Hmg.out, ← Hrr.out, ← Hra.out, ← Hrb.out, nb_length, nb_length] at H3
          cases h1 : mgOk (nb r1) (nb x)
          · cases h2 : mgOk (nb p) (nb rr)
            · clear H3
              go_wp2_with fail
              go_ret
              exact ⟨rfl, hB7⟩
            · have hne : ((rr.size : Int) == (p.size : Int)) = false := by
                rw [beq_eq_false_iff_ne]
                have := H3.2 h1 h2
                omega
              clear H3
              go_wp2_with fail
              go_ret
              exact ⟨rfl, hB7⟩
          · obtain ⟨h2, h4, h5⟩ := H3.1 h1
            have hne : ((rr.size : Int) == (p.size : Int)) = true := by rw [beq_iff_eq]; omega
            obtain rfl : ra = rb := nb_inj h5
            clear H3 h4 h5
            go_wp2_with fail
            go_ret
            exact ⟨rfl, hB7⟩
        · have he : x.toList.isEmpty = false := toList_some hx0
          have hx1 : 1 ≤ x.size := by omega
          have hes : (x.extract 1 x.size).size = x.size - 1 := by rw [← nb_length, nb_extract]; simp [nb_length]
          have hes' : (x.extract 1 x.size).size ≤ 1000 := by omega
          have hys : ((⟨#[97]⟩ : ByteArray) ++ x.extract 1 x.size).size = x.size := by
            rw [ByteArray.size_append, hes]
            show 1 + (x.size - 1) = x.size
            omega
          have Hys0 := Lib.hid hys
          clear hx0 hes hys
          go_wp2_with fail
          obtain ⟨y, hy⟩ : ∃ y, y = (⟨#[97]⟩ : ByteArray) ++ x.extract 1 x.size := ⟨_, rfl⟩
          rw [← hy]
          have Hys : Hid (y.size = p.size) := by show _ = _; rw [hy, Hys0.out, Hxs.out]
          have hys1 : y.size ≤ 1000 := by rw [hy, Hys0.out]; exact hxs1
          have hym : y.size ≤ maxLen := by unfold maxLen; omega
          clear hy
          refine (impl_MergePartials r1 y v3 hr1m hym).mono ?_
          rintro e v5 ⟨ra, rfl, hra, hb5⟩
          have Hra := Lib.hid hra
          have hB5 := bthen hB3 hb5
          clear hra
          go_wp2_with fail
          refine (impl_MergePartials q y v5 hqm hym).mono ?_
          rintro e v6 ⟨rr, rfl, hrr, hb6⟩
          have hrrs : rr.size ≤ 1000 := by rw [← nb_length, hrr]; have := mg_le (nb q) (nb y); rw [nb_length] at this; omega
          have hrrm : rr.size ≤ maxLen := by unfold maxLen; omega
          have Hrr := Lib.hid hrr
          have hB6 := bthen hB5 hb6
          clear hrr
          go_wp2_with fail
          refine (impl_MergePartials p rr v6 hpm hrrm).mono ?_
          rintro e v7 ⟨rb, rfl, hrb, hb7⟩
          have Hrb := Lib.hid hrb
          have hB7 := bthen hB6 hb7
          clear hrb
          have H3 := three (x := nb y) Hok.out (by rw [nb_length, nb_length]; exact Hys.out)
          rw [← Hmg.out, ← Hrr.out, ← Hra.out, ← Hrb.out, nb_length, nb_length] at H3
          cases h1 : mgOk (nb r1) (nb y)
          · cases h2 : mgOk (nb p) (nb rr)
            · clear H3
              go_wp2_with fail
              go_ret
              exact ⟨rfl, hB7⟩
            · have hne : ((rr.size : Int) == (p.size : Int)) = false := by
                rw [beq_eq_false_iff_ne]
                have := H3.2 h1 h2
                omega
              clear H3
              go_wp2_with fail
              go_ret
              exact ⟨rfl, hB7⟩
          · obtain ⟨h2, h4, h5⟩ := H3.1 h1
            have hne : ((rr.size : Int) == (p.size : Int)) = true := by rw [beq_iff_eq]; omega
            obtain rfl : ra = rb := nb_inj h5
            clear H3 h4 h5
            go_wp2_with fail
            go_ret
            exact ⟨rfl, hB7⟩
end Go.Proofs.Ytilnffidckdadaa
