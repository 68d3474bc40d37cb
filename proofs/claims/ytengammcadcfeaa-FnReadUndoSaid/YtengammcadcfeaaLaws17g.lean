/- The walk of the law on reading back. No condition. -/
import Derived.Test.YtengammcadcfeaaDraw17
import Derived.Test.YtengammcadcfeaaDraw18
import Derived.Test.YtengammcadcfeaaCounts
import Derived.Test.YtengammcadcfeaaRc
set_option linter.unusedVariables false
namespace Go.Proofs.Ytengammcadcfeaa
open Go.RowKit

set_option maxHeartbeats 1000000 in
theorem spec_DrawReadPlaces (a : Option Addr) (len cap : Nat) (zs : List Int) (w : World) (h : IsRow .u8 w a len cap zs) :
    Calls Try.prog 12 #[.slice a len cap] w fun e w' => ∃ r A n c ys, e = .returned (.tuple #[.string r, .slice A n c]) ∧ r.size ≤ 1000 ∧ ys.length = n ∧ n ≤ 1000 ∧ Own w' w.heap.size A ys ∧ Below w.heap.size w w' := by
  go_enter Try.func12, Try.ntmps12
  go_wp2_with fail
  refine (spec_l21Open _ _ _ _ _ h).mono ?_
  rintro e v0 ⟨rfl, hr0, hb0⟩
  have hg0 := hr0.lt
  go_wp2_with fail
  refine (spec_l1Word _ 0 12 _ hr0 (by omega) (by omega)).mono ?_
  rintro e v1 ⟨r1, p1, rfl, hs1, hp1, hr1, hg1⟩
  have hz1 := hg1.size
  go_wp2_with fail
  refine (spec_l17Places _ _ r1.size _ hr1 (by omega) (by omega)).mono ?_
  rintro e v2 ⟨v, p2, zs2, rfl, hown2, hp2, hr2, hg2⟩
  obtain ⟨A2, c2, rfl⟩ := row_slice hown2
  have Hown2 := Lib.hid hown2
  have hz2 := hg2.size
  clear hown2
  go_wp2_with fail
  refine (spec_l1Bad _ _ _ _ hr2 (by omega) (by omega)).mono ?_
  rintro e v3 ⟨r3, p3, rfl, hs3, hp3, hr3, hg3⟩
  have hz3 := hg3.size
  have Hown3 := Lib.hid (own_away Hown2.out hg3 (by omega))
  go_wp2_with fail
  refine (spec_l17Bad v1.heap.size _ p3 _ _ _ _ _ hr3 (by omega) (by omega) Hown3.out (by omega) (by omega)).mono ?_
  rintro e v4 ⟨A4, n4, c4, p4, zs4, rfl, hown4, hn4, hp4, hr4, hk4⟩
  have R4 := Lib.hid (Own.of_row hown4)
  clear hown4
  go_wp2_with fail
  go_ret2
  have hw0 := hb0.size
  refine ⟨_, _, _, _, zs4, rfl, by omega, R4.out.1, by omega, R4.out.2.less (by omega), ?_⟩
  have hb3 := hb0.grown (gthen (gthen hg1 hg2) hg3) hb0.size (fun k hk => by injection hk with hk; omega)
  exact hb3.trans (hk4.below (Nat.le_refl _) (by omega))

theorem lc_le (l : List Nat) : (lc l).length ≤ 10 := by
  unfold lc
  by_cases h : wv l = true
  · rw [if_pos h, countsL, countsK_len]; exact Nat.le_refl _
  · rw [if_neg h]; exact Nat.zero_le _
theorem wvalid {l : List Nat} {zs : List Int} (h : rpOk l zs = true) : wv l = true ∧ plv zs = true ∧ l.length = zs.length := g3_yes h

set_option maxHeartbeats 2000000 in
theorem walk_FnReadUndo (a0 : Option Addr) (len0 cap0 : Nat) (z0 : List Int) (w : World) (w0 : IsRow .u8 w a0 len0 cap0 z0) :
    Calls Try.prog 4 #[.slice a0 len0 cap0] w fun e w' => e = .returned (.bool true) ∧ Below w.heap.size w w' := by
  have hl := w0.len_le
  by_cases hbig : 1048576 < len0
  · clear w0
    go_enter Try.func4, Try.ntmps4
    go_wp2_with fail
    go_ret
    exact ⟨rfl, Below.refl _ _⟩
  · have W0 := Lib.hid w0
    clear w0
    go_enter Try.func4, Try.ntmps4
    go_wp2_with fail
    refine (spec_DrawReadPlaces _ _ _ _ _ W0.out).mono ?_
    rintro e v1 ⟨a, A, n, c, zs, rfl, ha, hlz, hn, ho, hb1⟩
    have Hl := Lib.hid hlz
    have hI := ho.ints
    have ham : a.size ≤ maxLen := by unfold maxLen; omega
    clear hlz ho
    go_wp2_with fail
    refine (impl_ReadPlaces a _ _ _ _ _ ham hI Hl.out (by omega)).mono ?_
    rintro e v2 ⟨r, rfl, hr, hb2⟩
    have Hr := Lib.hid hr
    have hB2 := bthen hb1 hb2
    have hI2 := hI.next hb2
    clear hr hI
    go_wp2_with fail
    refine (spec_ReadPlaces a _ _ _ _ _ ham hI2 Hl.out (by omega)).mono ?_
    rintro e v3 ⟨r', rfl, hr', hb3⟩
    obtain rfl : r = r' := nb_inj (by rw [Hr.out, hr'])
    have hB3 := bthen hB2 hb3
    have hI3 := hI2.next hb3
    clear hr' hI2
    cases hok : rpOk (nb a) zs
    · have hok' := hok
      unfold rpOk at hok'
      rw [nb_length, Hl.out] at hok'
      rcases g3_no' hok' with g1 | ⟨g1, g2⟩ | ⟨g1, g2, g3⟩
      · clear hok'
        go_wp2_with (go_at_call 14; refine (impl_WordValid _ _ ham).mono ?_; rintro e w' ⟨rfl, rfl⟩)
        go_ret
        exact ⟨rfl, hB3⟩
      · clear hok'
        go_wp2_with fail
        refine (impl_WordValid _ _ ham).mono ?_
        rintro e v ⟨rfl, rfl⟩
        go_wp2_with fail
        refine (impl_PlacesValid _ _ _ _ _ hI3 Hl.out (by omega)).mono ?_
        rintro e v4 ⟨rfl, hb4⟩
        have hB4 := bthen hB3 hb4
        go_wp2_with fail
        refine (impl_WordValid _ _ ham).mono ?_
        rintro e v ⟨rfl, rfl⟩
        go_wp2_with fail
        refine (impl_PlacesValid _ _ _ _ _ (hI3.next hb4) Hl.out (by omega)).mono ?_
        rintro e v5 ⟨rfl, hb5⟩
        go_wp2_with fail
        go_ret
        exact ⟨rfl, bthen hB4 hb5⟩
      · clear hok'
        have g4 : ((n : Int) == (a.size : Int)) = false := by rw [bne_iff_ne] at g3; rw [beq_eq_false_iff_ne]; exact g3
        go_wp2_with fail
        refine (impl_WordValid _ _ ham).mono ?_
        rintro e v ⟨rfl, rfl⟩
        go_wp2_with fail
        refine (impl_PlacesValid _ _ _ _ _ hI3 Hl.out (by omega)).mono ?_
        rintro e v4 ⟨rfl, hb4⟩
        have hB4 := bthen hB3 hb4
        go_wp2_with fail
        refine (impl_WordValid _ _ ham).mono ?_
        rintro e v ⟨rfl, rfl⟩
        go_wp2_with fail
        refine (impl_PlacesValid _ _ _ _ _ (hI3.next hb4) Hl.out (by omega)).mono ?_
        rintro e v5 ⟨rfl, hb5⟩
        go_wp2_with fail
        go_ret
        exact ⟨rfl, bthen hB4 hb5⟩
    · obtain ⟨g1, g2, gl⟩ := wvalid hok
      have hna : n = a.size := by rw [← nb_length, ← Hl.out]; exact gl.symm
      subst hna
      have hrl : nb r = readL (nb a) zs := by rw [Hr.out, rp, hok]; rfl
      have hrlen : r.size = a.size := by rw [← nb_length, hrl, readL_len, Hl.out]
      have hrle : r.size ≤ a.size := by omega
      have hrge : a.size ≤ r.size := by omega
      have hrm : r.size ≤ maxLen := by unfold maxLen; omega
      have Hrl := Lib.hid hrl
      have G := Lib.hid (And.intro g1 (And.intro g2 gl))
      have hpu : plv (up zs) = true := by rw [up_yes g2]; exact plv_undo g2
      have hul : (up zs).length = a.size := by rw [up_yes g2, undoL_len, Hl.out]
      have o2 : rpOk (nb r) (up zs) = true := by
        unfold rpOk g3
        rw [hrl, wv_readL g1 g2 gl, hpu, readL_len, hul, Hl.out]; simp
      have hback : rp (nb r) (up zs) = nb a := by
        rw [rp, o2, if_pos rfl, up_yes g2, hrl, readL_undo g2 gl]
      have hcounts : lc (nb r) = lc (nb a) := by
        rw [hrl]
        exact lc_perm (readL_perm g2 gl) (by rw [wv_readL g1 g2 gl, g1])
      have Hback := Lib.hid hback
      have Hul := Lib.hid hul
      have Hcounts := Lib.hid hcounts
      have g4 : ((a.size : Int) == (a.size : Int)) = true := by simp
      clear hrl hrlen gl hul hback hcounts
      go_wp2_with fail
      refine (impl_WordValid _ _ ham).mono ?_
      rintro e v ⟨rfl, rfl⟩
      go_wp2_with fail
      refine (impl_PlacesValid _ _ _ _ _ hI3 Hl.out (by omega)).mono ?_
      rintro e v4 ⟨rfl, hb4⟩
      have hB4 := bthen hB3 hb4
      have hI4 := hI3.next hb4
      clear hI3
      go_wp2_with fail
      refine (impl_UndoPlaces _ _ _ _ _ hI4 Hl.out (by omega)).mono ?_
      rintro e v5 ⟨A5, n5, c5, rfl, hl5, ho5, hb5⟩
      obtain rfl : n5 = a.size := by rw [← hl5]; exact Hul.out
      have hB5 := bthen hB4 hb5
      have hI5 := hI4.next hb5
      have hU5 := ho5.ints
      clear hl5 ho5 hI4
      go_wp2_with fail
      refine (impl_ReadPlaces r _ _ _ _ _ hrm hU5 Hul.out (by omega)).mono ?_
      rintro e v6 ⟨b, rfl, hb, hb6⟩
      obtain rfl : b = a := nb_inj (by rw [hb, Hback.out])
      have hB6 := bthen hB5 hb6
      have hI6 := hI5.next hb6
      clear hb hI5 hU5
      go_wp2_with fail
      go_loopw [13] (fun i wr => ∃ (k : Nat), k ≤ r.size ∧ i = .int .i64 k ∧ Below v6.heap.size v6 wr) (fun i _ => r.size - (intOf i).toNat)
      case atStart => exact ⟨0, Nat.zero_le _, rfl, Below.refl _ _⟩
      case round =>
        obtain ⟨k, hk, rfl, hbe⟩ := hrel
        have hB7 := bthen hB6 hbe
        have hI7 := hI6.next hbe
        by_cases hlt : k < r.size
        · obtain ⟨z, c, hz, hzl, hc, hrc⟩ := readL_get G.out.2.1 G.out.2.2 (by rw [Hl.out]; omega : k < zs.length)
          rw [Hl.out] at hzl
          rw [← Hrl.out] at hrc
          have e1 : r[k].toNat = c := by have := nb_get? r k hlt; rw [hrc] at this; injection this with this; exact this.symm
          have e2 : b[z].toNat = c := by have := nb_get? b z hzl; rw [hc] at this; injection this with this; exact this.symm
          obtain ⟨bb, off, rfl, hbl, hcell⟩ := hI7.at_ hz
          clear hz hc hrc hI7
          have hI6' := Lib.hid hI6
          clear hI6
          go_wp2_with fail
          go_quiet (fail)
          go_wp2_with fail
          go_roundw
          case rel => exact ⟨k + 1, by omega, by go_num, bel_drewN hbe _⟩
          case measure => simp [intOf]; omega
        · go_wp2_with fail
          refine (impl_LetterCounts r wr hrm).mono ?_
          rintro e v7 ⟨A7, n7, c7, rfl, hl7, ho7, hb7⟩
          have hB7' := bthen hB7 hb7
          have hL7 := ho7.ints
          go_wp2_with fail
          refine (impl_LetterCounts b v7 ham).mono ?_
          rintro e v8 ⟨A8, n8, c8, rfl, hl8, ho8, hb8⟩
          have hB8 := bthen hB7' hb8
          rw [Hcounts.out] at hl7 hL7
          have hn7 : n7 ≤ 1000 := by
            have : (lc (nb b)).length ≤ 10 := lc_le _
            omega
          obtain rfl : n7 = n8 := by omega
          have hsame := same_refl (lc (nb b))
          have Hl8 := Lib.hid hl8
          clear hl7 hl8
          go_wp2_with fail
          refine (laws_rcInts _ _ _ _ _ _ _ _ _ (hL7.next hb8) ho8.ints Hl8.out Hl8.out (by omega) (by omega)).mono ?_
          rintro e v9 ⟨rfl, hb9⟩
          go_wp2_with fail
          go_ret
          exact ⟨rfl, bthen hB8 hb9⟩
end Go.Proofs.Ytengammcadcfeaa
