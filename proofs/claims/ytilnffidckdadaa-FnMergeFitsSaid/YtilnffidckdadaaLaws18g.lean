/- The walk of the law on words that fit two words with gaps. No condition. -/
import Derived.Test.YtilnffidckdadaaDraw18b
import Derived.Test.YtilnffidckdadaaMerge
import Derived.Test.YtilnffidckdadaaFits
import Derived.Test.YtilnffidckdadaaPlain18c
import Derived.Test.YtilnffidckdadaaPartly
set_option linter.unusedVariables false
namespace Go.Proofs.Ytilnffidckdadaa
open Go.RowKit

theorem pick3_a {a b f : Nat} (h : ((a : Int) != 45) = true) : pick3 a b f = a := by
  rw [bne_iff_ne] at h
  unfold pick3
  rw [if_pos (by omega)]
theorem pick3_b {a b f : Nat} (h : ((a : Int) != 45) = false) (h2 : ((b : Int) != 45) = true) : pick3 a b f = b := by
  rw [bne_eq_false_iff_eq] at h
  rw [bne_iff_ne] at h2
  unfold pick3
  rw [if_neg (by omega), if_pos (by omega)]
theorem pick3_c {a b f : Nat} (h : ((a : Int) != 45) = false) (h2 : ((b : Int) != 45) = false) : pick3 a b f = f := by
  rw [bne_eq_false_iff_eq] at h h2
  unfold pick3
  rw [if_neg (by omega), if_neg (by omega)]
theorem laws_rcLetter (n : Nat) (w : World) (hn : n ≤ 10000000) :
    Calls Try.prog 36 #[.int .i64 (n : Int)] w (RetS w [97 + n % 10]) := by
  obtain ⟨r, hr, hrun⟩ := of_one w (97 + (n : Int) % 10) (by omega) (by omega)
  have Hr := Lib.hid hr
  clear hr
  go_enter Try.func36, Try.ntmps36
  go_wp2
  go_ret
  refine ⟨r, rfl, ?_, (Below.refl _ _).alloc (Nat.le_refl _) _⟩
  have e : (97 + (n : Int) % 10).toNat = 97 + n % 10 := by omega
  rw [Hr.out, e]

set_option maxHeartbeats 2000000 in
theorem walk_FnMergeFits (a0 : Option Addr) (len0 cap0 : Nat) (z0 : List Int) (a1 : Option Addr) (len1 cap1 : Nat) (z1 : List Int) (w : World) (w0 : IsRow .u8 w a0 len0 cap0 z0) (w1 : IsRow .u8 w a1 len1 cap1 z1) :
    Calls Try.prog 13 #[.slice a0 len0 cap0, .slice a1 len1 cap1] w fun e w' => e = .returned (.bool true) ∧ Below w.heap.size w w' := by
  have hl := w0.len_le
  have hl1 := w1.len_le
  by_cases hbig : 1048576 < len0
  · clear w0 w1
    go_enter Try.func13, Try.ntmps13
    go_wp2_with fail
    go_ret
    exact ⟨rfl, Below.refl _ _⟩
  by_cases hbig1 : 1048576 < len1
  · clear w0 w1
    go_enter Try.func13, Try.ntmps13
    go_wp2_with fail
    go_ret
    exact ⟨rfl, Below.refl _ _⟩
  · have W0 := Lib.hid w0
    have hU := URow.of_row w1
    clear w0 w1
    go_enter Try.func13, Try.ntmps13
    go_wp2_with fail
    refine (spec_DrawMergePartials _ _ _ _ _ W0.out).mono ?_
    rintro e v1 ⟨p, q, rfl, hp, hq, hb1⟩
    have hpm : p.size ≤ maxLen := by unfold maxLen; omega
    have hqm : q.size ≤ maxLen := by unfold maxLen; omega
    go_wp2_with fail
    refine (impl_MergePartials p q v1 hpm hqm).mono ?_
    rintro e v2 ⟨r1, rfl, hr1, hb2⟩
    have Hr1 := Lib.hid hr1
    have hB2 := bthen hb1 hb2
    clear hr1
    go_wp2_with fail
    refine (spec_MergePartials p q v2 hpm hqm).mono ?_
    rintro e v3 ⟨r2, rfl, hr2, hb3⟩
    obtain rfl : r1 = r2 := nb_inj (by rw [Hr1.out, hr2])
    have hB3 := bthen hB2 hb3
    clear hr2
    cases hV : mgV (nb p) (nb q)
    · have hok : mgOk (nb p) (nb q) = false := by rw [mgOk, hV]; rfl
      have hV' := hV
      unfold mgV at hV'
      rw [nb_length, nb_length] at hV'
      rcases g3_no hV' with g1 | ⟨g1, g2⟩ | ⟨g1, g2, g3⟩
      all_goals
        clear hV hV'
        go_wp2_with (go_at_call 16; refine (impl_PartialValid _ _ (by assumption)).mono ?_; rintro e w' ⟨rfl, rfl⟩)
        go_ret
        exact ⟨rfl, hB3⟩
    · obtain ⟨g1, g2, g3⟩ := mgV_parts hV
      rw [nb_length, nb_length] at g3
      have hne := ne_no g3
      have hle : p.size ≤ q.size := by omega
      have Hlen := Lib.hid g3
      have HV := Lib.hid hV
      clear g3 hV
      go_wp2_with (go_at_call 16; refine (impl_PartialValid _ _ (by assumption)).mono ?_; rintro e w' ⟨rfl, rfl⟩)
      go_loopw [11, 12] (fun o i wr => ∃ (k : Nat) (s : ByteArray), k ≤ p.size ∧ i = .int .i64 k ∧ o = .string s ∧ nb s = (fillW (nb p) (nb q) len1).take k ∧ Below w.heap.size w wr) (fun _ i _ => p.size - (intOf i).toNat)
      case atStart => exact ⟨0, ByteArray.empty, Nat.zero_le _, rfl, rfl, rfl, hB3⟩
      case round =>
        obtain ⟨k, s, hk, rfl, rfl, hs, hbe⟩ := hrel
        have hss : s.size ≤ 1000 := by rw [← nb_length, hs, List.length_take]; omega
        have Hs := Lib.hid hs
        clear hs
        by_cases hlt : k < p.size
        · have hkq : k < q.size := by omega
          obtain ⟨a, ha⟩ : ∃ c, (nb p)[k]? = some c := ⟨_, nb_get? p k hlt⟩
          obtain ⟨b, hb⟩ : ∃ c, (nb q)[k]? = some c := ⟨_, nb_get? q k hkq⟩
          have hak : p[k].toNat = a := by have := nb_get? p k hlt; rw [ha] at this; injection this with this; exact this.symm
          have hbk : q[k].toNat = b := by have := nb_get? q k hkq; rw [hb] at this; injection this with this; exact this.symm
          have Hx := Lib.hid (take_snoc _ _ _ (fillW_at (m := len1) ha hb))
          have H1 := Lib.hid (nb_one p k hlt)
          have H2 := Lib.hid (nb_one q k hkq)
          have h1' : (p.extract k (k + 1)).size ≤ 1 := by rw [← nb_length, nb_one p k hlt]; simp
          have h2' : (q.extract k (k + 1)).size ≤ 1 := by rw [← nb_length, nb_one q k hkq]; simp
          have Hak := Lib.hid hak
          have Hbk := Lib.hid hbk
          clear ha hb
          cases e1 : ((a : Int) != 45)
          · cases e2 : ((b : Int) != 45)
            · go_wp2_with fail
              refine (laws_rcLetter (k + len1) wr (by omega)).mono ?_
              rintro e v5 ⟨r, rfl, hr, hb5⟩
              have hrs : r.size ≤ 1 := by rw [← nb_length, hr]; simp
              have Hr := Lib.hid hr
              clear hr
              go_wp2_with fail
              go_roundw
              case rel => exact ⟨k + 1, _, by omega, by go_num, rfl, by rw [nb_append, Hs.out, Hr.out, Hx.out, pick3_c e1 e2], bthenB hbe hb5 hbe.size⟩
              case measure => simp [intOf]; omega
            · go_wp2_with fail
              go_roundw
              case rel => exact ⟨k + 1, _, by omega, by go_num, rfl, by rw [nb_append, Hs.out, H2.out, Hbk.out, Hx.out, pick3_b e1 e2], hbe⟩
              case measure => simp [intOf]; omega
          · go_wp2_with fail
            go_roundw
            case rel => exact ⟨k + 1, _, by omega, by go_num, rfl, by rw [nb_append, Hs.out, H1.out, Hak.out, Hx.out, pick3_a e1], hbe⟩
            case measure => simp [intOf]; omega
        · have hkp : k = p.size := by omega
          have hnbs : nb s = fillW (nb p) (nb q) len1 := by rw [Hs.out, hkp, List.take_of_length_le (by rw [fillW_len, nb_length]; exact Nat.le_refl _)]
          have hsm : s.size ≤ maxLen := by unfold maxLen; omega
          have f1 : fits (nb p) (nb s) = true := by rw [hnbs]; exact fits_p len1 HV.out
          have f2 : fits (nb q) (nb s) = mgOk (nb p) (nb q) := by rw [hnbs]; exact fits_q len1 HV.out
          have Hnbs := Lib.hid hnbs
          clear hnbs hkp
          cases hok : mgOk (nb p) (nb q)
          · rw [hok] at f2
            go_wp2_with fail
            refine (impl_PartialFits p s wr hpm hsm).mono ?_
            rintro e v5 ⟨rfl, hb5⟩
            have hB5 := bthen hbe hb5
            go_wp2_with fail
            refine (impl_PartialFits q s v5 hqm hsm).mono ?_
            rintro e v6 ⟨rfl, hb6⟩
            have hB6 := bthen hB5 hb6
            go_wp2_with fail
            go_ret
            exact ⟨rfl, hB6⟩
          · rw [hok] at f2
            have hr1l : nb r1 = mgL (nb p) (nb q) := by rw [Hr1.out, mg_ok hok]
            have f3 : fits (nb r1) (nb s) = true := by rw [hr1l, Hnbs.out]; exact fits_s len1 hok
            have hr1m : r1.size ≤ maxLen := by
              rw [← nb_length, hr1l]
              have : (mgL (nb p) (nb q)).length ≤ p.size := by simp [mgL, nb_length]; omega
              unfold maxLen; omega
            clear hr1l
            go_wp2_with fail
            refine (impl_PartialFits p s wr hpm hsm).mono ?_
            rintro e v5 ⟨rfl, hb5⟩
            have hB5 := bthen hbe hb5
            go_wp2_with fail
            refine (impl_PartialFits q s v5 hqm hsm).mono ?_
            rintro e v6 ⟨rfl, hb6⟩
            have hB6 := bthen hB5 hb6
            go_wp2_with fail
            refine (impl_PartialFits r1 s v6 hr1m hsm).mono ?_
            rintro e v7 ⟨rfl, hb7⟩
            have hB7 := bthen hB6 hb7
            go_wp2_with fail
            go_ret
            exact ⟨rfl, hB7⟩
end Go.Proofs.Ytilnffidckdadaa
