/- Merging two words with gaps: both programs return what the plain function says. No condition. -/
import Derived.Test.YtilnffidckdadaaVal
import Derived.Test.YtilnffidckdadaaPlain18
import Derived.BigQuiet
import Derived.Deep.QuietTactic
set_option linter.unusedVariables false
namespace Go.Proofs.Ytilnffidckdadaa
open Go.RowKit

theorem cmpt_q {p q : Nat} (h : ((q : Int) != 45) = false) : cmpt p q = true := by rw [bne_eq_false_iff_eq] at h; simp [cmpt]; omega
theorem cmpt_q' {p q : Nat} (h : ((q : Int) == 45) = true) : cmpt p q = true := by rw [beq_iff_eq] at h; simp [cmpt]; omega
theorem cmpt_p {p q : Nat} (h : ((p : Int) == 45) = true) : cmpt p q = true := by rw [beq_iff_eq] at h; simp [cmpt]; omega
theorem cmpt_same {p q : Nat} (h : ((q : Int) != (p : Int)) = false) : cmpt p q = true := by rw [bne_eq_false_iff_eq] at h; simp [cmpt]; omega
theorem cmpt_eq {p q : Nat} (h : ((q : Int) == (p : Int)) = true) : cmpt p q = true := by rw [beq_iff_eq] at h; simp [cmpt]; omega
theorem cmpt_no {p q : Nat} (h1 : ((p : Int) == 45) = false) (h2 : ((q : Int) != 45) = true) (h3 : ((q : Int) != (p : Int)) = true) : cmpt p q = false := by
  rw [beq_eq_false_iff_ne] at h1; rw [bne_iff_ne] at h2 h3; simp [cmpt]; omega
theorem cmpt_no' {p q : Nat} (h1 : ((q : Int) == 45) = false) (h2 : ((q : Int) == (p : Int)) = false) (h3 : ((p : Int) == 45) = false) : cmpt p q = false := by
  rw [beq_eq_false_iff_ne] at h1 h2 h3; simp [cmpt]; omega
theorem sel_p {p q : Nat} (h : ((p : Int) == 45) = false) : sel p q = p := by rw [beq_eq_false_iff_ne] at h; rw [sel, if_neg (by omega)]
theorem sel_gap {p q : Nat} (h : ((p : Int) == 45) = true) : sel p q = q := by rw [beq_iff_eq] at h; rw [sel, if_pos (by omega)]
theorem sel_eq {p q : Nat} (h : ((q : Int) == (p : Int)) = true) : sel p q = p := by rw [beq_iff_eq] at h; rw [sel]; split <;> omega
theorem sel_q {p q : Nat} (h : ((q : Int) == 45) = true) : sel p q = p := by rw [beq_iff_eq] at h; rw [sel]; split <;> omega
theorem nb_lt' (s : ByteArray) : ∀ x ∈ nb s, x < 256 := fun x hx => nb_lt x hx

set_option maxHeartbeats 1000000 in
theorem impl_MergePartials_ok (a b : ByteArray) (w : World) (h : mgV (nb a) (nb b) = true) :
    Calls Try.prog 18 #[.string a, .string b] w (RetSB w (mg (nb a) (nb b)) (mgOk (nb a) (nb b))) := by
  obtain ⟨ha, hb, hl⟩ := g3_yes h
  have la := pv_len ha
  rw [nb_length] at la
  have hma : a.size ≤ maxLen := by unfold maxLen; omega
  have hl' : a.size = b.size := by rw [← nb_length, ← nb_length]; exact hl
  have hmb : b.size ≤ maxLen := by unfold maxLen; omega
  have hn := ne_no hl'
  have hL : (List.zipWith cmpt (nb a) (nb b)).length = a.size := by simp [nb_length]; omega
  have hM : (mgL (nb a) (nb b)).length = (nb a).length := by simp [mgL]; omega
  have HL := Lib.hid hL
  have HM := Lib.hid hM
  have Hh := Lib.hid h
  have lab : a.size ≤ b.size := by omega
  obtain ⟨cap, w1, hconv, hbuf, hbel, hsz⟩ := to_bytes a w
  clear hl hl' hL hM h
  go_enter Try.func18, Try.ntmps18
  go_wp2_with (go_at_call 16; refine (impl_PartialValid _ _ (by assumption)).mono ?_; rintro e w' ⟨rfl, rfl⟩)
  go_loopw [27] (fun i wr => ∃ k : Nat, k ≤ a.size ∧ i = .int .i64 k ∧ bup (List.zipWith cmpt (nb a) (nb b)) k ∧ Buf wr w.heap.size 5 (bcells (mix (mgL (nb a) (nb b)) (nb a) k)) ∧ Below w.heap.size w wr) (fun i _ => a.size - (intOf i).toNat)
  case atStart => exact ⟨0, Nat.zero_le _, rfl, bup_zero _, by rw [mix_zero]; exact hbuf, hbel⟩
  case round =>
    obtain ⟨k, hk, rfl, hu, hbk, hbe⟩ := hrel
    clear hconv hbuf hbel hsz
    by_cases hlt : k < a.size
    · have hkb : k < b.size := by omega
      obtain ⟨p, hp⟩ : ∃ c, (nb a)[k]? = some c := ⟨_, nb_get? a k hlt⟩
      obtain ⟨q, hq⟩ : ∃ d, (nb b)[k]? = some d := ⟨_, nb_get? b k hkb⟩
      have hqk : b[k].toNat = q := by have := nb_get? b k hkb; rw [hq] at this; injection this with this; exact this.symm
      have hcell := hbk.cell (bcells_at ((mix_at _ _ k HM.out (by rw [nb_length]; exact hlt)).trans hp))
      have hfree := hbk.free (j := k) (by rw [bcells_len, mix_len _ _ _ HM.out, nb_length]; exact hlt)
      have Hn := Lib.hid (zipWith_at (f := cmpt) hp hq)
      have Hs := Lib.hid (zipWith_at (f := sel) hp hq)
      have Hp := Lib.hid hp
      clear hp hq
      cases e1 : ((p : Int) == 45)
      · cases e2 : ((q : Int) != 45)
        · go_wp2_with fail
          go_quiet (fail)
          go_wp2
          go_roundw
          case rel => exact ⟨k + 1, by omega, by go_num, bup_succ hu (by rw [Hn.out, cmpt_q e2]), by rw [← mix_keep _ _ k p HM.out (by rw [← sel_p e1]; exact Hs.out) Hp.out]; exact hbk.drewN _, bel_drewN hbe _⟩
          case measure => simp [intOf]; omega
        · cases e3 : ((q : Int) != (p : Int))
          · go_wp2_with fail
            go_quiet (fail)
            go_wp2
            go_roundw
            case rel => exact ⟨k + 1, by omega, by go_num, bup_succ hu (by rw [Hn.out, cmpt_same e3]), by rw [← mix_keep _ _ k p HM.out (by rw [← sel_p e1]; exact Hs.out) Hp.out]; exact hbk.drewN _, bel_drewN hbe _⟩
            case measure => simp [intOf]; omega
          · go_wp2_with fail
            go_quiet (fail)
            go_wp2
            go_ret2
            have hno := mg_no (by rw [Hn.out, cmpt_no e1 e2 e3] : (List.zipWith cmpt (nb a) (nb b))[k]? = some false)
            exact ⟨ByteArray.empty, by rw [hno.1]; rfl, by rw [hno.2]; rfl, bel_drewN hbe _⟩
      · go_wp2
        go_roundw
        case rel => exact ⟨k + 1, by omega, by go_num, bup_succ hu (by rw [Hn.out, cmpt_p e1]), hbk.put HM.out (by have h := Hs.out; rw [sel_gap e1] at h; exact h) rfl, hbe.setCell (Nat.le_refl _) _⟩
        case measure => simp [intOf]; omega
    · obtain ⟨r, hr, hrun⟩ := of_bytes wr w.heap.size a.size cap (mgL (nb a) (nb b)) (by
        obtain rfl : k = a.size := by omega
        have := hbk
        rwa [← nb_length a, ← HM.out, mix_all _ _ (Nat.le_of_eq HM.out.symm)] at this) (by rw [HM.out, nb_length]) (mgL_lt (nb_lt' a) (nb_lt' b))
      have Hr := Lib.hid hr
      clear hr
      have hyes := Lib.hid (mg_yes Hh.out (by rw [HL.out]; obtain rfl : k = a.size := (by omega); exact hu))
      go_wp2
      go_ret2
      exact ⟨r, by rw [hyes.out.1]; rfl, by rw [hyes.out.2]; exact Hr.out, hbe⟩

set_option maxHeartbeats 1000000 in
theorem spec_MergePartials_ok (a b : ByteArray) (w : World) (h : mgV (nb a) (nb b) = true) :
    Calls Try.prog 17 #[.string a, .string b] w (RetSB w (mg (nb a) (nb b)) (mgOk (nb a) (nb b))) := by
  obtain ⟨ha, hb, hl⟩ := g3_yes h
  have la := pv_len ha
  rw [nb_length] at la
  have hma : a.size ≤ maxLen := by unfold maxLen; omega
  have hl' : a.size = b.size := by rw [← nb_length, ← nb_length]; exact hl
  have hmb : b.size ≤ maxLen := by unfold maxLen; omega
  have hn := ne_no hl'
  have hL : (List.zipWith cmpt (nb a) (nb b)).length = a.size := by simp [nb_length]; omega
  have hM : (mgL (nb a) (nb b)).length = (nb a).length := by simp [mgL]; omega
  have HL := Lib.hid hL
  have HM := Lib.hid hM
  have Hh := Lib.hid h
  have lab : a.size ≤ b.size := by omega
  clear hl hl' hL hM h
  go_enter Try.func17, Try.ntmps17
  go_wp2_with (go_at_call 15; refine (spec_PartialValid _ _ (by assumption)).mono ?_; rintro e w' ⟨rfl, rfl⟩)
  go_loopw [6, 7] (fun o i wr => ∃ (k : Nat) (s : ByteArray), k ≤ a.size ∧ i = .int .i64 k ∧ o = .string s ∧ bup (List.zipWith cmpt (nb a) (nb b)) k ∧ nb s = (mgL (nb a) (nb b)).take k ∧ Below w.heap.size w wr) (fun _ i _ => a.size - (intOf i).toNat)
  case atStart => exact ⟨0, ByteArray.empty, Nat.zero_le _, rfl, rfl, bup_zero _, rfl, Below.refl _ _⟩
  case round =>
    obtain ⟨k, s, hk, rfl, rfl, hu, hs, hbe⟩ := hrel
    have hss : s.size ≤ 200 := by rw [← nb_length, hs, List.length_take]; omega
    have Hs := Lib.hid hs
    clear hs
    by_cases hlt : k < a.size
    · have hkb : k < b.size := by omega
      obtain ⟨p, hp⟩ : ∃ c, (nb a)[k]? = some c := ⟨_, nb_get? a k hlt⟩
      obtain ⟨q, hq⟩ : ∃ d, (nb b)[k]? = some d := ⟨_, nb_get? b k hkb⟩
      have hqk : b[k].toNat = q := by have := nb_get? b k hkb; rw [hq] at this; injection this with this; exact this.symm
      have hpk : a[k].toNat = p := by have := nb_get? a k hlt; rw [hp] at this; injection this with this; exact this.symm
      have Hn := Lib.hid (zipWith_at (f := cmpt) hp hq)
      have Hx := Lib.hid (take_snoc _ _ _ (zipWith_at (f := sel) hp hq))
      have Ha := Lib.hid (nb_one a k hlt)
      have Hb := Lib.hid (nb_one b k hkb)
      have Hpk := Lib.hid hpk
      have Hqk := Lib.hid hqk
      have hza : (a.extract k (k + 1)).size ≤ 1 := by rw [← nb_length, nb_one a k hlt]; simp
      have hzb : (b.extract k (k + 1)).size ≤ 1 := by rw [← nb_length, nb_one b k hkb]; simp
      clear hp hq
      cases e1 : ((q : Int) == 45)
      · cases e2 : ((q : Int) == (p : Int))
        · cases e3 : ((p : Int) == 45)
          · go_wp2_with fail
            go_quiet (fail)
            go_wp2
            go_ret2
            have hno := mg_no (by rw [Hn.out, cmpt_no' e1 e2 e3] : (List.zipWith cmpt (nb a) (nb b))[k]? = some false)
            exact ⟨ByteArray.empty, by rw [hno.1]; rfl, by rw [hno.2]; rfl, bel_drewN hbe _⟩
          · go_wp2_with fail
            go_quiet (fail)
            go_wp2
            go_roundw
            case rel => exact ⟨k + 1, _, by omega, by go_num, rfl, bup_succ hu (by rw [Hn.out, cmpt_p e3]), by rw [nb_append, Hs.out, Hb.out, Hqk.out]; refine Eq.trans ?_ Hx.out.symm; rw [sel_gap e3]; rfl, bel_drewN hbe _⟩
            case measure => simp [intOf]; omega
        · go_wp2_with fail
          go_quiet (fail)
          go_wp2
          go_roundw
          case rel => exact ⟨k + 1, _, by omega, by go_num, rfl, bup_succ hu (by rw [Hn.out, cmpt_eq e2]), by rw [nb_append, Hs.out, Ha.out, Hpk.out]; refine Eq.trans ?_ Hx.out.symm; rw [sel_eq e2]; rfl, bel_drewN hbe _⟩
          case measure => simp [intOf]; omega
      · go_wp2_with fail
        go_quiet (fail)
        go_wp2
        go_roundw
        case rel => exact ⟨k + 1, _, by omega, by go_num, rfl, bup_succ hu (by rw [Hn.out, cmpt_q' e1]), by rw [nb_append, Hs.out, Ha.out, Hpk.out]; refine Eq.trans ?_ Hx.out.symm; rw [sel_q e1]; rfl, bel_drewN hbe _⟩
        case measure => simp [intOf]; omega
    · have hyes := Lib.hid (mg_yes Hh.out (by rw [HL.out]; obtain rfl : k = a.size := (by omega); exact hu))
      go_wp2
      go_ret2
      obtain rfl : k = a.size := by omega
      exact ⟨s, by rw [hyes.out.1]; rfl, by rw [hyes.out.2, Hs.out, ← nb_length a, ← HM.out, List.take_length], hbe⟩

theorem impl_MergePartials_no (a b : ByteArray) (w : World) (h : mgV (nb a) (nb b) = false) (hma : a.size ≤ maxLen) (hmb : b.size ≤ maxLen) :
    Calls Try.prog 18 #[.string a, .string b] w (RetSB w [] false) := by
  unfold mgV at h
  rw [nb_length, nb_length] at h
  rcases g3_no h with h1 | ⟨h1, h2⟩ | ⟨h1, h2, h3⟩
  all_goals
    clear h
    go_enter Try.func18, Try.ntmps18
    go_wp2_with (go_at_call 16; refine (impl_PartialValid _ _ (by assumption)).mono ?_; rintro e w' ⟨rfl, rfl⟩)
    go_ret2
    exact ⟨ByteArray.empty, rfl, rfl, Below.refl _ _⟩
theorem impl_MergePartials (a b : ByteArray) (w : World) (hma : a.size ≤ maxLen) (hmb : b.size ≤ maxLen) :
    Calls Try.prog 18 #[.string a, .string b] w (RetSB w (mg (nb a) (nb b)) (mgOk (nb a) (nb b))) := by
  cases h : mgV (nb a) (nb b)
  · rw [mg, mgOk, h, Bool.false_and]
    exact impl_MergePartials_no a b w h hma hmb
  · exact impl_MergePartials_ok a b w h

theorem spec_MergePartials_no (a b : ByteArray) (w : World) (h : mgV (nb a) (nb b) = false) (hma : a.size ≤ maxLen) (hmb : b.size ≤ maxLen) :
    Calls Try.prog 17 #[.string a, .string b] w (RetSB w [] false) := by
  unfold mgV at h
  rw [nb_length, nb_length] at h
  rcases g3_no h with h1 | ⟨h1, h2⟩ | ⟨h1, h2, h3⟩
  all_goals
    clear h
    go_enter Try.func17, Try.ntmps17
    go_wp2_with (go_at_call 15; refine (spec_PartialValid _ _ (by assumption)).mono ?_; rintro e w' ⟨rfl, rfl⟩)
    go_ret2
    exact ⟨ByteArray.empty, rfl, rfl, Below.refl _ _⟩
theorem spec_MergePartials (a b : ByteArray) (w : World) (hma : a.size ≤ maxLen) (hmb : b.size ≤ maxLen) :
    Calls Try.prog 17 #[.string a, .string b] w (RetSB w (mg (nb a) (nb b)) (mgOk (nb a) (nb b))) := by
  cases h : mgV (nb a) (nb b)
  · rw [mg, mgOk, h, Bool.false_and]
    exact spec_MergePartials_no a b w h hma hmb
  · exact spec_MergePartials_ok a b w h

end Go.Proofs.Ytilnffidckdadaa
