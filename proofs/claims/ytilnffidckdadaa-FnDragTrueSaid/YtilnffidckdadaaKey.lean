/- What a word with gaps tells about a key and about another word: both programs return what the plain functions say. No condition. -/
import Derived.Test.YtilnffidckdadaaMinus
set_option linter.unusedVariables false
namespace Go.Proofs.Ytilnffidckdadaa
open Go.RowKit

theorem spec_l18Fits (a b : ByteArray) (w : World) (hma : a.size ≤ maxLen) (hmb : b.size ≤ maxLen) :
    Calls Try.prog 45 #[.string a, .string b] w fun e w' => e = .returned (.bool (kfOk (nb a) (nb b))) ∧ w = w' := by
  have hgoal : kfOk (nb a) (nb b) = g3 (wv (nb a)) (pv (nb b)) a.size b.size := by rw [kfOk, nb_length, nb_length]
  rw [hgoal]
  clear hgoal
  cases h1 : wv (nb a)
  · go_enter Try.func45, Try.ntmps45
    go_wp2_with (first | (go_at_call 44; refine (spec_WordValid _ _ hma).mono ?_; rintro e w' ⟨rfl, rfl⟩) | (go_at_call 15; refine (spec_PartialValid _ _ hmb).mono ?_; rintro e w' ⟨rfl, rfl⟩))
    go_ret
    exact ⟨ret_bool rfl, rfl⟩
  · cases h2 : pv (nb b)
    · go_enter Try.func45, Try.ntmps45
      go_wp2_with (first | (go_at_call 44; refine (spec_WordValid _ _ hma).mono ?_; rintro e w' ⟨rfl, rfl⟩) | (go_at_call 15; refine (spec_PartialValid _ _ hmb).mono ?_; rintro e w' ⟨rfl, rfl⟩))
      go_ret
      exact ⟨ret_bool rfl, rfl⟩
    · go_enter Try.func45, Try.ntmps45
      go_wp2_with (first | (go_at_call 44; refine (spec_WordValid _ _ hma).mono ?_; rintro e w' ⟨rfl, rfl⟩) | (go_at_call 15; refine (spec_PartialValid _ _ hmb).mono ?_; rintro e w' ⟨rfl, rfl⟩))
      go_ret
      exact ⟨ret_bool (eq_len a.size b.size), rfl⟩

theorem spec_l18Minus_ok (a b : ByteArray) (w : World) (h : kfOk (nb a) (nb b) = true) :
    Calls Try.prog 46 #[.string a, .string b] w (RetS w (minusL (nb a) (nb b))) := by
  obtain ⟨h1, h2, h3⟩ := g3_yes h
  have hl := pv_len h2
  rw [nb_length, nb_length] at h3
  rw [nb_length] at hl
  exact spec_l18Minus a b w (fun _ _ hc => wv_at h1 hc) (fun _ _ hc => pv_at h2 hc) (by omega) hl

theorem spec_KeyFrom_no (a b : ByteArray) (w : World) (h : kfOk (nb a) (nb b) = false) (hma : a.size ≤ maxLen) (hmb : b.size ≤ maxLen) :
    Calls Try.prog 21 #[.string a, .string b] w (RetSB w [] false) := by
  go_enter Try.func21, Try.ntmps21
  go_wp2_with (go_at_call 45; refine (spec_l18Fits _ _ _ hma hmb).mono ?_; rintro e w' ⟨rfl, rfl⟩)
  go_ret2
  exact ⟨ByteArray.empty, rfl, rfl, Below.refl _ _⟩
theorem spec_KeyFrom_ok (a b : ByteArray) (w : World) (h : kfOk (nb a) (nb b) = true) (hma : a.size ≤ maxLen) (hmb : b.size ≤ maxLen) :
    Calls Try.prog 21 #[.string a, .string b] w (RetSB w (minusL (nb a) (nb b)) true) := by
  go_enter Try.func21, Try.ntmps21
  go_wp2_with (first | (go_at_call 45; refine (spec_l18Fits _ _ _ hma hmb).mono ?_; rintro e w' ⟨rfl, rfl⟩) | (go_at_call 46; refine (spec_l18Minus_ok _ _ _ h).mono ?_; rintro e w1 ⟨r, rfl, hr, hb⟩; have Hr := Lib.hid hr; clear hr))
  go_ret2
  exact ⟨r, rfl, Hr.out, hb⟩
theorem spec_KeyFrom (a b : ByteArray) (w : World) (hma : a.size ≤ maxLen) (hmb : b.size ≤ maxLen) :
    Calls Try.prog 21 #[.string a, .string b] w (RetSB w (kf (nb a) (nb b)) (kfOk (nb a) (nb b))) := by
  unfold kf
  cases h : kfOk (nb a) (nb b)
  · exact spec_KeyFrom_no a b w h hma hmb
  · exact spec_KeyFrom_ok a b w h hma hmb
theorem impl_KeyFrom (a b : ByteArray) (w : World) (hma : a.size ≤ maxLen) (hmb : b.size ≤ maxLen) :
    Calls Try.prog 22 #[.string a, .string b] w (RetSB w (kf (nb a) (nb b)) (kfOk (nb a) (nb b))) := by
  go_enter Try.func22, Try.ntmps22
  go_wp2_with fail
  refine (impl_withoutPartial a b w hma hmb).mono ?_
  rintro e w1 ⟨r, rfl, hr, hb⟩
  have Hr := Lib.hid hr
  clear hr
  go_wp2
  go_ret2
  exact ⟨r, rfl, Hr.out, hb⟩

theorem spec_ReadWith_no (a b : ByteArray) (w : World) (h : kfOk (nb a) (nb b) = false) (hma : a.size ≤ maxLen) (hmb : b.size ≤ maxLen) :
    Calls Try.prog 23 #[.string a, .string b] w (RetSB w [] false) := by
  go_enter Try.func23, Try.ntmps23
  go_wp2_with (go_at_call 45; refine (spec_l18Fits _ _ _ hma hmb).mono ?_; rintro e w' ⟨rfl, rfl⟩)
  go_ret2
  exact ⟨ByteArray.empty, rfl, rfl, Below.refl _ _⟩
theorem spec_ReadWith_ok (a b : ByteArray) (w : World) (h : kfOk (nb a) (nb b) = true) (hma : a.size ≤ maxLen) (hmb : b.size ≤ maxLen) :
    Calls Try.prog 23 #[.string a, .string b] w (RetSB w (minusL (nb a) (nb b)) true) := by
  go_enter Try.func23, Try.ntmps23
  go_wp2_with (first | (go_at_call 45; refine (spec_l18Fits _ _ _ hma hmb).mono ?_; rintro e w' ⟨rfl, rfl⟩) | (go_at_call 46; refine (spec_l18Minus_ok _ _ _ h).mono ?_; rintro e w1 ⟨r, rfl, hr, hb⟩; have Hr := Lib.hid hr; clear hr))
  go_ret2
  exact ⟨r, rfl, Hr.out, hb⟩
theorem spec_ReadWith (a b : ByteArray) (w : World) (hma : a.size ≤ maxLen) (hmb : b.size ≤ maxLen) :
    Calls Try.prog 23 #[.string a, .string b] w (RetSB w (kf (nb a) (nb b)) (kfOk (nb a) (nb b))) := by
  unfold kf
  cases h : kfOk (nb a) (nb b)
  · exact spec_ReadWith_no a b w h hma hmb
  · exact spec_ReadWith_ok a b w h hma hmb
theorem impl_ReadWith (a b : ByteArray) (w : World) (hma : a.size ≤ maxLen) (hmb : b.size ≤ maxLen) :
    Calls Try.prog 24 #[.string a, .string b] w (RetSB w (kf (nb a) (nb b)) (kfOk (nb a) (nb b))) := by
  go_enter Try.func24, Try.ntmps24
  go_wp2_with fail
  refine (impl_withoutPartial a b w hma hmb).mono ?_
  rintro e w1 ⟨r, rfl, hr, hb⟩
  have Hr := Lib.hid hr
  clear hr
  go_wp2
  go_ret2
  exact ⟨r, rfl, Hr.out, hb⟩

theorem spec_ReadDepth_no (a b c : ByteArray) (w : World) (h : rdOk (nb a) (nb b) (nb c) = false) (hma : a.size ≤ maxLen) (hmb : b.size ≤ maxLen) (hmc : c.size ≤ maxLen) :
    Calls Try.prog 25 #[.string a, .string b, .string c] w (RetSB w [] false) := by
  unfold rdOk at h
  cases h1 : kfOk (nb a) (nb b)
  · clear h
    go_enter Try.func25, Try.ntmps25
    go_wp2_with (go_at_call 45; refine (spec_l18Fits _ _ _ (by assumption) hmb).mono ?_; rintro e w' ⟨rfl, rfl⟩)
    go_ret2
    exact ⟨ByteArray.empty, rfl, rfl, Below.refl _ _⟩
  · rw [h1, Bool.true_and] at h
    go_enter Try.func25, Try.ntmps25
    go_wp2_with (go_at_call 45; refine (spec_l18Fits _ _ _ (by assumption) hmb).mono ?_; rintro e w' ⟨rfl, rfl⟩)
    go_ret2
    exact ⟨ByteArray.empty, rfl, rfl, Below.refl _ _⟩
theorem spec_ReadDepth_ok (a b c : ByteArray) (w : World) (h1 : kfOk (nb a) (nb b) = true) (h2 : kfOk (nb c) (nb b) = true) (hma : a.size ≤ maxLen) (hmb : b.size ≤ maxLen) (hmc : c.size ≤ maxLen) :
    Calls Try.prog 25 #[.string a, .string b, .string c] w (RetSB w (minusL (nb c) (minusL (nb a) (nb b))) true) := by
  go_enter Try.func25, Try.ntmps25
  go_wp2_with (first | (go_at_call 45; refine (spec_l18Fits _ _ _ (by assumption) hmb).mono ?_; rintro e w' ⟨rfl, rfl⟩))
  refine (spec_l18Minus_ok a b w h1).mono ?_
  rintro e w1 ⟨r, rfl, hr, hb⟩
  have h3 : kfOk (nb c) (nb r) = true := by rw [hr, kf_again h1]; exact h2
  have Hr := Lib.hid hr
  clear hr
  go_wp2_with fail
  refine (spec_l18Minus_ok c r w1 h3).mono ?_
  rintro e w2 ⟨r2, rfl, hr2, hb2⟩
  have Hr2 := Lib.hid hr2
  clear hr2
  go_wp2_with fail
  go_ret2
  exact ⟨r2, rfl, by rw [Hr2.out, Hr.out], bthen hb hb2⟩
theorem spec_ReadDepth (a b c : ByteArray) (w : World) (hma : a.size ≤ maxLen) (hmb : b.size ≤ maxLen) (hmc : c.size ≤ maxLen) :
    Calls Try.prog 25 #[.string a, .string b, .string c] w (RetSB w (rd (nb a) (nb b) (nb c)) (rdOk (nb a) (nb b) (nb c))) := by
  unfold rd
  cases h : rdOk (nb a) (nb b) (nb c)
  · exact spec_ReadDepth_no a b c w h hma hmb hmc
  · have h' := h
    simp only [rdOk, Bool.and_eq_true] at h'
    exact spec_ReadDepth_ok a b c w h'.1 h'.2 hma hmb hmc
theorem impl_ReadDepth (a b c : ByteArray) (w : World) (hma : a.size ≤ maxLen) (hmb : b.size ≤ maxLen) (hmc : c.size ≤ maxLen) :
    Calls Try.prog 26 #[.string a, .string b, .string c] w (RetSB w (rd (nb a) (nb b) (nb c)) (rdOk (nb a) (nb b) (nb c))) := by
  cases h1 : kfOk (nb a) (nb b)
  · go_enter Try.func26, Try.ntmps26
    go_wp2_with fail
    refine (impl_withoutPartial_no a b w h1 hma hmb).mono ?_
    rintro e w1 ⟨r, rfl, hr, hb⟩
    clear hr
    go_wp2_with fail
    go_ret2
    refine ⟨ByteArray.empty, ?_, ?_, hb⟩
    · rw [rdOk, h1]; rfl
    · rw [rd, rdOk, h1]; rfl
  · go_enter Try.func26, Try.ntmps26
    go_wp2_with fail
    refine (impl_withoutPartial_ok a b w h1).mono ?_
    rintro e w1 ⟨r, rfl, hr, hb⟩
    have hs : r.size ≤ maxLen := by
      have h2 := (g3_yes h1).2.2
      rw [← nb_length, hr, minusL_len h2, nb_length]; exact hmb
    have Hr := Lib.hid hr
    clear hr
    go_wp2_with fail
    refine (impl_withoutPartial c r w1 hmc hs).mono ?_
    rintro e w2 ⟨r2, rfl, hr2, hb2⟩
    have Hr2 := Lib.hid hr2
    clear hr2
    go_wp2_with fail
    go_ret2
    have hB : rdOk (nb a) (nb b) (nb c) = kfOk (nb c) (nb r) := by rw [rdOk, Hr.out, kf_again h1, h1, Bool.true_and]
    refine ⟨r2, ?_, ?_, bthen hb hb2⟩
    · rw [hB]; rfl
    · rw [Hr2.out, Hr.out, kf, kf_again h1, rd, rdOk, h1, Bool.true_and]
end Go.Proofs.Ytilnffidckdadaa
