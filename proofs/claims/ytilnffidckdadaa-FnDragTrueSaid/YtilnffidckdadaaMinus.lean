/- What a word with gaps tells about a key: both programs return what the plain function says. No condition. -/
import Derived.Test.YtilnffidckdadaaVal
import Derived.Test.YtilnffidckdadaaPlain18
import Derived.StillTailTactics
set_option linter.unusedVariables false
namespace Go.Proofs.Ytilnffidckdadaa
open Go.RowKit

theorem minus_eq (c p : Nat) (h1 : 97 ≤ c) (h2 : c ≤ 106) (h3 : 97 ≤ p) (h4 : p ≤ 106) : (97 + ((c : Int) - 97 - ((p : Int) - 97)) % 10).toNat = minus1 c p := by
  unfold minus1
  rw [if_neg (by omega)]
  omega

set_option maxHeartbeats 1000000 in
theorem spec_l18Minus (a b : ByteArray) (w : World) (ha : ∀ (k c : Nat), (nb a)[k]? = some c → 97 ≤ c ∧ c ≤ 106) (hb : ∀ (k c : Nat), (nb b)[k]? = some c → c = 45 ∨ (97 ≤ c ∧ c ≤ 106))
    (hl : b.size ≤ a.size) (hz : b.size ≤ 200) :
    Calls Try.prog 46 #[.string a, .string b] w (RetS w (minusL (nb a) (nb b))) := by
  have hL : (minusL (nb a) (nb b)).length = b.size := by simp [minusL, nb_length]; omega
  have HL := Lib.hid hL
  have Ha := Lib.hid ha
  have Hb := Lib.hid hb
  clear hL ha hb
  go_enter Try.func46, Try.ntmps46
  go_wp2
  go_loopw [5, 6] (fun o i wr => ∃ (k : Nat) (s : ByteArray), k ≤ b.size ∧ i = .int .i64 k ∧ o = .string s ∧ nb s = (minusL (nb a) (nb b)).take k ∧ Below w.heap.size w wr) (fun _ i _ => b.size - (intOf i).toNat)
  case atStart => exact ⟨0, ByteArray.empty, Nat.zero_le _, rfl, rfl, rfl, Below.refl _ _⟩
  case round =>
    obtain ⟨k, s, hk, rfl, rfl, hs, hbel⟩ := hrel
    have hss : s.size ≤ 200 := by rw [← nb_length, hs, List.length_take]; omega
    have Hs := Lib.hid hs
    clear hs
    by_cases hlt : k < b.size
    · obtain ⟨c, hc⟩ : ∃ c, (nb a)[k]? = some c := ⟨_, nb_get? a k (by omega)⟩
      obtain ⟨p, hp⟩ : ∃ p, (nb b)[k]? = some p := ⟨_, nb_get? b k hlt⟩
      have hpk : b[k].toNat = p := by have := nb_get? b k hlt; rw [hp] at this; injection this with this; exact this.symm
      have Hn := Lib.hid (take_snoc _ _ _ (zipWith_at (f := minus1) hc hp))
      obtain ⟨hc1, hc2⟩ := Ha.out k c hc
      have hpp := Hb.out k p hp
      have Hc := Lib.hid hc
      have Hp := Lib.hid hp
      clear hc hp
      by_cases h45 : p = 45
      · have hq : ((b[k].toNat : Int) == 45) = true := by rw [beq_iff_eq]; omega
        clear hpk hpp
        go_wp2
        go_roundw
        case rel => exact ⟨k + 1, _, by omega, by go_num, rfl, by rw [nb_append, Hs.out]; refine (Eq.trans ?_ Hn.out.symm); simp [minus1, h45]; rfl, hbel⟩
        case measure => simp [intOf]; omega
      · have hq : ((b[k].toNat : Int) == 45) = false := by rw [beq_eq_false_iff_ne]; omega
        have hp1 : 97 ≤ p := by omega
        have hp2 : p ≤ 106 := by omega
        clear hpk hpp h45
        go_wp2_with fail
        refine (spec_l1Digit _ _ k c _ rfl Hc.out).mono ?_
        rintro e w1 ⟨rfl, rfl⟩
        go_wp2_with fail
        refine (spec_l1Digit _ _ k p _ rfl Hp.out).mono ?_
        rintro e w1 ⟨rfl, rfl⟩
        go_wp2_with fail
        refine (spec_l1Letter _ _).mono ?_
        rintro e w1 ⟨r, rfl, hr, hb1⟩
        have hrs : r.size = 1 := by rw [← nb_length, hr]; rfl
        have hrs' : r.size ≤ 1 := by omega
        have Hr := Lib.hid hr
        clear hr hrs
        go_wp2
        go_roundw
        case rel =>
          refine ⟨k + 1, _, by omega, by go_num, rfl, ?_, bthenB hbel hb1 hbel.size⟩
          rw [nb_append, Hs.out, Hr.out, minus_eq c p hc1 hc2 hp1 hp2]
          exact Hn.out.symm
        case measure => simp [intOf]; omega
    · go_wp2
      go_ret
      obtain rfl : k = b.size := by omega
      exact ⟨s, rfl, by rw [Hs.out, ← HL.out, List.take_length], hbel⟩

theorem impl_withoutPartial_no (a b : ByteArray) (w : World) (h : kfOk (nb a) (nb b) = false) (hma : a.size ≤ maxLen) (hmb : b.size ≤ maxLen) :
    Calls Try.prog 47 #[.string a, .string b] w (RetSB w [] false) := by
  unfold kfOk at h
  rw [nb_length, nb_length] at h
  rcases g3_no h with h1 | ⟨h1, h2⟩ | ⟨h1, h2, h3⟩
  all_goals
    clear h
    go_enter Try.func47, Try.ntmps47
    go_wp2_with (first | (go_at_call 28; refine (impl_WordValid _ _ (by assumption)).mono ?_; rintro e w' ⟨rfl, rfl⟩) | (go_at_call 16; refine (impl_PartialValid _ _ (by assumption)).mono ?_; rintro e w' ⟨rfl, rfl⟩))
    go_ret2
    exact ⟨ByteArray.empty, rfl, rfl, Below.refl _ _⟩

theorem minus1_lt (c p : Nat) : minus1 c p < 256 := by unfold minus1; split <;> omega
theorem minusL_lt (v w : List Nat) : ∀ x ∈ minusL v w, x < 256 := by
  intro x hx
  obtain ⟨k, hk, rfl⟩ := List.mem_iff_getElem.1 hx
  simp only [minusL, List.getElem_zipWith]
  exact minus1_lt _ _
theorem minus_eq2 (c p : Nat) (h1 : 97 ≤ c) (h2 : c ≤ 106) (h3 : 97 ≤ p) (h4 : p ≤ 106) : 97 + ((c : Int) - 97 + (10 - ((p : Int) - 97))) % 10 = ((minus1 c p : Nat) : Int) := by
  unfold minus1
  rw [if_neg (by omega)]
  omega

set_option maxHeartbeats 1000000 in
theorem impl_withoutPartial_ok (a b : ByteArray) (w : World) (h : kfOk (nb a) (nb b) = true) :
    Calls Try.prog 47 #[.string a, .string b] w (RetSB w (minusL (nb a) (nb b)) true) := by
  obtain ⟨ha, hb, hl⟩ := g3_yes h
  have la := wv_len ha
  rw [nb_length] at la
  have hma : a.size ≤ maxLen := by unfold maxLen; omega
  have hl' : a.size = b.size := by rw [← nb_length, ← nb_length]; exact hl
  have hmb : b.size ≤ maxLen := by unfold maxLen; omega
  have hn := ne_no hl'
  have hL : (minusL (nb a) (nb b)).length = (nb b).length := by simp [minusL]; omega
  have Hha := Lib.hid ha
  have Hhb := Lib.hid hb
  have HL := Lib.hid hL
  have lb : b.size ≤ 200 := by omega
  have lab : b.size ≤ a.size := by omega
  obtain ⟨cap, w1, hconv, hbuf, hbel, hsz⟩ := to_bytes b w
  clear hl hl' hL h
  go_enter Try.func47, Try.ntmps47
  go_wp2_with (first | (go_at_call 28; refine (impl_WordValid _ _ (by assumption)).mono ?_; rintro e w' ⟨rfl, rfl⟩) | (go_at_call 16; refine (impl_PartialValid _ _ (by assumption)).mono ?_; rintro e w' ⟨rfl, rfl⟩))
  go_loopw [27] (fun i wr => ∃ k : Nat, k ≤ b.size ∧ i = .int .i64 k ∧ Buf wr w.heap.size 5 (bcells (mix (minusL (nb a) (nb b)) (nb b) k)) ∧ Below w.heap.size w wr) (fun i _ => b.size - (intOf i).toNat)
  case atStart => exact ⟨0, Nat.zero_le _, rfl, by rw [mix_zero]; exact hbuf, hbel⟩
  case round =>
    obtain ⟨k, hk, rfl, hbk, hbe⟩ := hrel
    clear hconv hbuf hbel hsz
    by_cases hlt : k < b.size
    · have hkb : k < a.size := by omega
      obtain ⟨c, hc⟩ : ∃ c, (nb a)[k]? = some c := ⟨_, nb_get? a k hkb⟩
      obtain ⟨p, hp⟩ : ∃ d, (nb b)[k]? = some d := ⟨_, nb_get? b k hlt⟩
      obtain ⟨hc1, hc2⟩ := wv_at Hha.out hc
      have hpp := pv_at Hhb.out hp
      have hdk : a[k].toNat = c := by have := nb_get? a k hkb; rw [hc] at this; injection this with this; exact this.symm
      have hcell := hbk.cell (bcells_at ((mix_at _ _ k HL.out (by rw [nb_length]; exact hlt)).trans hp))
      have hfree := hbk.free (j := k) (by rw [bcells_len, mix_len _ _ _ HL.out, nb_length]; exact hlt)
      have Hn := Lib.hid (zipWith_at (f := minus1) hc hp)
      have Hp := Lib.hid hp
      clear hc hp
      by_cases h45 : p = 45
      · subst h45
        go_wp2
        go_roundw
        case rel => exact ⟨k + 1, by omega, by go_num, by rw [← mix_keep _ _ k 45 HL.out Hn.out Hp.out]; exact hbk, hbe⟩
        case measure => simp [intOf]; omega
      · have hp1 : 97 ≤ p := by omega
        have hp2 : p ≤ 106 := by omega
        have hq : ((p : Int) != 45) = true := by rw [bne_iff_ne]; omega
        clear hpp h45
        go_wp2_with fail
        have hwr : IntKind.i64.wrap (10 - ((p : Int) - 97)) = 10 - ((p : Int) - 97) := IntWalk.i64_in _ (by omega)
        refine wp_region_still_tail 13 (by kernel_rfl) (by kernel_rfl) ?_
        simp only [List.take_succ_cons, List.take_zero, List.drop_succ_cons, List.drop_zero]
        repeat (first | still_step | still_call (quietly (impl_number _ _ (by omega) (by omega))) | still_call (quietly (impl_shifted _ _ _ (by omega) (by omega) (by omega) (by omega))))
        refine wpStill_nil ?_
        clear hwr
        change wpList _ _ _ _ _ wr.drew
        go_wp2
        go_roundw
        case rel => exact ⟨k + 1, by omega, by go_num, (hbk.put HL.out Hn.out (minus_eq2 c p hc1 hc2 hp1 hp2)).drew, (hbe.setCell (Nat.le_refl _) _).drew⟩
        case measure => simp [intOf]; omega
    · obtain ⟨r, hr, hrun⟩ := of_bytes wr w.heap.size b.size cap (minusL (nb a) (nb b)) (by
        obtain rfl : k = b.size := by omega
        have := hbk
        rwa [← nb_length b, ← HL.out, mix_all _ _ (Nat.le_of_eq HL.out.symm)] at this) (by rw [HL.out, nb_length]) (minusL_lt _ _)
      have Hr := Lib.hid hr
      clear hr
      go_wp2
      go_ret2
      exact ⟨r, rfl, Hr.out, hbe⟩
theorem impl_withoutPartial (a b : ByteArray) (w : World) (hma : a.size ≤ maxLen) (hmb : b.size ≤ maxLen) :
    Calls Try.prog 47 #[.string a, .string b] w (RetSB w (kf (nb a) (nb b)) (kfOk (nb a) (nb b))) := by
  unfold kf
  cases h : kfOk (nb a) (nb b)
  · exact impl_withoutPartial_no a b w h hma hmb
  · exact impl_withoutPartial_ok a b w h
end Go.Proofs.Ytilnffidckdadaa
