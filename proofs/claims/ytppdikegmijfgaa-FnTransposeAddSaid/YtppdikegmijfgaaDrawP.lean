/- Permutations that are drawn: some strings, not too long. No condition. -/
import Derived.Test.YtppdikegmijfgaaDraw18
import Derived.Test.YtppdikegmijfgaaWords
import Derived.Deep.RegionWith
set_option linter.unusedVariables false
namespace Go.Proofs.Ytppdikegmijfgaa
open Go.RowKit

/-- A string of m bytes is drawn. -/
def DrE (w : World) (g p q m : Nat) (e : Ending) (w' : World) : Prop := ∃ r p', e = .returned (.string r) ∧ r.size = m ∧ p' ≤ p + q ∧ Rd w' g p' ∧ w.grownBy w' (some g)
theorem g_drewN {w w' : World} {row : Option Nat} (h : w.grownBy w' row) (n : Nat) : w.grownBy (w'.drewN n) row := ⟨h.os, h.tape, h.output, h.size, h.block⟩
def idL : List Nat := [97, 98, 99, 100, 101, 102, 103, 104, 105, 106]
theorem idL_at (k : Nat) (h : k < 10) : idL[k]? = some (97 + k) := by
  match k, h with
  | 0, _ | 1, _ | 2, _ | 3, _ | 4, _ | 5, _ | 6, _ | 7, _ | 8, _ | 9, _ => rfl
theorem idL_wv : wv idL = true := by decide
set_option maxHeartbeats 1000000 in
theorem spec_IdentityPerm (w : World) : Calls Try.prog 50 #[] w (RetS w idL) := by
  go_enter Try.func50, Try.ntmps50
  go_wp2_with fail
  go_loopw [1, 2] (fun o i wr => ∃ (k : Nat) (s : ByteArray), k ≤ 10 ∧ i = .int .i64 k ∧ o = .string s ∧ Hid (nb s = idL.take k) ∧ Below w.heap.size w wr) (fun _ i _ => 10 - (intOf i).toNat)
  case atStart => exact ⟨0, ByteArray.empty, Nat.zero_le _, rfl, rfl, rfl, Below.refl _ _⟩
  case round =>
    obtain ⟨k, s, hk, rfl, rfl, Hs, hbe⟩ := hrel
    have hss : s.size ≤ 10 := by rw [← nb_length, Hs.out, List.length_take]; omega
    by_cases hlt : k < 10
    · have Hn := Lib.hid (take_snoc _ _ _ (idL_at k hlt))
      go_wp2_with fail
      refine (spec_l1Letter _ _).mono ?_
      rintro e v2 ⟨r, rfl, hr, hb2⟩
      have hrs : r.size = 1 := by rw [← nb_length, hr]; rfl
      have hrs' : r.size ≤ 1 := by omega
      have Hr : Hid (nb r = [97 + k]) := by show _ = _; rw [hr]; congr 1; omega
      clear hr hrs
      go_wp2
      go_roundw
      case rel => exact ⟨k + 1, _, by omega, by go_num, rfl, (show nb (s ++ r) = _ by rw [nb_append, Hs.out, Hr.out]; exact Hn.out.symm), bthenB hbe hb2 hbe.size⟩
      case measure => simp [intOf]; omega
    · have hkn : k = 10 := by omega
      have Hs' : Hid (nb s = idL) := by show _ = _; rw [Hs.out, hkn]; rfl
      go_wp2_with fail
      go_ret
      exact ⟨s, rfl, Hs'.out, hbe⟩
set_option maxHeartbeats 1000000 in
theorem spec_ReverseWordS (a : ByteArray) (w : World) (hv : wv (nb a) = true) : Calls Try.prog 52 #[.string a] w fun e w' => ∃ r, e = .returned (.string r) ∧ r.size = a.size ∧ Below w.heap.size w w' := by
  have la := wv_len hv
  rw [nb_length] at la
  have ham : a.size ≤ maxLen := by unfold maxLen; omega
  go_enter Try.func52, Try.ntmps52
  go_wp2_with fail
  refine (spec_WordValid _ _ ham).mono ?_
  rintro e v1 ⟨rfl, rfl⟩
  go_wp2_with fail
  clear hv
  go_loopw [3, 4] (fun o i wr => ∃ (k : Nat) (s : ByteArray), k ≤ a.size ∧ i = .int .i64 ((k : Int) - 1) ∧ o = .string s ∧ Hid (s.size + k = a.size) ∧ Below w.heap.size w wr) (fun _ i _ => (intOf i + 1).toNat)
  case atStart => exact ⟨a.size, ByteArray.empty, Nat.le_refl _, by go_num, rfl, Nat.zero_add _, Below.refl _ _⟩
  case round =>
    obtain ⟨k, s, hk, rfl, rfl, Hs, hbe⟩ := hrel
    have hss : s.size ≤ 200 := by have := Hs.out; omega
    rcases Nat.eq_zero_or_pos k with h0 | h0
    · have h0' : ¬ (0 : Int) ≤ (k : Int) - 1 := by omega
      have Hs' : Hid (s.size = a.size) := by show _ = _; have := Hs.out; omega
      clear h0
      go_wp2_with fail
      go_ret
      exact ⟨s, rfl, Hs'.out, hbe⟩
    · obtain ⟨j, rfl⟩ : ∃ j, k = j + 1 := ⟨k - 1, by omega⟩
      have e1 : ((j + 1 : Nat) : Int) - 1 = (j : Int) := by omega
      rw [e1]
      have hja : j + 1 ≤ a.size := hk
      have k4 : ((j : Int) + 1) ≤ (a.size : Int) := by omega
      have hone : (a.extract j (j + 1)).size = 1 := by rw [← nb_length, nb_one a j (by omega)]; rfl
      have hone' : (a.extract j (j + 1)).size ≤ 1 := by omega
      have Hone := Lib.hid hone
      have e2 : ((j : Int) + 1).toNat = j + 1 := by omega
      clear hone e1
      go_wp2_with fail
      go_roundw
      case rel => exact ⟨j, _, by omega, by go_num, rfl, (show (s ++ a.extract j (j + 1)).size + j = a.size by rw [ByteArray.size_append, Hone.out]; have := Hs.out; omega), hbe⟩
      case measure => first | (simp [intOf]; done) | (simp [intOf]; omega)
set_option maxHeartbeats 1000000 in
theorem spec_ShiftWordS (a : ByteArray) (n : Nat) (w : World) (hv : wv (nb a) = true) (hn : n < 10) : Calls Try.prog 56 #[.string a, .int .i64 (n : Int)] w fun e w' => ∃ r, e = .returned (.string r) ∧ r.size = a.size ∧ Below w.heap.size w w' := by
  have la := wv_len hv
  rw [nb_length] at la
  have ham : a.size ≤ maxLen := by unfold maxLen; omega
  have hq : decide (0 ≤ (n : Int) ∧ (n : Int) ≤ 9) = true := by rw [decide_eq_true_eq]; omega
  have Hv := Lib.hid hv
  go_enter Try.func56, Try.ntmps56
  go_wp2_with fail
  refine (spec_WordValid _ _ ham).mono ?_
  rintro e v1 ⟨rfl, rfl⟩
  go_wp2_with fail
  refine (spec_l1In _ _ _ _ _ hq).mono ?_
  rintro e v2 ⟨rfl, rfl⟩
  go_wp2_with fail
  clear hv hq
  go_loopw [5, 6] (fun o i wr => ∃ (k : Nat) (s : ByteArray), k ≤ a.size ∧ i = .int .i64 k ∧ o = .string s ∧ Hid (s.size = k) ∧ Below w.heap.size w wr) (fun _ i _ => a.size - (intOf i).toNat)
  case atStart => exact ⟨0, ByteArray.empty, Nat.zero_le _, rfl, rfl, rfl, Below.refl _ _⟩
  case round =>
    obtain ⟨k, s, hk, rfl, rfl, Hs, hbe⟩ := hrel
    have hss : s.size ≤ 200 := by have := Hs.out; omega
    by_cases hlt : k < a.size
    · obtain ⟨c, hc⟩ : ∃ c, (nb a)[k]? = some c := ⟨_, nb_get? a k hlt⟩
      obtain ⟨hc1, hc2⟩ := wv_at Hv.out hc
      have Hc := Lib.hid hc
      clear hc
      go_wp2_with fail
      refine (spec_l1Digit _ _ k c _ rfl Hc.out).mono ?_
      rintro e v3 ⟨rfl, rfl⟩
      go_wp2_with fail
      refine (spec_l1Letter _ _).mono ?_
      rintro e v4 ⟨r, rfl, hr, hb4⟩
      have hrs : r.size = 1 := by rw [← nb_length, hr]; rfl
      have hrs' : r.size ≤ 1 := by omega
      have Hrs := Lib.hid hrs
      clear hr hrs
      go_wp2
      go_roundw
      case rel => exact ⟨k + 1, _, by omega, by go_num, rfl, (show (s ++ r).size = k + 1 by rw [ByteArray.size_append, Hs.out, Hrs.out]), bthenB hbe hb4 hbe.size⟩
      case measure => simp [intOf]; omega
    · have Hs' : Hid (s.size = a.size) := by show _ = _; have := Hs.out; omega
      go_wp2_with fail
      go_ret
      exact ⟨s, rfl, Hs'.out, hbe⟩
theorem spec_l2Turn (n : Nat) (w : World) (hn : n < 10) : Calls Try.prog 51 #[.int .i64 (n : Int)] w fun e w' => ∃ r, e = .returned (.string r) ∧ r.size = 10 ∧ Below w.heap.size w w' := by
  go_enter Try.func51, Try.ntmps51
  go_wp2_with fail
  refine (spec_IdentityPerm _).mono ?_
  rintro e v1 ⟨a, rfl, ha, hb1⟩
  have has : a.size = 10 := by rw [← nb_length, ha]; rfl
  have Has := Lib.hid has
  have Ha := Lib.hid ha
  clear ha has
  go_wp2_with fail
  refine (spec_ShiftWordS a n _ (by rw [Ha.out]; exact idL_wv) hn).mono ?_
  rintro e v2 ⟨r, rfl, hr, hb2⟩
  have Hr := Lib.hid (hr.trans Has.out)
  clear hr
  go_wp2_with fail
  go_ret
  exact ⟨r, rfl, Hr.out, bthen hb1 hb2⟩
set_option maxHeartbeats 1000000 in
theorem spec_l2Some (g p : Nat) (w : World) (h : Rd w g p) (hp : p ≤ 80000) :
    Calls Try.prog 53 #[.pointer (some ⟨g, 0, none⟩)] w (DrE w g p 10 10) := by
  go_enter Try.func53, Try.ntmps53
  go_wp2_with fail
  refine (spec_IdentityPerm _).mono ?_
  rintro e v1 ⟨a, rfl, ha, hb1⟩
  have has : a.size = 10 := by rw [← nb_length, ha]; rfl
  have Has := Lib.hid has
  have hr1 := h.next hb1
  have hg1 := gbel hb1 (some g)
  have has' : a.size ≤ 10 := by omega
  clear ha has
  go_wp2_with fail
  go_loopw [3, 4] (fun l o wr => ∃ (k : Nat) (x s : ByteArray), l = .string x ∧ o = .string s ∧ Hid (x.size = k) ∧ Hid (s.size + k = 10) ∧ k ≤ 10 ∧ Hid (∃ q, q + k ≤ p + 10 ∧ Rd wr g q) ∧ w.grownBy wr (some g)) (fun l _ _ => match l with | .string x => x.size | _ => 0)
  case atStart => exact ⟨10, a, ByteArray.empty, rfl, rfl, Has.out, rfl, Nat.le_refl _, ⟨p, Nat.le_refl _, hr1⟩, hg1⟩
  case round =>
    obtain ⟨k, x, s, rfl, rfl, Hx, Hs, hk, HR, hg⟩ := hrel
    obtain ⟨q, hq, hr⟩ := HR.out
    clear HR
    have hss : s.size ≤ 10 := by have := Hs.out; omega
    have hxs : x.size ≤ 10 := by have := Hx.out; omega
    by_cases h0 : x.size = 0
    · have hx0 : ¬ (0 : Int) < (x.size : Int) := by omega
      have Hs' : Hid (s.size = 10) := by show _ = _; have := Hs.out; have := Hx.out; omega
      clear h0
      go_wp2_with fail
      go_ret
      exact ⟨s, q, rfl, Hs'.out, by omega, hr, hg⟩
    · have hx0 : (0 : Int) < (x.size : Int) := by omega
      go_wp2_with fail
      refine (spec_pick g q _ wr hr (by omega) (by omega) (by omega)).mono ?_
      rintro e v2 ⟨m, rfl, hm, hr2, hg2⟩
      have hmx : m < x.size := by omega
      have hm1 : m + 1 ≤ x.size := hmx
      have hmi : (m : Int) ≤ (x.size : Int) := by omega
      have k1 : IntKind.i64.wrap ((m : Int) + 1) = (m : Int) + 1 := IntWalk.i64_in _ (by omega)
      have k2 : ((m : Int) + 1).toNat = m + 1 := by omega
      have k3 : (0 : Int) ≤ (m : Int) + 1 := by omega
      have k4 : ((m : Int) + 1) ≤ (x.size : Int) := by omega
      have hone : (x.extract m (m + 1)).size = 1 := by rw [ByteArray.size_extract]; omega
      have hone' : (x.extract m (m + 1)).size ≤ 1 := by omega
      have hl1 : (x.extract 0 m).size = m := by rw [ByteArray.size_extract]; omega
      have hl2 : (x.extract (m + 1) x.size).size = x.size - (m + 1) := by rw [ByteArray.size_extract]; omega
      have hl1' : (x.extract 0 m).size ≤ 10 := by omega
      have hl2' : (x.extract (m + 1) x.size).size ≤ 10 := by omega
      have Hone := Lib.hid hone
      have Hl1 := Lib.hid hl1
      have Hl2 := Lib.hid hl2
      clear hm h0 hone hl1 hl2
      go_wp2_with fail
      go_quiet (fail)
      go_wp2_with fail
      go_roundw
      case rel => exact ⟨k - 1, _, _, rfl, rfl, (show (x.extract 0 m ++ x.extract (m + 1) x.size).size = k - 1 by rw [ByteArray.size_append, Hl1.out, Hl2.out]; have := Hx.out; omega), (show (s ++ x.extract m (m + 1)).size + (k - 1) = 10 by rw [ByteArray.size_append, Hone.out]; have := Hs.out; have := Hx.out; omega), by omega, ⟨q + 1, by have := Hx.out; omega, hr2⟩, g_drewN (gthen hg hg2) _⟩
      case measure => show (x.extract 0 m ++ x.extract (m + 1) x.size).size < x.size; rw [ByteArray.size_append, Hl1.out, Hl2.out]; omega
set_option maxHeartbeats 1000000 in
theorem spec_l2Any (g p : Nat) (w : World) (h : Rd w g p) (hp : p ≤ 70000) :
    Calls Try.prog 45 #[.pointer (some ⟨g, 0, none⟩)] w (DrE w g p 20 10) := by
  go_enter Try.func45, Try.ntmps45
  go_wp2_with fail
  refine (spec_pick g p _ w h (by omega) (by omega) (by omega)).mono ?_
  rintro e v1 ⟨m, rfl, hm, hr1, hg1⟩
  clear hm
  by_cases h0 : m = 0
  · subst h0
    go_wp2_with fail
    refine (spec_IdentityPerm _).mono ?_
    rintro e v2 ⟨a, rfl, ha, hb2⟩
    have has : a.size = 10 := by rw [← nb_length, ha]; rfl
    have Has := Lib.hid has
    clear ha has
    go_wp2_with fail
    go_ret
    exact ⟨a, p + 1, rfl, Has.out, by omega, hr1.next hb2, gthen hg1 (gbel hb2 _)⟩
  · have b0 : ((m : Int) == 0) = false := by rw [beq_eq_false_iff_ne]; omega
    by_cases h1 : m = 1
    · subst h1
      clear h0 b0
      go_wp2_with fail
      refine (spec_pick g (p + 1) _ _ hr1 (by omega) (by omega) (by omega)).mono ?_
      rintro e v2 ⟨t, rfl, ht, hr2, hg2⟩
      have ht' : t < 10 := by omega
      clear ht
      go_wp2_with fail
      refine (spec_l2Turn t _ ht').mono ?_
      rintro e v3 ⟨a, rfl, has, hb3⟩
      have Has := Lib.hid has
      clear has
      go_wp2_with fail
      go_ret
      exact ⟨a, p + 1 + 1, rfl, Has.out, by omega, hr2.next hb3, gthen (gthen hg1 hg2) (gbel hb3 _)⟩
    · have b1 : ((m : Int) == 1) = false := by rw [beq_eq_false_iff_ne]; omega
      by_cases h2 : m = 2
      · subst h2
        clear h0 b0 h1 b1
        go_wp2_with fail
        refine (spec_IdentityPerm _).mono ?_
        rintro e v2 ⟨a, rfl, ha, hb2⟩
        have has : a.size = 10 := by rw [← nb_length, ha]; rfl
        have Has := Lib.hid has
        have Ha := Lib.hid ha
        clear ha has
        go_wp2_with fail
        refine (spec_ReverseWordS a _ (by rw [Ha.out]; exact idL_wv)).mono ?_
        rintro e v3 ⟨b, rfl, hbs, hb3⟩
        have Hbs := Lib.hid (hbs.trans Has.out)
        clear hbs
        go_wp2_with fail
        go_ret
        exact ⟨b, p + 1, rfl, Hbs.out, by omega, (hr1.next hb2).next hb3, gthen (gthen hg1 (gbel hb2 _)) (gbel hb3 _)⟩
      · have b2 : ((m : Int) == 2) = false := by rw [beq_eq_false_iff_ne]; omega
        clear h0 h1 h2
        go_wp2_with fail
        refine (spec_l2Some g (p + 1) _ hr1 (by omega)).mono ?_
        rintro e v2 ⟨r, p2, rfl, hrs, hp2, hr2, hg2⟩
        have Hrs := Lib.hid hrs
        clear hrs
        go_wp2_with fail
        go_ret
        exact ⟨r, p2, rfl, Hrs.out, by omega, hr2, gthen hg1 hg2⟩
set_option maxHeartbeats 2000000 in
theorem spec_l2Bad (g p : Nat) (a : ByteArray) (w : World) (h : Rd w g p) (hp : p ≤ 80000) (ha : a.size = 10) :
    Calls Try.prog 44 #[.pointer (some ⟨g, 0, none⟩), .string a] w fun e w' => ∃ r, e = .returned (.string r) ∧ r.size ≤ 100 ∧ w.grownBy w' (some g) := by
  have ha1 : a.size ≤ 10 := by omega
  have ha2 : 10 ≤ a.size := by omega
  clear ha
  go_enter Try.func44, Try.ntmps44
  go_wp2_with fail
  refine (spec_pick g p _ w h (by omega) (by omega) (by omega)).mono ?_
  rintro e v1 ⟨k, rfl, hk, hr1, hg1⟩
  have hka : k < a.size := by omega
  clear hk
  go_wp2_with fail
  refine (spec_pick g (p + 1) _ _ hr1 (by omega) (by omega) (by omega)).mono ?_
  rintro e v2 ⟨m, rfl, hm, hr2, hg2⟩
  clear hm
  have hgl := hr2.lt
  have hG := gthen hg1 hg2
  have q1 : (a.extract 0 k).size ≤ 10 := by rw [ByteArray.size_extract]; omega
  have q2 : (a.extract (k + 1) a.size).size ≤ 10 := by rw [ByteArray.size_extract]; omega
  have hki : (k : Int) ≤ (a.size : Int) := by omega
  have k4 : ((k : Int) + 1) ≤ (a.size : Int) := by omega
  by_cases h0 : m = 0
  · subst h0
    go_wp2_with fail
    have k1 : IntKind.i64.wrap ((k : Int) + 1) = (k : Int) + 1 := IntWalk.i64_in _ (by omega)
    have k2 : ((k : Int) + 1).toNat = k + 1 := by omega
    have k3 : (0 : Int) ≤ (k : Int) + 1 := by omega
    go_region_with (first | (go_at_call 30; refine (spec_pick _ _ _ _ (by exact hr2) (by omega) (by omega) (by omega)).mono ?_; rintro e v3 ⟨t, rfl, ht, hr3, hg3⟩) | (go_at_call 46; refine (spec_l1Letter _ _).mono ?_; rintro e v4 ⟨r4, rfl, hr4, hb4⟩; have hs4 : r4.size ≤ 1 := (by rw [← nb_length, hr4]; exact Nat.le_refl 1); clear hr4))
    all_goals
      clear k1 k2 k3
      have q3 : (a.extract 0 k ++ r4 ++ a.extract (k + 1) a.size).size ≤ 30 := by rw [ByteArray.size_append, ByteArray.size_append]; omega
      have hg3' : v2.grownBy v3 (some g) := ⟨hg3.os, hg3.tape, hg3.output, hg3.size, hg3.block⟩
      go_wp2_with fail
      go_ret
      exact ⟨_, rfl, by omega, gthen (gthen hG hg3') (gbel hb4 _)⟩
  · have b0 : ((m : Int) == 0) = false := by rw [beq_eq_false_iff_ne]; omega
    by_cases h1 : m = 1
    · subst h1
      clear h0 b0
      have q3 : (a.extract 0 k ++ a.extract (k + 1) a.size).size ≤ 30 := by rw [ByteArray.size_append]; omega
      go_wp2_with fail
      have k1 : IntKind.i64.wrap ((k : Int) + 1) = (k : Int) + 1 := IntWalk.i64_in _ (by omega)
      have k2 : ((k : Int) + 1).toNat = k + 1 := by omega
      have k3 : (0 : Int) ≤ (k : Int) + 1 := by omega
      go_quiet (fail)
      clear k1 k2 k3
      go_wp2_with fail
      go_ret
      exact ⟨_, rfl, by omega, g_drewN hG _⟩
    · have b1 : ((m : Int) == 1) = false := by rw [beq_eq_false_iff_ne]; omega
      by_cases h2 : m = 2
      · subst h2
        clear h0 b0 h1 b1
        go_wp2_with fail
        refine (spec_of g (p + 1 + 1) 3 3 _ [S1 97, S1 107, S1 32] _ (hr2.alloc _) (by omega) (by omega) (by omega) ⟨v2.heap.size, 0, none⟩ rfl rfl (by show v2.heap.size ≠ g; omega) rfl
          (fun j z hz => cells_lit v2 [.string (S1 97), .string (S1 107), .string (S1 32)] 9 j _ (by have := congrArg (Option.map Value.string) hz; simpa [← List.getElem?_map] using this))).mono ?_
        rintro e v3 ⟨z, rfl, hz, hr3, hg3⟩
        have hz1 : z.size ≤ 1 := by simp at hz; rcases hz with rfl | rfl | rfl <;> exact Nat.le_refl _
        clear hz
        go_wp2_with fail
        go_ret
        exact ⟨_, rfl, by rw [ByteArray.size_append]; omega, gthen (gthen hG (galloc _ _ _)) hg3⟩
      · have b2 : ((m : Int) == 2) = false := by rw [beq_eq_false_iff_ne]; omega
        clear h0 h1 h2
        go_wp2_with fail
        go_ret
        exact ⟨_, rfl, by omega, hG⟩
theorem spec_DrawPermValid (a : Option Addr) (len cap : Nat) (zs : List Int) (w : World) (h : IsRow .u8 w a len cap zs) :
    Calls Try.prog 26 #[.slice a len cap] w (RetAny w 100) := by
  go_enter Try.func26, Try.ntmps26
  go_wp2_with fail
  refine (spec_l21Open _ _ _ _ _ h).mono ?_
  rintro e v0 ⟨rfl, hr0, hb0⟩
  go_wp2_with fail
  refine (spec_l2Any _ 0 _ hr0 (by omega)).mono ?_
  rintro e v1 ⟨r1, p1, rfl, hs1, hp1, hr1, hg1⟩
  go_wp2_with fail
  refine (spec_l2Bad _ p1 _ _ hr1 (by omega) hs1).mono ?_
  rintro e v2 ⟨r2, rfl, hs2, hg2⟩
  clear hs1
  go_wp2_with fail
  go_ret
  exact ⟨r2, rfl, hs2, hb0.grown (gthen hg1 hg2) hb0.size (fun k hk => by injection hk with hk; omega)⟩
theorem spec_DrawInversePerm (a : Option Addr) (len cap : Nat) (zs : List Int) (w : World) (h : IsRow .u8 w a len cap zs) :
    Calls Try.prog 9 #[.slice a len cap] w (RetAny w 100) := by
  go_enter Try.func9, Try.ntmps9
  go_wp2_with fail
  refine (spec_DrawPermValid _ _ _ _ _ h).mono ?_
  rintro e v1 ⟨r, rfl, hs, hb⟩
  go_wp2_with fail
  go_ret
  exact ⟨r, rfl, hs, hb⟩
end Go.Proofs.Ytppdikegmijfgaa
