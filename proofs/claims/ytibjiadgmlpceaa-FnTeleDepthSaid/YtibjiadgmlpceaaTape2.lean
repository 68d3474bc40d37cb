/- Sums and changes of tapes: both programs return what the plain ones say. No condition. -/
import Derived.Test.YtibjiadgmlpceaaTape
set_option linter.unusedVariables false
namespace Go.Proofs.Ytibjiadgmlpceaa
open Go.RowKit

theorem xt_bds {v w : List Nat} (h : xtOk v w = true) : ∀ (k c d : Nat), v[k]? = some c → w[k]? = some d → 97 ≤ c ∧ c ≤ 104 ∧ 97 ≤ d ∧ d ≤ 104 := by
  obtain ⟨h1, h2, _⟩ := g3_yes h
  intro k c d hc hd
  obtain ⟨a1, a2⟩ := tv_at h1 hc
  obtain ⟨b1, b2⟩ := tv_at h2 hd
  exact ⟨a1, a2, b1, b2⟩
theorem toList_emptyT {x : ByteArray} (h : x.size = 0) : x.toList.isEmpty = true := by
  rw [ByteArray.toList_eq, List.isEmpty_iff]
  exact List.eq_nil_of_length_eq_zero (by rw [Array.length_toList]; exact h)
theorem toList_someT {x : ByteArray} (h : ¬ x.size = 0) : x.toList.isEmpty = false := by
  rw [ByteArray.toList_eq, ← Bool.not_eq_true, List.isEmpty_iff]
  intro e
  have := congrArg List.length e
  rw [Array.length_toList] at this
  exact h this
theorem xorL_len {v w : List Nat} (h : v.length = w.length) : (xorL v w).length = v.length := by simp [xorL]; omega
theorem impl_XorTapes_ok (a b : ByteArray) (w : World) (h : xtOk (nb a) (nb b) = true) :
    Calls Try.prog 22 #[.string a, .string b] w (RetSB w (xorL (nb a) (nb b)) true) := by
  obtain ⟨ha, hb, hl⟩ := g3_yes h
  have la := tv_len ha
  rw [nb_length] at la
  have hl' : a.size = b.size := by rw [← nb_length, ← nb_length]; exact hl
  have hma : a.size ≤ maxLen := by unfold maxLen; omega
  have hmb : b.size ≤ maxLen := by unfold maxLen; omega
  have hn : ((a.size : Int) != (b.size : Int)) = false := by rw [bne_eq_false_iff_eq]; omega
  have H := Lib.hid h
  have HL := Lib.hid hl'
  clear h hl hl'
  go_enter Try.func22, Try.ntmps22
  go_wp2_with (go_at_call 17; refine (impl_TapeValid _ _ (by assumption)).mono ?_; rintro e w' ⟨rfl, rfl⟩)
  refine (impl_xorBytes a b w (xt_bds H.out) HL.out la).mono ?_
  rintro e v1 ⟨r, rfl, hr, hb1⟩
  have Hr := Lib.hid hr
  clear hr
  go_wp2
  go_ret2
  exact ⟨r, rfl, Hr.out, hb1⟩
theorem impl_XorTapes_no (a b : ByteArray) (w : World) (h : xtOk (nb a) (nb b) = false) (hma : a.size ≤ maxLen) (hmb : b.size ≤ maxLen) :
    Calls Try.prog 22 #[.string a, .string b] w (RetSB w [] false) := by
  unfold xtOk at h
  rw [nb_length, nb_length] at h
  rcases g3_no h with h1 | ⟨h1, h2⟩ | ⟨h1, h2, h3⟩
  all_goals
    clear h
    go_enter Try.func22, Try.ntmps22
    go_wp2_with (first | (go_at_call 17; refine (impl_TapeValid _ _ (by assumption)).mono ?_; rintro e w' ⟨rfl, rfl⟩))
    go_ret2
    exact ⟨ByteArray.empty, rfl, rfl, Below.refl _ _⟩
theorem impl_XorTapes (a b : ByteArray) (w : World) (hma : a.size ≤ maxLen) (hmb : b.size ≤ maxLen) :
    Calls Try.prog 22 #[.string a, .string b] w (RetSB w (xt (nb a) (nb b)) (xtOk (nb a) (nb b))) := by
  unfold xt
  cases h : xtOk (nb a) (nb b)
  · exact impl_XorTapes_no a b w h hma hmb
  · exact impl_XorTapes_ok a b w h
theorem xor_mod {c d : Nat} (hc1 : 97 ≤ c) (hc : c ≤ 104) (hd1 : 97 ≤ d) (hd : d ≤ 104) : [(97 + bits .xor .i64 ((c : Int) - 97) ((d : Int) - 97) % 10).toNat] = [xor1 c d] := by
  have := xor1_int hc1 hc hd1 hd
  obtain ⟨h1, h2⟩ := xor1_bd hc1 hc hd1 hd
  rw [this]
  congr 1
  omega
set_option maxHeartbeats 1000000 in
theorem spec_XorTapes_ok (a b : ByteArray) (w : World) (h : xtOk (nb a) (nb b) = true) :
    Calls Try.prog 25 #[.string a, .string b] w (RetSB w (xorL (nb a) (nb b)) true) := by
  obtain ⟨ha, hb, hl⟩ := g3_yes h
  have la := tv_len ha
  rw [nb_length] at la
  have hl' : a.size = b.size := by rw [← nb_length, ← nb_length]; exact hl
  have hma : a.size ≤ maxLen := by unfold maxLen; omega
  have hmb : b.size ≤ maxLen := by unfold maxLen; omega
  have hn : ((a.size : Int) != (b.size : Int)) = false := by rw [bne_eq_false_iff_eq]; omega
  have hab : a.size ≤ b.size := by omega
  have H := Lib.hid h
  have HL : Hid ((xorL (nb a) (nb b)).length = a.size) := by show _ = _; rw [xorL_len hl, nb_length]
  clear h hl hl'
  go_enter Try.func25, Try.ntmps25
  go_wp2_with (go_at_call 40; refine (spec_TapeValid _ _ (by assumption)).mono ?_; rintro e w' ⟨rfl, rfl⟩)
  clear ha hb hn
  go_loopw [6, 7] (fun o i wr => ∃ (k : Nat) (s : ByteArray), k ≤ a.size ∧ i = .int .i64 k ∧ o = .string s ∧ nb s = (xorL (nb a) (nb b)).take k ∧ Below w.heap.size w wr) (fun _ i _ => a.size - (intOf i).toNat)
  case atStart => exact ⟨0, ByteArray.empty, Nat.zero_le _, rfl, rfl, rfl, Below.refl _ _⟩
  case round =>
    obtain ⟨k, s, hk, rfl, rfl, hs, hbe⟩ := hrel
    have hss : s.size ≤ 1000 := by rw [← nb_length, hs, List.length_take]; omega
    have Hs := Lib.hid hs
    clear hs
    by_cases hlt : k < a.size
    · obtain ⟨c, hc⟩ : ∃ c, (nb a)[k]? = some c := ⟨_, nb_get? a k hlt⟩
      obtain ⟨d, hd⟩ : ∃ d, (nb b)[k]? = some d := ⟨_, nb_get? b k (by omega)⟩
      obtain ⟨hc1, hc2, hd1, hd2⟩ := xt_bds H.out k c d hc hd
      have Hn := Lib.hid (take_snoc _ _ _ (zipWith_at (f := xor1) hc hd))
      have Hc := Lib.hid hc
      have Hd := Lib.hid hd
      clear hc hd
      go_wp2_with fail
      refine (spec_l1Digit _ _ k c _ rfl Hc.out).mono ?_
      rintro e w1 ⟨rfl, rfl⟩
      go_wp2_with fail
      refine (spec_l1Digit _ _ k d _ rfl Hd.out).mono ?_
      rintro e w1 ⟨rfl, rfl⟩
      go_wp2_with fail
      refine (spec_l1Letter _ _).mono ?_
      rintro e w1 ⟨r, rfl, hr, hb1⟩
      rw [xor_mod hc1 hc2 hd1 hd2] at hr
      have hrs : r.size ≤ 1 := by rw [← nb_length, hr]; simp
      have Hr := Lib.hid hr
      clear hr
      go_wp2
      go_roundw
      case rel => exact ⟨k + 1, _, by omega, by go_num, rfl, by rw [nb_append, Hs.out, Hr.out]; exact Hn.out.symm, bthenB hbe hb1 hbe.size⟩
      case measure => simp [intOf]; omega
    · go_wp2
      go_ret2
      exact ⟨s, rfl, by rw [Hs.out, List.take_of_length_le (by rw [HL.out]; omega)], hbe⟩
theorem spec_XorTapes_no (a b : ByteArray) (w : World) (h : xtOk (nb a) (nb b) = false) (hma : a.size ≤ maxLen) (hmb : b.size ≤ maxLen) :
    Calls Try.prog 25 #[.string a, .string b] w (RetSB w [] false) := by
  unfold xtOk at h
  rw [nb_length, nb_length] at h
  rcases g3_no h with h1 | ⟨h1, h2⟩ | ⟨h1, h2, h3⟩
  all_goals
    clear h
    go_enter Try.func25, Try.ntmps25
    go_wp2_with (first | (go_at_call 40; refine (spec_TapeValid _ _ (by assumption)).mono ?_; rintro e w' ⟨rfl, rfl⟩))
    go_ret2
    exact ⟨ByteArray.empty, rfl, rfl, Below.refl _ _⟩
theorem spec_XorTapes (a b : ByteArray) (w : World) (hma : a.size ≤ maxLen) (hmb : b.size ≤ maxLen) :
    Calls Try.prog 25 #[.string a, .string b] w (RetSB w (xt (nb a) (nb b)) (xtOk (nb a) (nb b))) := by
  unfold xt
  cases h : xtOk (nb a) (nb b)
  · exact spec_XorTapes_no a b w h hma hmb
  · exact spec_XorTapes_ok a b w h
theorem laws_rcXor (a b : ByteArray) (w : World) (hma : a.size ≤ maxLen) (hmb : b.size ≤ maxLen) :
    Calls Try.prog 18 #[.string a, .string b] w (RetS w (xt (nb a) (nb b))) := by
  go_enter Try.func18, Try.ntmps18
  go_wp2_with fail
  refine (impl_XorTapes a b w hma hmb).mono ?_
  rintro e w1 ⟨r, rfl, hr, hb⟩
  have Hr := Lib.hid hr
  clear hr
  go_wp2
  go_ret
  exact ⟨r, rfl, Hr.out, hb⟩
theorem deltaL_len (l : List Nat) : (deltaL l).length = l.length - 1 := by simp [deltaL, xorL]
theorem deltaL_at {l : List Nat} {k c d : Nat} (hc : l[k]? = some c) (hd : l[k + 1]? = some d) : (deltaL l)[k]? = some (xor1 c d) := by
  refine zipWith_at (f := xor1) ?_ ?_
  · have : k + 1 < l.length := (List.getElem?_eq_some_iff.1 hd).1
    rw [List.getElem?_take_of_lt (by omega)]; exact hc
  · rw [List.getElem?_drop, Nat.add_comm]; exact hd
set_option maxHeartbeats 1000000 in
theorem impl_DeltaTape (a : ByteArray) (w : World) (hma : a.size ≤ maxLen) :
    Calls Try.prog 12 #[.string a] w (RetS w (dt (nb a))) := by
  cases hv : tv (nb a)
  · have hr : dt (nb a) = [] := by rw [dt, hv]; rfl
    rw [hr]
    clear hr
    go_enter Try.func12, Try.ntmps12
    go_wp2_with fail
    refine (impl_TapeValid _ _ hma).mono ?_
    rintro e v0 ⟨rfl, rfl⟩
    go_wp2_with fail
    go_ret
    exact ⟨ByteArray.empty, rfl, rfl, Below.refl _ _⟩
  · have hr : dt (nb a) = deltaL (nb a) := by rw [dt, hv]; rfl
    rw [hr]
    clear hr
    have la := tv_len hv
    rw [nb_length] at la
    by_cases ha0 : a.size = 0
    · have ht := toList_emptyT ha0
      have hd : deltaL (nb a) = [] := by
        refine List.eq_nil_of_length_eq_zero ?_
        rw [deltaL_len, nb_length]; omega
      rw [hd]
      clear hd
      go_enter Try.func12, Try.ntmps12
      go_wp2_with fail
      refine (impl_TapeValid _ _ hma).mono ?_
      rintro e v0 ⟨rfl, rfl⟩
      go_wp2_with fail
      go_ret
      exact ⟨ByteArray.empty, rfl, rfl, Below.refl _ _⟩
    · have ht := toList_someT ha0
      have Ht := Lib.hid hv
      have x1 : nb (a.extract 0 (a.size - 1)) = (nb a).take (a.size - 1) := by rw [nb_extract, List.drop_zero]
      have x2 : nb (a.extract 1 a.size) = (nb a).drop 1 := by
        rw [nb_extract]
        congr 1
        exact List.take_of_length_le (by rw [nb_length]; exact Nat.le_refl _)
      have y1 : (a.extract 0 (a.size - 1)).size = a.size - 1 := by
        have := nb_length (a.extract 0 (a.size - 1))
        rw [x1, List.length_take, nb_length] at this
        omega
      have y2 : (a.extract 1 a.size).size = a.size - 1 := by
        have := nb_length (a.extract 1 a.size)
        rw [x2, List.length_drop, nb_length] at this
        omega
      have s1 : (a.extract 0 (a.size - 1)).size = (a.extract 1 a.size).size := by rw [y1, y2]
      have s2 : (a.extract 0 (a.size - 1)).size ≤ 200 := by omega
      have hbd : ∀ (k c d : Nat), (nb (a.extract 0 (a.size - 1)))[k]? = some c → (nb (a.extract 1 a.size))[k]? = some d → 97 ≤ c ∧ c ≤ 104 ∧ 97 ≤ d ∧ d ≤ 104 := by
        intro k c d hc hd
        rw [nb_extract] at hc hd
        have hc' : c ∈ nb a := List.mem_of_mem_take (List.mem_of_mem_drop (List.mem_of_getElem? hc))
        have hd' : d ∈ nb a := List.mem_of_mem_take (List.mem_of_mem_drop (List.mem_of_getElem? hd))
        obtain ⟨i, hi, rfl⟩ := List.mem_iff_getElem.1 hc'
        obtain ⟨j, hj, rfl⟩ := List.mem_iff_getElem.1 hd'
        obtain ⟨a1, a2⟩ := tv_at hv (List.getElem?_eq_getElem hi)
        obtain ⟨b1, b2⟩ := tv_at hv (List.getElem?_eq_getElem hj)
        exact ⟨a1, a2, b1, b2⟩
      have Hbd := Lib.hid hbd
      have Hs1 := Lib.hid s1
      have hx : xorL (nb (a.extract 0 (a.size - 1))) (nb (a.extract 1 a.size)) = deltaL (nb a) := by
        rw [x1, x2, deltaL, nb_length]
      have Hx := Lib.hid hx
      clear hbd s1 hx x1 x2 y1 y2
      go_enter Try.func12, Try.ntmps12
      go_wp2_with fail
      refine (impl_TapeValid _ _ hma).mono ?_
      rintro e v0 ⟨rfl, rfl⟩
      go_wp2_with fail
      have k1 : IntKind.i64.wrap ((a.size : Int) - 1) = (a.size : Int) - 1 := IntWalk.i64_in _ (by omega)
      have k2 : ((a.size : Int) - 1).toNat = a.size - 1 := by omega
      have k3 : (0 : Int) ≤ (a.size : Int) - 1 := by omega
      go_region_with (go_at_call 28; refine (impl_xorBytes _ _ _ Hbd.out Hs1.out s2).mono ?_; rintro e v1 ⟨r, rfl, hr, hb1⟩; have Hr := Lib.hid hr; clear hr)
      all_goals
        clear k1 k2 k3
        go_wp2
        go_ret
        exact ⟨r, rfl, by rw [Hr.out, Hx.out], ⟨hb1.os, hb1.tape, hb1.output, hb1.size, hb1.block⟩⟩
end Go.Proofs.Ytibjiadgmlpceaa
