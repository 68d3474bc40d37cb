/- The walk of the law on the order of a key. No condition. -/
import Derived.Test.YtggjlagfjggmiaaDraw17c
import Derived.Test.YtggjlagfjggmiaaKeyOrd
import Derived.Test.YtggjlagfjggmiaaPlainK2
import Derived.Test.YtggjlagfjggmiaaRc
set_option linter.unusedVariables false
namespace Go.Proofs.Ytggjlagfjggmiaa
open Go.RowKit

theorem kv_at {key : ByteArray} {p : Nat} (h : p < key.size) : key[p].toNat = kv (nb key) (p : Int) := by
  rw [kv, Int.toNat_natCast, List.getD_eq_getElem?_getD, nb_get? key p h]; rfl
set_option maxHeartbeats 2000000 in
theorem walk_FnKeyOrder (a0 : Option Addr) (len0 cap0 : Nat) (z0 : List Int) (w : World) (w0 : IsRow .u8 w a0 len0 cap0 z0) :
    Calls Try.prog 5 #[.slice a0 len0 cap0] w fun e w' => e = .returned (.bool true) ∧ Below w.heap.size w w' := by
  have hl := w0.len_le
  by_cases hbig : 1048576 < len0
  · clear w0
    go_enter Try.func5, Try.ntmps5
    go_wp2_with fail
    go_ret
    exact ⟨rfl, Below.refl _ _⟩
  · have W0 := Lib.hid w0
    clear w0
    go_enter Try.func5, Try.ntmps5
    go_wp2_with fail
    refine (spec_DrawKeyOrder _ _ _ _ _ W0.out).mono ?_
    rintro e v1 ⟨key, rfl, hks, hb1⟩
    have hkm : key.size ≤ maxLen := by unfold maxLen; omega
    go_wp2_with fail
    refine (impl_KeyOrder key _ hkm).mono ?_
    rintro e v2 ⟨A2, n2, c2, rfl, hl2, ho2, hb2⟩
    have hn2 : n2 ≤ 12 := by have := ko_len (nb key); omega
    have hI2 := ho2.ints
    have hB2 := bthen hb1 hb2
    have Hl2 := Lib.hid hl2
    clear hl2 ho2
    have hsame := same_refl (ko (nb key))
    cases hk : kval (nb key)
    · have hko : ko (nb key) = [] := by rw [ko, hk]; rfl
      obtain rfl : n2 = 0 := by have := Hl2.out; rw [hko] at this; exact this.symm
      clear hko
      cases hv : wv (nb key)
      · go_wp2_with fail
        refine (impl_WordValid _ _ hkm).mono ?_
        rintro e v3 ⟨rfl, rfl⟩
        go_wp2_with fail
        refine (spec_KeyOrder key _ hkm).mono ?_
        rintro e v4 ⟨A4, n4, c4, rfl, hl4, ho4, hb4⟩
        obtain rfl : n4 = 0 := by have := Hl2.out; omega
        have hB4 := bthen hB2 hb4
        clear hl4
        go_wp2_with fail
        refine (laws_rcInts _ _ _ _ _ _ _ _ _ (hI2.next hb4) ho4.ints Hl2.out Hl2.out (by omega) (by omega)).mono ?_
        rintro e v5 ⟨rfl, hb5⟩
        have hB5 := bthen hB4 hb5
        clear ho4
        go_wp2_with fail
        refine wp_loop_rounds 1 ?_
        rw [rounds_succ]
        go_wp2_with fail
        go_ret
        exact ⟨rfl, hB5⟩
      · have hcase : key.size = 0 ∨ (1 ≤ key.size ∧ 12 < key.size) := by
          rcases Nat.eq_zero_or_pos key.size with h0 | h0
          · exact .inl h0
          · refine .inr ⟨h0, ?_⟩
            rcases Nat.lt_or_ge 12 key.size with h1 | h1
            · exact h1
            · rw [kval_of (by rw [nb_length]; exact h0) (by rw [nb_length]; exact h1) hv] at hk; cases hk
        rcases hcase with h0 | ⟨h0, h1⟩
        · go_wp2_with fail
          refine (impl_WordValid _ _ hkm).mono ?_
          rintro e v3 ⟨rfl, rfl⟩
          go_wp2_with fail
          refine (spec_KeyOrder key _ hkm).mono ?_
          rintro e v4 ⟨A4, n4, c4, rfl, hl4, ho4, hb4⟩
          obtain rfl : n4 = 0 := by have := Hl2.out; omega
          have hB4 := bthen hB2 hb4
          clear hl4
          go_wp2_with fail
          refine (laws_rcInts _ _ _ _ _ _ _ _ _ (hI2.next hb4) ho4.ints Hl2.out Hl2.out (by omega) (by omega)).mono ?_
          rintro e v5 ⟨rfl, hb5⟩
          have hB5 := bthen hB4 hb5
          clear ho4
          go_wp2_with fail
          refine wp_loop_rounds 1 ?_
          rw [rounds_succ]
          go_wp2_with fail
          go_ret
          exact ⟨rfl, hB5⟩
        · have h12 : ¬ (key.size : Int) ≤ 12 := by omega
          go_wp2_with fail
          refine (impl_WordValid _ _ hkm).mono ?_
          rintro e v3 ⟨rfl, rfl⟩
          go_wp2_with fail
          refine (spec_KeyOrder key _ hkm).mono ?_
          rintro e v4 ⟨A4, n4, c4, rfl, hl4, ho4, hb4⟩
          obtain rfl : n4 = 0 := by have := Hl2.out; omega
          have hB4 := bthen hB2 hb4
          clear hl4
          go_wp2_with fail
          refine (laws_rcInts _ _ _ _ _ _ _ _ _ (hI2.next hb4) ho4.ints Hl2.out Hl2.out (by omega) (by omega)).mono ?_
          rintro e v5 ⟨rfl, hb5⟩
          have hB5 := bthen hB4 hb5
          clear ho4
          go_wp2_with fail
          refine wp_loop_rounds 1 ?_
          rw [rounds_succ]
          go_wp2_with fail
          go_ret
          exact ⟨rfl, hB5⟩
    · obtain ⟨k1, k2, hv⟩ := kval_yes hk
      rw [nb_length] at k1 k2
      have hko : ko (nb key) = koL (nb key) := by rw [ko, hk]; rfl
      have hkl := (koL_len hv).trans (nb_length key)
      obtain rfl : n2 = key.size := by have := Hl2.out; rw [hko] at this; omega
      have Hkp := Lib.hid (koL_plv hk)
      have Hks := Lib.hid (koL_sorted (nb key))
      have Hkl := Lib.hid hkl
      have hplv : plv (ko (nb key)) = true := by rw [hko]; exact koL_plv hk
      have Hko := Lib.hid hko
      have h0i : (0 : Int) < (key.size : Int) := by omega
      have h0n : 0 < key.size := k1
      have h0d : decide (0 < key.size) = true := decide_eq_true k1
      have h1i : (1 : Int) ≤ (key.size : Int) := by omega
      have h12 : (key.size : Int) ≤ 12 := by omega
      have heq : ((key.size : Int) == (key.size : Int)) = true := by simp
      clear hkl hko hk
      go_wp2_with fail
      refine (impl_WordValid _ _ hkm).mono ?_
      rintro e v3 ⟨rfl, rfl⟩
      go_wp2_with fail
      refine (spec_KeyOrder key _ hkm).mono ?_
      rintro e v4 ⟨A4, n4, c4, rfl, hl4, ho4, hb4⟩
      obtain rfl : n4 = key.size := by have := Hl2.out; omega
      have hB4 := bthen hB2 hb4
      clear hl4
      go_wp2_with fail
      refine (laws_rcInts _ _ _ _ _ _ _ _ _ (hI2.next hb4) ho4.ints Hl2.out Hl2.out (by omega) (by omega)).mono ?_
      rintro e v5 ⟨rfl, hb5⟩
      have hB5 := bthen hB4 hb5
      have hI5 := (hI2.next hb4).next hb5
      clear ho4 hI2
      go_wp2_with fail
      go_loopw [6] (fun i wr => ∃ (k : Nat), 1 ≤ k ∧ k ≤ key.size ∧ i = .int .i64 k ∧ Below v5.heap.size v5 wr) (fun i _ => key.size - (intOf i).toNat)
      case atStart => exact ⟨1, Nat.le_refl _, k1, by go_num, Below.refl _ _⟩
      case round =>
        obtain ⟨k, hk1, hk2, rfl, hbe⟩ := hrel
        have hB6 := bthen hB5 hbe
        have hI6 := hI5.next hbe
        by_cases hlt : k < key.size
        · obtain ⟨j, rfl⟩ : ∃ j, k = j + 1 := ⟨k - 1, by omega⟩
          obtain ⟨p, hp, hpl⟩ := plv_nat Hkp.out (by rw [Hkl.out]; omega : j < (koL (nb key)).length)
          obtain ⟨q, hq, hql⟩ := plv_nat Hkp.out (by rw [Hkl.out]; omega : j + 1 < (koL (nb key)).length)
          rw [Hkl.out] at hpl hql
          have hs : slt (nb key) (p : Int) (q : Int) := by
            have := List.pairwise_iff_getElem.1 Hks.out j (j + 1) (by rw [Hkl.out]; omega) (by rw [Hkl.out]; omega) (by omega)
            rwa [(List.getElem?_eq_some_iff.1 hp).2, (List.getElem?_eq_some_iff.1 hq).2] at this
          have e1 := kv_at hpl
          have e2 := kv_at hql
          rw [← Hko.out] at hp hq
          obtain ⟨bb, off, rfl, hbl, hc1⟩ := hI6.at_ hp
          have hc2 : wr.cell? ⟨bb, off + (j + 1), none⟩ = some (.int .i64 (q : Int)) := by
            obtain ⟨bb', off', he, _, hc2⟩ := hI6.at_ hq
            injection he with he
            injection he with h1 h2
            subst h1; subst h2
            exact hc2
          have hI5' := Lib.hid hI5
          clear hp hq hI6 hI5
          unfold slt at hs
          obtain ⟨x, hx⟩ : ∃ x : Int, x = ((kv (nb key) (p : Int) : Nat) : Int) := ⟨_, rfl⟩
          obtain ⟨y, hy⟩ : ∃ y : Int, y = ((kv (nb key) (q : Int) : Nat) : Int) := ⟨_, rfl⟩
          have f1 : ((key[p].toNat : Nat) : Int) = x := by rw [e1, hx]
          have f2 : ((key[q].toNat : Nat) : Int) = y := by rw [e2, hy]
          have hs' : x < y ∨ (x = y ∧ (p : Int) < (q : Int)) := by omega
          clear hs hx hy e1 e2
          rcases hs' with hs | ⟨hs, hpq⟩
          · have g1 : decide (y < x) = false := decide_eq_false (by omega)
            have g2 : (x == y) = false := by rw [beq_eq_false_iff_ne]; omega
            go_wp2_with fail
            go_quiet (fail)
            go_wp2_with fail
            go_roundw
            case rel => exact ⟨j + 1 + 1, by omega, by omega, by go_num, bel_drewN hbe _⟩
            case measure => simp [intOf]; omega
          · have g1 : decide (y < x) = false := decide_eq_false (by omega)
            have g2 : (x == y) = true := by rw [beq_iff_eq]; omega
            have g3' : decide ((q : Int) ≤ (p : Int)) = false := decide_eq_false (by omega)
            go_wp2_with fail
            go_quiet (fail)
            go_wp2_with fail
            go_roundw
            case rel => exact ⟨j + 1 + 1, by omega, by omega, by go_num, bel_drewN hbe _⟩
            case measure => simp [intOf]; omega
        · go_wp2_with fail
          refine (impl_PlacesValid _ _ _ _ _ hI6 Hl2.out (by omega)).mono ?_
          rintro e v7 ⟨rfl, hb7⟩
          go_wp2_with fail
          go_ret
          exact ⟨rfl, bthen hB6 hb7⟩
end Go.Proofs.Ytggjlagfjggmiaa
