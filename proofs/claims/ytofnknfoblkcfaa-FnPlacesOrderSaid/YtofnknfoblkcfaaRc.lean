/- Two slices of integers are held against each other. No condition. -/
import Derived.Test.YtofnknfoblkcfaaInts
set_option linter.unusedVariables false
namespace Go.Proofs.Ytofnknfoblkcfaa
open Go.RowKit
theorem same_no {xs ys : List Int} {k : Nat} {x y : Int} (hx : xs[k]? = some x) (hy : ys[k]? = some y) (h : (x != y) = true) : Same xs ys = false := by
  unfold Same
  rw [decide_eq_false_iff_not]
  intro e
  subst e
  rw [hx] at hy
  injection hy with hy
  rw [bne_iff_ne] at h
  exact h hy
theorem same_len {xs ys : List Int} (h : xs.length ≠ ys.length) : Same xs ys = false := by
  unfold Same
  rw [decide_eq_false_iff_not]
  intro e
  exact h (by rw [e])
theorem same_yes {xs ys : List Int} {n : Nat} (hx : xs.length = n) (hy : ys.length = n) (h : ∀ j, j < n → xs[j]? = ys[j]?) : Same xs ys = true := by
  unfold Same
  rw [decide_eq_true_eq]
  apply List.ext_getElem?
  intro j
  rcases Nat.lt_or_ge j n with h1 | h1
  · exact h j h1
  · rw [List.getElem?_eq_none (by omega), List.getElem?_eq_none (by omega)]
theorem same_refl (xs : List Int) : Same xs xs = true := by simp [Same]

set_option maxHeartbeats 1000000 in
theorem laws_rcInts (A B : Option Addr) (n m c d : Nat) (xs ys : List Int) (w : World) (h1 : Ints w A xs) (h2 : Ints w B ys) (hn : xs.length = n) (hm : ys.length = m) (hb : n ≤ 9223372036854775807) (hbm : m ≤ 9223372036854775807) :
    Calls Try.prog 15 #[.slice A n c, .slice B m d] w fun e w' => e = .returned (.bool (Same xs ys)) ∧ Below w.heap.size w w' := by
  have Hn := Lib.hid hn
  have Hm := Lib.hid hm
  clear hn hm
  by_cases hnm : n = m
  · subst hnm
    go_enter Try.func15, Try.ntmps15
    go_wp2
    go_loopw [5] (fun i wr => ∃ k : Nat, k ≤ n ∧ i = .int .i64 k ∧ (∀ j, j < k → xs[j]? = ys[j]?) ∧ Below w.heap.size w wr) (fun i _ => n - (intOf i).toNat)
    case atStart => exact ⟨0, Nat.zero_le _, rfl, fun j hj => absurd hj (by omega), Below.refl _ _⟩
    case round =>
      obtain ⟨k, hk, rfl, hs, hbe⟩ := hrel
      have Hs := Lib.hid hs
      clear hs
      by_cases hlt : k < n
      · obtain ⟨x, hx⟩ := get_some xs k (by rw [Hn.out]; exact hlt)
        obtain ⟨y, hy⟩ := get_some ys k (by rw [Hm.out]; exact hlt)
        obtain ⟨b, off, rfl, hbl, hc⟩ := (h1.next hbe).at_ hx
        obtain ⟨b2, off2, rfl, hbl2, hc2⟩ := (h2.next hbe).at_ hy
        have Hx := Lib.hid hx
        have Hy := Lib.hid hy
        have H1 := Lib.hid h1
        have H2 := Lib.hid h2
        clear hx hy h1 h2
        cases hne : (x != y)
        · go_wp2_with fail
          go_quiet (fail)
          go_wp2
          go_roundw
          case rel =>
            refine ⟨k + 1, by omega, by go_num, fun j hj => ?_, bel_drewN hbe _⟩
            rcases Nat.lt_or_ge j k with h3 | h3
            · exact Hs.out j h3
            · obtain rfl : j = k := by omega
              rw [Hx.out, Hy.out]
              rw [bne_eq_false_iff_eq] at hne
              rw [hne]
          case measure => simp [intOf]; omega
        · go_wp2_with fail
          go_quiet (fail)
          go_wp2
          go_ret
          exact ⟨ret_bool (by rw [same_no Hx.out Hy.out hne]), bel_drewN hbe _⟩
      · go_wp2
        go_ret
        have hkn : k = n := by omega
        exact ⟨ret_bool (by rw [same_yes Hn.out Hm.out (by rw [← hkn]; exact Hs.out)]), hbe⟩
  · have hne : ((n : Int) != (m : Int)) = true := by rw [bne_iff_ne]; omega
    have Hnm := Lib.hid hnm
    clear hnm
    go_enter Try.func15, Try.ntmps15
    go_wp2
    go_ret
    exact ⟨ret_bool (by rw [same_len (by rw [Hn.out, Hm.out]; exact Hnm.out)]), Below.refl _ _⟩
end Go.Proofs.Ytofnknfoblkcfaa
