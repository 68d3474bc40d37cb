/- An order of places that is drawn: some integers. No condition. -/
import Derived.Test.YtofnknfoblkcfaaDraw17
import Derived.Test.YtofnknfoblkcfaaCol
set_option linter.unusedVariables false
namespace Go.Proofs.Ytofnknfoblkcfaa
open Go.RowKit

theorem spec_l1SomeJ (g p L : Nat) (i : Int) (w : World) (hi : i = (L : Int)) (h : Rd w g p) (hp : p ≤ 100000) (hL : L ≤ 300) :
    Calls Try.prog 24 #[.pointer (some ⟨g, 0, none⟩), .int .i64 i] w fun e w' => ∃ r, e = .returned (.string r) ∧ r.size = L ∧ Rd w' g (p + L) ∧ w.grownBy w' (some g) := by
  subst hi; exact spec_l1Some g p L w h hp hL
set_option maxHeartbeats 1000000 in
theorem spec_DrawPlacesOrder (a : Option Addr) (len cap : Nat) (zs : List Int) (w : World) (h : IsRow .u8 w a len cap zs) :
    Calls Try.prog 10 #[.slice a len cap] w (RetAnyI w 300) := by
  go_enter Try.func10, Try.ntmps10
  go_wp2_with fail
  refine (spec_l21Open _ _ _ _ _ h).mono ?_
  rintro e v0 ⟨rfl, hr0, hb0⟩
  have hg0 := hr0.lt
  go_wp2_with fail
  refine (spec_pick _ _ _ _ hr0 (by omega) (by omega) (by omega)).mono ?_
  rintro e v1 ⟨m, rfl, hm, hr1, hg1⟩
  clear hm
  by_cases h0 : m = 0
  · subst h0
    go_wp2_with fail
    refine (spec_pick _ _ _ _ hr1 (by omega) (by omega) (by omega)).mono ?_
    rintro e v2 ⟨q, rfl, hq, hr2, hg2⟩
    have hq' : q < 5 := by omega
    clear hq
    go_wp2_with fail
    refine (spec_l1SomeJ _ _ (1 + q) _ _ (by omega) hr2 (by omega) (by omega)).mono ?_
    rintro e v3 ⟨r, rfl, hrs, hr3, hg3⟩
    have hrm : r.size ≤ maxLen := by unfold maxLen; omega
    clear hrs
    go_wp2_with fail
    refine (spec_pick _ _ _ _ hr3 (by omega) (by omega) (by omega)).mono ?_
    rintro e v4 ⟨t, rfl, ht, hr4, hg4⟩
    clear ht
    have hb4 := hb0.grown (gthen (gthen (gthen hg1 hg2) hg3) hg4) hb0.size (fun k hk => by injection hk with hk; omega)
    go_wp2_with fail
    refine (spec_ColumnPlaces r _ _ hrm).mono ?_
    rintro e v5 ⟨A5, n5, c5, rfl, hl5, ho5, hb5⟩
    have hn5 : n5 ≤ 300 := by have := cp_len (nb r) (t : Int); omega
    have Hl5 := Lib.hid hl5
    have Ho5 := Lib.hid ho5
    clear hl5 ho5
    go_wp2_with fail
    go_ret
    exact ⟨A5, n5, c5, _, rfl, Hl5.out, hn5, Ho5.out.less hb4.size, bthen hb4 hb5⟩
  · have b0 : ((m : Int) == 0) = false := by rw [beq_eq_false_iff_ne]; omega
    clear h0
    go_wp2_with fail
    refine (spec_pick _ _ _ _ hr1 (by omega) (by omega) (by omega)).mono ?_
    rintro e v2 ⟨k, rfl, hk, hr2, hg2⟩
    have hk' : k ≤ 14 := by omega
    clear hk
    go_wp2_with fail
    refine (spec_l17Places _ _ k _ hr2 (by omega) (by omega)).mono ?_
    rintro e v3 ⟨v, p3, zs3, rfl, hown3, hp3, hr3, hg3⟩
    obtain ⟨A3, c3, rfl⟩ := row_slice hown3
    have Hown3 := Lib.hid hown3
    clear hown3
    have hs1 := hg1.size
    have hs2 := hg2.size
    have hs3 := hg3.size
    go_wp2_with fail
    refine (spec_l17Bad v2.heap.size _ p3 _ _ _ _ _ hr3 (by omega) (by omega) Hown3.out (by omega) hg3.size).mono ?_
    rintro e v4 ⟨A4, n4, c4, p4, zs4, rfl, hown4, hn4, hp4, hr4, hk4⟩
    have Hown4 := Lib.hid (Own.of_row hown4)
    clear hown4
    go_wp2_with fail
    go_ret
    have hsz : w.heap.size ≤ v2.heap.size := by have := hb0.size; omega
    refine ⟨_, _, _, zs4, rfl, Hown4.out.1, by omega, Hown4.out.2.less hsz, ?_⟩
    have hb3 := hb0.grown (gthen (gthen hg1 hg2) hg3) hb0.size (fun k hk => by injection hk with hk; omega)
    exact hb3.trans (hk4.below (Nat.le_refl _) hsz)
end Go.Proofs.Ytofnknfoblkcfaa
