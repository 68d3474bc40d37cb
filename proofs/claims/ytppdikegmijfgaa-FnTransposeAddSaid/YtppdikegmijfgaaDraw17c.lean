/- Keys and numbers that are drawn. No condition. -/
import Derived.Test.YtppdikegmijfgaaDraw18
import Derived.Test.YtppdikegmijfgaaInts
set_option linter.unusedVariables false
namespace Go.Proofs.Ytppdikegmijfgaa
open Go.RowKit

def S13 : ByteArray := ⟨#[97, 98, 99, 100, 101, 102, 103, 104, 105, 106, 97, 98, 99]⟩
/-- An integer is drawn. -/
def DrN (w : World) (g p q : Nat) (e : Ending) (w' : World) : Prop := ∃ (z : Int) (p' : Nat), e = .returned (.int .i64 z) ∧ p' ≤ p + q ∧ Rd w' g p' ∧ w.grownBy w' (some g)
theorem below_drawn {w w0 w1 : World} {g : Nat} (hb : Below w.heap.size w w0) (hg : w0.grownBy w1 (some g)) (h : w.heap.size ≤ g) : Below w.heap.size w w1 :=
  hb.grown hg hb.size (fun k hk => by injection hk with hk; omega)
theorem spec_l1SomeI (g p L : Nat) (i : Int) (w : World) (hi : i = (L : Int)) (h : Rd w g p) (hp : p ≤ 100000) (hL : L ≤ 300) :
    Calls Try.prog 34 #[.pointer (some ⟨g, 0, none⟩), .int .i64 i] w fun e w' => ∃ r, e = .returned (.string r) ∧ r.size = L ∧ Rd w' g (p + L) ∧ w.grownBy w' (some g) := by
  subst hi; exact spec_l1Some g p L w h hp hL
set_option maxHeartbeats 1000000 in
theorem spec_l17Some (g p : Nat) (w : World) (h : Rd w g p) (hp : p ≤ 80000) :
    Calls Try.prog 15 #[.pointer (some ⟨g, 0, none⟩)] w (DrS w g p 20 13) := by
  go_enter Try.func15, Try.ntmps15
  go_wp2_with fail
  refine (spec_pick g p _ w h (by omega) (by omega) (by omega)).mono ?_
  rintro e v1 ⟨m, rfl, hm, hr1, hg1⟩
  clear hm
  have hgl := hr1.lt
  by_cases h0 : m = 0
  · subst h0
    go_wp2_with fail
    refine (spec_of g (p + 1) 3 3 _ [ByteArray.empty, S1 107, S13] _ (hr1.alloc _) (by omega) (by omega) (by omega) ⟨v1.heap.size, 0, none⟩ rfl rfl (by show v1.heap.size ≠ g; omega) rfl
      (fun j z hz => cells_lit v1 [.string ByteArray.empty, .string (S1 107), .string S13] 9 j _ (by have := congrArg (Option.map Value.string) hz; simpa [← List.getElem?_map] using this))).mono ?_
    rintro e v2 ⟨z, rfl, hz, hr2, hg2⟩
    have hz1 : z.size ≤ 13 := by
      simp at hz
      rcases hz with rfl | rfl | rfl
      · exact Nat.zero_le _
      · show 1 ≤ 13; omega
      · exact Nat.le_refl _
    clear hz
    go_wp2_with fail
    go_ret
    exact ⟨_, _, rfl, hz1, by omega, hr2, gthen (gthen hg1 (galloc _ _ _)) hg2⟩
  · have b0 : ((m : Int) == 0) = false := by rw [beq_eq_false_iff_ne]; omega
    by_cases h1 : m = 1
    · subst h1
      clear h0 b0
      go_wp2_with fail
      refine (spec_l1SomeI g (p + 1) 12 _ v1 rfl hr1 (by omega) (by omega)).mono ?_
      rintro e v2 ⟨r, rfl, hrs, hr2, hg2⟩
      have Hrs := Lib.hid hrs
      clear hrs
      go_wp2_with fail
      go_ret
      exact ⟨r, _, rfl, by have := Hrs.out; omega, by omega, hr2, gthen hg1 hg2⟩
    · have b1 : ((m : Int) == 1) = false := by rw [beq_eq_false_iff_ne]; omega
      clear h0 h1
      go_wp2_with fail
      refine (spec_pick g (p + 1) _ v1 hr1 (by omega) (by omega) (by omega)).mono ?_
      rintro e v2 ⟨q, rfl, hq, hr2, hg2⟩
      have hq' : q < 6 := by omega
      clear hq
      go_wp2_with fail
      refine (spec_l1SomeI g (p + 1 + 1) (1 + q) _ v2 (by omega) hr2 (by omega) (by omega)).mono ?_
      rintro e v3 ⟨r, rfl, hrs, hr3, hg3⟩
      have Hrs := Lib.hid hrs
      clear hrs
      go_wp2_with fail
      go_ret
      exact ⟨r, _, rfl, by have := Hrs.out; omega, by omega, hr3, gthen (gthen hg1 hg2) hg3⟩
/-- Two strings are drawn. -/
def RetAnyS2 (w : World) (m : Nat) (e : Ending) (w' : World) : Prop := ∃ r s, e = .returned (.tuple #[.string r, .string s]) ∧ r.size ≤ m ∧ s.size ≤ m ∧ Below w.heap.size w w'
theorem spec_DrawTranspose (a : Option Addr) (len cap : Nat) (zs : List Int) (w : World) (h : IsRow .u8 w a len cap zs) :
    Calls Try.prog 4 #[.slice a len cap] w (RetAnyS2 w 1000) := by
  go_enter Try.func4, Try.ntmps4
  go_wp2_with fail
  refine (spec_l21Open _ _ _ _ _ h).mono ?_
  rintro e v0 ⟨rfl, hr0, hb0⟩
  go_wp2_with fail
  refine (spec_l1Word _ 0 24 _ hr0 (by omega) (by omega)).mono ?_
  rintro e v1 ⟨r1, p1, rfl, hs1, hp1, hr1, hg1⟩
  go_wp2_with fail
  refine (spec_l1Bad _ _ _ _ hr1 (by omega) (by omega)).mono ?_
  rintro e v2 ⟨r2, p2, rfl, hs2, hp2, hr2, hg2⟩
  go_wp2_with fail
  refine (spec_l17Some _ p2 _ hr2 (by omega)).mono ?_
  rintro e v3 ⟨r3, p3, rfl, hs3, hp3, hr3, hg3⟩
  go_wp2_with fail
  go_ret2
  exact ⟨r2, r3, rfl, by omega, by omega, below_drawn hb0 (gthen (gthen hg1 hg2) hg3) (Nat.le_refl _)⟩
end Go.Proofs.Ytppdikegmijfgaa
