/- Keys and numbers that are drawn. No condition. -/
import Derived.Test.YtloihiodddgihaaDraw18
import Derived.Test.YtloihiodddgihaaInts
set_option linter.unusedVariables false
namespace Go.Proofs.Ytloihiodddgihaa
open Go.RowKit

def S13 : ByteArray := ⟨#[97, 98, 99, 100, 101, 102, 103, 104, 105, 106, 97, 98, 99]⟩
/-- An integer is drawn. -/
def DrN (w : World) (g p q : Nat) (e : Ending) (w' : World) : Prop := ∃ (z : Int) (p' : Nat), e = .returned (.int .i64 z) ∧ p' ≤ p + q ∧ Rd w' g p' ∧ w.grownBy w' (some g)
theorem below_drawn {w w0 w1 : World} {g : Nat} (hb : Below w.heap.size w w0) (hg : w0.grownBy w1 (some g)) (h : w.heap.size ≤ g) : Below w.heap.size w w1 :=
  hb.grown hg hb.size (fun k hk => by injection hk with hk; omega)
set_option maxHeartbeats 1000000 in
theorem spec_l17Number (g p : Nat) (w : World) (h : Rd w g p) (hp : p ≤ 80000) :
    Calls Try.prog 25 #[.pointer (some ⟨g, 0, none⟩)] w (DrN w g p 20) := by
  go_enter Try.func25, Try.ntmps25
  go_wp2_with fail
  refine (spec_pick g p _ w h (by omega) (by omega) (by omega)).mono ?_
  rintro e v1 ⟨m, rfl, hm, hr1, hg1⟩
  clear hm
  have hgl := hr1.lt
  by_cases h0 : m = 0
  · subst h0
    go_wp2_with fail
    refine (spec_num g (p + 1) 4 4 _ [-1, 200, 201, 9223372036854775807] _ (hr1.alloc _) (by omega) (by omega) (by omega) ⟨v1.heap.size, 0, none⟩ rfl rfl (by show v1.heap.size ≠ g; omega) rfl
      (fun j z hz => cells_lit v1 [.int .i64 (-1), .int .i64 200, .int .i64 201, .int .i64 9223372036854775807] 3 j _ (by have := congrArg (Option.map (Value.int .i64)) hz; simpa [← List.getElem?_map] using this))).mono ?_
    rintro e v2 ⟨z, rfl, hz, hr2, hg2⟩
    clear hz
    go_wp2_with fail
    go_ret
    exact ⟨z, _, rfl, by omega, hr2, gthen (gthen hg1 (galloc _ _ _)) hg2⟩
  · have b0 : ((m : Int) == 0) = false := by rw [beq_eq_false_iff_ne]; omega
    clear h0
    go_wp2_with fail
    refine (spec_pick g (p + 1) _ v1 hr1 (by omega) (by omega) (by omega)).mono ?_
    rintro e v2 ⟨q, rfl, hq, hr2, hg2⟩
    clear hq
    go_wp2_with fail
    go_ret
    exact ⟨_, _, rfl, by omega, hr2, gthen hg1 hg2⟩
set_option maxHeartbeats 1000000 in
theorem spec_l14Number (g p : Nat) (w : World) (h : Rd w g p) (hp : p ≤ 80000) :
    Calls Try.prog 24 #[.pointer (some ⟨g, 0, none⟩)] w (DrN w g p 20) := by
  go_enter Try.func24, Try.ntmps24
  go_wp2_with fail
  refine (spec_pick g p _ w h (by omega) (by omega) (by omega)).mono ?_
  rintro e v1 ⟨m, rfl, hm, hr1, hg1⟩
  clear hm
  have hgl := hr1.lt
  by_cases h0 : m = 0
  · subst h0
    go_wp2_with fail
    refine (spec_num g (p + 1) 4 4 _ [0, 13, -1, 9223372036854775807] _ (hr1.alloc _) (by omega) (by omega) (by omega) ⟨v1.heap.size, 0, none⟩ rfl rfl (by show v1.heap.size ≠ g; omega) rfl
      (fun j z hz => cells_lit v1 [.int .i64 0, .int .i64 13, .int .i64 (-1), .int .i64 9223372036854775807] 3 j _ (by have := congrArg (Option.map (Value.int .i64)) hz; simpa [← List.getElem?_map] using this))).mono ?_
    rintro e v2 ⟨z, rfl, hz, hr2, hg2⟩
    clear hz
    go_wp2_with fail
    go_ret
    exact ⟨z, _, rfl, by omega, hr2, gthen (gthen hg1 (galloc _ _ _)) hg2⟩
  · have b0 : ((m : Int) == 0) = false := by rw [beq_eq_false_iff_ne]; omega
    clear h0
    go_wp2_with fail
    refine (spec_pick g (p + 1) _ v1 hr1 (by omega) (by omega) (by omega)).mono ?_
    rintro e v2 ⟨q, rfl, hq, hr2, hg2⟩
    have hq' : q < 12 := by omega
    clear hq
    go_wp2_with fail
    go_ret
    exact ⟨_, _, rfl, by omega, hr2, gthen hg1 hg2⟩
theorem spec_DrawRailPlaces (a : Option Addr) (len cap : Nat) (zs : List Int) (w : World) (h : IsRow .u8 w a len cap zs) :
    Calls Try.prog 12 #[.slice a len cap] w fun e w' => ∃ (y z : Int), e = .returned (.tuple #[.int .i64 y, .int .i64 z]) ∧ Below w.heap.size w w' := by
  go_enter Try.func12, Try.ntmps12
  go_wp2_with fail
  refine (spec_l21Open _ _ _ _ _ h).mono ?_
  rintro e v0 ⟨rfl, hr0, hb0⟩
  go_wp2_with fail
  refine (spec_l14Number _ 0 _ hr0 (by omega)).mono ?_
  rintro e v1 ⟨z1, p1, rfl, hp1, hr1, hg1⟩
  go_wp2_with fail
  refine (spec_l17Number _ p1 _ hr1 (by omega)).mono ?_
  rintro e v2 ⟨z2, p2, rfl, hp2, hr2, hg2⟩
  go_wp2_with fail
  go_ret2
  exact ⟨z1, z2, rfl, below_drawn hb0 (gthen hg1 hg2) (Nat.le_refl _)⟩
/-- Two strings are drawn. -/
def RetAnyS2 (w : World) (m : Nat) (e : Ending) (w' : World) : Prop := ∃ r s, e = .returned (.tuple #[.string r, .string s]) ∧ r.size ≤ m ∧ s.size ≤ m ∧ Below w.heap.size w w'
end Go.Proofs.Ytloihiodddgihaa
