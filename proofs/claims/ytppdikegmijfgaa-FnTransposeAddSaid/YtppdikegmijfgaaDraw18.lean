/- Words with gaps, and pairs of words, that are drawn. No condition. -/
import Derived.Test.YtppdikegmijfgaaDraw1
import Derived.Deep.RegionWith
set_option linter.unusedVariables false
namespace Go.Proofs.Ytppdikegmijfgaa
open Go.RowKit

theorem DrS.more {w : World} {g p q m q' m' : Nat} {e : Ending} {w' : World} (h : DrS w g p q m e w') (hq : q ≤ q') (hm : m ≤ m') : DrS w g p q' m' e w' := by
  obtain ⟨r, p', he, h1, h2, h3⟩ := h
  exact ⟨r, p', he, by omega, by omega, h3⟩
def S1 (c : UInt8) : ByteArray := ⟨#[c]⟩
theorem S1_size (c : UInt8) : (S1 c).size = 1 := rfl

set_option maxHeartbeats 1000000 in
theorem spec_l1Bad (g p : Nat) (a : ByteArray) (w : World) (h : Rd w g p) (hp : p ≤ 80000) (ha : a.size ≤ 1000) :
    Calls Try.prog 13 #[.pointer (some ⟨g, 0, none⟩), .string a] w (DrS w g p 10 (a.size + 300)) := by
  go_enter Try.func13, Try.ntmps13
  go_wp2_with fail
  refine (spec_pick g p _ w h (by omega) (by omega) (by omega)).mono ?_
  rintro e v1 ⟨m, rfl, hm, hr1, hg1⟩
  clear hm
  have hgl := hr1.lt
  by_cases h0 : m = 0
  · subst h0
    go_wp2_with fail
    refine (spec_of g (p + 1) 4 4 _ [S1 107, S1 32, S1 65, S1 45] _ (hr1.alloc _) (by omega) (by omega) (by omega) ⟨v1.heap.size, 0, none⟩ rfl rfl (by show v1.heap.size ≠ g; omega) rfl
      (fun j z hz => cells_lit v1 [.string (S1 107), .string (S1 32), .string (S1 65), .string (S1 45)] 9 j _ (by have := congrArg (Option.map Value.string) hz; simpa [← List.getElem?_map] using this))).mono ?_
    rintro e v2 ⟨z, rfl, hz, hr2, hg2⟩
    have hz1 : z.size ≤ 1 := by simp at hz; rcases hz with rfl | rfl | rfl | rfl <;> exact Nat.le_refl _
    clear hz
    go_wp2_with fail
    go_ret
    exact ⟨_, _, rfl, by rw [ByteArray.size_append]; omega, by omega, hr2, gthen (gthen hg1 (galloc _ _ _)) hg2⟩
  · have b0 : ((m : Int) == 0) = false := by rw [beq_eq_false_iff_ne]; omega
    by_cases h1 : m = 1
    · subst h1
      clear h0 b0
      go_wp2_with fail
      refine (spec_of g (p + 1) 2 2 _ [S1 122, S1 48] _ (hr1.alloc _) (by omega) (by omega) (by omega) ⟨v1.heap.size, 0, none⟩ rfl rfl (by show v1.heap.size ≠ g; omega) rfl
        (fun j z hz => cells_lit v1 [.string (S1 122), .string (S1 48)] 9 j _ (by have := congrArg (Option.map Value.string) hz; simpa [← List.getElem?_map] using this))).mono ?_
      rintro e v2 ⟨z, rfl, hz, hr2, hg2⟩
      have hz1 : z.size ≤ 1 := by simp at hz; rcases hz with rfl | rfl <;> exact Nat.le_refl _
      clear hz
      go_wp2_with fail
      go_ret
      exact ⟨_, _, rfl, by rw [ByteArray.size_append]; omega, by omega, hr2, gthen (gthen hg1 (galloc _ _ _)) hg2⟩
    · have b1 : ((m : Int) == 1) = false := by rw [beq_eq_false_iff_ne]; omega
      by_cases h2 : m = 2
      · subst h2
        clear h0 h1 b0 b1
        go_wp2_with fail
        refine (spec_num g (p + 1) 3 3 _ [200, 201, 199] _ (hr1.alloc _) (by omega) (by omega) (by omega) ⟨v1.heap.size, 0, none⟩ rfl rfl (by show v1.heap.size ≠ g; omega) rfl
          (fun j z hz => cells_lit v1 [.int .i64 200, .int .i64 201, .int .i64 199] 3 j _ (by have := congrArg (Option.map (Value.int .i64)) hz; simpa [← List.getElem?_map] using this))).mono ?_
        rintro e v2 ⟨z, rfl, hz, hr2, hg2⟩
        obtain ⟨z, rfl, hz1⟩ : ∃ k : Nat, z = (k : Int) ∧ k ≤ 201 := by
          simp at hz
          rcases hz with rfl | rfl | rfl
          · exact ⟨200, rfl, by omega⟩
          · exact ⟨201, rfl, by omega⟩
          · exact ⟨199, rfl, by omega⟩
        clear hz
        go_wp2_with fail
        refine (spec_l21Many (S1 106) z v2 (by rw [S1_size]; omega) (by rw [S1_size]; omega) (by omega)).mono ?_
        rintro e v3 ⟨r, rfl, hrs, rfl⟩
        rw [S1_size] at hrs
        have hrs' : r.size ≤ 201 := by omega
        clear hrs
        go_wp2_with fail
        go_ret
        exact ⟨_, _, rfl, by omega, by omega, hr2, gthen (gthen hg1 (galloc _ _ _)) hg2⟩
      · have b2 : ((m : Int) == 2) = false := by rw [beq_eq_false_iff_ne]; omega
        clear h0 h1 h2
        go_wp2_with fail
        go_ret
        exact ⟨_, _, rfl, by omega, by omega, hr1, hg1⟩
end Go.Proofs.Ytppdikegmijfgaa
