/- Tapes that are drawn. No condition. -/
import Derived.Test.YtibjiadgmlpceaaDraw18
set_option linter.unusedVariables false
namespace Go.Proofs.Ytibjiadgmlpceaa
open Go.RowKit

def RetAnyT2 (w : World) (m : Nat) (e : Ending) (w' : World) : Prop := ∃ r s, e = .returned (.tuple #[.string r, .string s]) ∧ r.size ≤ m ∧ s.size ≤ m ∧ Below w.heap.size w w'
set_option maxHeartbeats 1000000 in
theorem spec_l16Tape (g p L : Nat) (w : World) (h : Rd w g p) (hp : p ≤ 100000) (hL : L ≤ 300) :
    Calls Try.prog 33 #[.pointer (some ⟨g, 0, none⟩), .int .i64 (L : Int)] w fun e w' => ∃ r, e = .returned (.string r) ∧ r.size = L ∧ Rd w' g (p + L) ∧ w.grownBy w' (some g) := by
  have H := Lib.hid h
  clear h
  go_enter Try.func33, Try.ntmps33
  go_wp2
  go_loopw [5, 6] (fun o i wr => ∃ (k : Nat) (s : ByteArray), k ≤ L ∧ i = .int .i64 k ∧ o = .string s ∧ s.size = k ∧ Rd wr g (p + k) ∧ w.grownBy wr (some g)) (fun _ i _ => L - (intOf i).toNat)
  case atStart => exact ⟨0, ByteArray.empty, Nat.zero_le _, rfl, rfl, rfl, H.out, World.grownBy.refl _ _⟩
  case round =>
    obtain ⟨k, s, hk, rfl, rfl, hs, hr, hg⟩ := hrel
    have hss : s.size ≤ 300 := by omega
    have Hs := Lib.hid hs
    clear hs
    by_cases hlt : k < L
    · go_wp2_with fail
      refine (spec_pick g (p + k) 8 wr hr (by omega) (by omega) (by omega)).mono ?_
      rintro e v1 ⟨m, rfl, hm, hr1, hg1⟩
      go_wp2_with fail
      refine (spec_l1Letter _ _).mono ?_
      rintro e v2 ⟨r, rfl, hr2, hb2⟩
      have hrs : r.size = 1 := by rw [← nb_length, hr2]; rfl
      have hrs' : r.size ≤ 1 := by omega
      have Hrs := Lib.hid hrs
      clear hr2 hrs hm
      go_wp2
      go_roundw
      case rel => exact ⟨k + 1, _, by omega, by go_num, rfl, by rw [ByteArray.size_append, Hs.out, Hrs.out], hr1.next hb2, gthen (gthen hg hg1) (gbel hb2 _)⟩
      case measure => simp [intOf]; omega
    · go_wp2
      go_ret
      have hkL : k = L := by omega
      exact ⟨s, rfl, by rw [Hs.out, hkL], by rw [← hkL]; exact hr, hg⟩
set_option maxHeartbeats 1000000 in
theorem spec_l16Bad (g p : Nat) (a : ByteArray) (w : World) (h : Rd w g p) (hp : p ≤ 80000) (ha : a.size ≤ 1000) :
    Calls Try.prog 32 #[.pointer (some ⟨g, 0, none⟩), .string a] w (DrS w g p 10 (a.size + 300)) := by
  go_enter Try.func32, Try.ntmps32
  go_wp2_with fail
  refine (spec_pick g p _ w h (by omega) (by omega) (by omega)).mono ?_
  rintro e v1 ⟨m, rfl, hm, hr1, hg1⟩
  clear hm
  have hgl := hr1.lt
  by_cases h0 : m = 0
  · subst h0
    go_wp2_with fail
    refine (spec_of g (p + 1) 4 4 _ [S1 105, S1 106, S1 107, S1 32] _ (hr1.alloc _) (by omega) (by omega) (by omega) ⟨v1.heap.size, 0, none⟩ rfl rfl (by show v1.heap.size ≠ g; omega) rfl
      (fun j z hz => cells_lit v1 [.string (S1 105), .string (S1 106), .string (S1 107), .string (S1 32)] 9 j _ (by have := congrArg (Option.map Value.string) hz; simpa [← List.getElem?_map] using this))).mono ?_
    rintro e v2 ⟨z, rfl, hz, hr2, hg2⟩
    have hz1 : z.size ≤ 1 := by simp at hz; rcases hz with rfl | rfl | rfl | rfl <;> exact Nat.le_refl _
    clear hz
    go_wp2_with fail
    go_ret
    exact ⟨_, _, rfl, by rw [ByteArray.size_append]; omega, by omega, hr2, gthen (gthen hg1 (galloc _ _ _)) hg2⟩
  · have b0 : ((m : Int) == 0) = false := by rw [beq_eq_false_iff_ne]; omega
    by_cases h2 : m = 1
    · subst h2
      clear h0 b0
      go_wp2_with fail
      refine (spec_num g (p + 1) 2 2 _ [200, 201] _ (hr1.alloc _) (by omega) (by omega) (by omega) ⟨v1.heap.size, 0, none⟩ rfl rfl (by show v1.heap.size ≠ g; omega) rfl
        (fun j z hz => cells_lit v1 [.int .i64 200, .int .i64 201] 3 j _ (by have := congrArg (Option.map (Value.int .i64)) hz; simpa [← List.getElem?_map] using this))).mono ?_
      rintro e v2 ⟨z, rfl, hz, hr2, hg2⟩
      obtain ⟨z, rfl, hz1⟩ : ∃ k : Nat, z = (k : Int) ∧ k ≤ 201 := by
        simp at hz
        rcases hz with rfl | rfl
        · exact ⟨200, rfl, by omega⟩
        · exact ⟨201, rfl, by omega⟩
      clear hz
      go_wp2_with fail
      refine (spec_l21Many (S1 104) z v2 (by rw [S1_size]; omega) (by rw [S1_size]; omega) (by omega)).mono ?_
      rintro e v3 ⟨r, rfl, hrs, rfl⟩
      rw [S1_size] at hrs
      have hrs' : r.size ≤ 201 := by omega
      clear hrs
      go_wp2_with fail
      go_ret
      exact ⟨_, _, rfl, by omega, by omega, hr2, gthen (gthen hg1 (galloc _ _ _)) hg2⟩
    · have b2 : ((m : Int) == 1) = false := by rw [beq_eq_false_iff_ne]; omega
      clear h0 h2
      go_wp2_with fail
      go_ret
      exact ⟨_, _, rfl, by omega, by omega, hr1, hg1⟩
end Go.Proofs.Ytibjiadgmlpceaa
