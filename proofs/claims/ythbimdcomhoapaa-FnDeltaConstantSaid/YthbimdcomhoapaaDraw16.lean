/- Tapes that are drawn. No condition. -/
import Derived.Test.YthbimdcomhoapaaDraw18
set_option linter.unusedVariables false
namespace Go.Proofs.Ythbimdcomhoapaa
open Go.RowKit

def RetAnyT2 (w : World) (m : Nat) (e : Ending) (w' : World) : Prop := ∃ r s, e = .returned (.tuple #[.string r, .string s]) ∧ r.size ≤ m ∧ s.size ≤ m ∧ Below w.heap.size w w'
set_option maxHeartbeats 1000000 in
theorem spec_l16Tape (g p L : Nat) (w : World) (h : Rd w g p) (hp : p ≤ 100000) (hL : L ≤ 300) :
    Calls Try.prog 18 #[.pointer (some ⟨g, 0, none⟩), .int .i64 (L : Int)] w fun e w' => ∃ r, e = .returned (.string r) ∧ r.size = L ∧ Rd w' g (p + L) ∧ w.grownBy w' (some g) := by
  have H := Lib.hid h
  clear h
  go_enter Try.func18, Try.ntmps18
  go_wp2
  go_loopw [5, 6] (fun o i wr => ∃ (k : Nat) (s : ByteArray), k ≤ L ∧ i = .int .i64 k ∧ o = .string s ∧ s.size = k ∧ Rd wr g (p + k) ∧ w.grownBy wr (some g)) (fun _ i _ => L - (intOf i).toNat)
  case atStart => exact ⟨0, ByteArray.empty, Nat.zero_le _, rfl, rfl, rfl, H.out, World.grownBy.refl _ _⟩
  case round =>
    obtain ⟨k, s, hk, rfl, rfl, hs, hr, hg⟩ := hrel
    have hss : s.size ≤ 300 := by omega
    have Hs := Lib.hid hs
    clear hs
    by_cases hlt : k < L
    · go_wp2_with fail
      refine (spec_pick g (p + k) 8 wr hr (by omega) (by omega) (by omega)).mono ?_
      rintro e v1 ⟨m, rfl, hm, hr1, hg1⟩
      go_wp2_with fail
      refine (spec_l1Letter _ _).mono ?_
      rintro e v2 ⟨r, rfl, hr2, hb2⟩
      have hrs : r.size = 1 := by rw [← nb_length, hr2]; rfl
      have hrs' : r.size ≤ 1 := by omega
      have Hrs := Lib.hid hrs
      clear hr2 hrs hm
      go_wp2
      go_roundw
      case rel => exact ⟨k + 1, _, by omega, by go_num, rfl, by rw [ByteArray.size_append, Hs.out, Hrs.out], hr1.next hb2, gthen (gthen hg hg1) (gbel hb2 _)⟩
      case measure => simp [intOf]; omega
    · go_wp2
      go_ret
      have hkL : k = L := by omega
      exact ⟨s, rfl, by rw [Hs.out, hkL], by rw [← hkL]; exact hr, hg⟩
set_option maxHeartbeats 1000000 in
theorem spec_l16Bad (g p : Nat) (a : ByteArray) (w : World) (h : Rd w g p) (hp : p ≤ 80000) (ha : a.size ≤ 1000) :
    Calls Try.prog 20 #[.pointer (some ⟨g, 0, none⟩), .string a] w (DrS w g p 10 (a.size + 300)) := by
  go_enter Try.func20, Try.ntmps20
  go_wp2_with fail
  refine (spec_pick g p _ w h (by omega) (by omega) (by omega)).mono ?_
  rintro e v1 ⟨m, rfl, hm, hr1, hg1⟩
  clear hm
  have hgl := hr1.lt
  by_cases h0 : m = 0
  · subst h0
    go_wp2_with fail
    refine (spec_of g (p + 1) 4 4 _ [S1 105, S1 106, S1 107, S1 32] _ (hr1.alloc _) (by omega) (by omega) (by omega) ⟨v1.heap.size, 0, none⟩ rfl rfl (by show v1.heap.size ≠ g; omega) rfl
      (fun j z hz => cells_lit v1 [.string (S1 105), .string (S1 106), .string (S1 107), .string (S1 32)] 9 j _ (by have := congrArg (Option.map Value.string) hz; simpa [← List.getElem?_map] using this))).mono ?_
    rintro e v2 ⟨z, rfl, hz, hr2, hg2⟩
    have hz1 : z.size ≤ 1 := by simp at hz; rcases hz with rfl | rfl | rfl | rfl <;> exact Nat.le_refl _
    clear hz
    go_wp2_with fail
    go_ret
    exact ⟨_, _, rfl, by rw [ByteArray.size_append]; omega, by omega, hr2, gthen (gthen hg1 (galloc _ _ _)) hg2⟩
  · have b0 : ((m : Int) == 0) = false := by rw [beq_eq_false_iff_ne]; omega
    by_cases h2 : m = 1
    · subst h2
      clear h0 b0
      go_wp2_with fail
      refine (spec_num g (p + 1) 2 2 _ [200, 201] _ (hr1.alloc _) (by omega) (by omega) (by omega) ⟨v1.heap.size, 0, none⟩ rfl rfl (by show v1.heap.size ≠ g; omega) rfl
        (fun j z hz => cells_lit v1 [.int .i64 200, .int .i64 201] 3 j _ (by have := congrArg (Option.map (Value.int .i64)) hz; simpa [← List.getElem?_map] using this))).mono ?_
      rintro e v2 ⟨z, rfl, hz, hr2, hg2⟩
      obtain ⟨z, rfl, hz1⟩ : ∃ k : Nat, z = (k : Int) ∧ k ≤ 201 := by
        simp at hz
        rcases hz with rfl | rfl
        · exact ⟨200, rfl, by omega⟩
        · exact ⟨201, rfl, by omega⟩
      clear hz
      go_wp2_with fail
      refine (spec_l21Many (S1 104) z v2 (by rw [S1_size]; omega) (by rw [S1_size]; omega) (by omega)).mono ?_
      rintro e v3 ⟨r, rfl, hrs, rfl⟩
      rw [S1_size] at hrs
      have hrs' : r.size ≤ 201 := by omega
      clear hrs
      go_wp2_with fail
      go_ret
      exact ⟨_, _, rfl, by omega, by omega, hr2, gthen (gthen hg1 (galloc _ _ _)) hg2⟩
    · have b2 : ((m : Int) == 1) = false := by rw [beq_eq_false_iff_ne]; omega
      clear h0 h2
      go_wp2_with fail
      go_ret
      exact ⟨_, _, rfl, by omega, by omega, hr1, hg1⟩
theorem spec_DrawTapeValid (a : Option Addr) (len cap : Nat) (zs : List Int) (w : World) (h : IsRow .u8 w a len cap zs) :
    Calls Try.prog 27 #[.slice a len cap] w (RetAny w 1000) := by
  go_enter Try.func27, Try.ntmps27
  go_wp2_with fail
  refine (spec_l21Open _ _ _ _ _ h).mono ?_
  rintro e v0 ⟨rfl, hr0, hb0⟩
  go_wp2_with fail
  refine (spec_pick _ _ _ _ hr0 (by omega) (by omega) (by omega)).mono ?_
  rintro e v1 ⟨m, rfl, hm, hr1, hg1⟩
  have hm' : m ≤ 16 := by omega
  clear hm
  go_wp2_with fail
  refine (spec_l16Tape _ _ m _ hr1 (by omega) (by omega)).mono ?_
  rintro e v2 ⟨r2, rfl, hs2, hr2, hg2⟩
  have hs2' : r2.size ≤ 16 := by omega
  clear hs2
  go_wp2_with fail
  refine (spec_l16Bad _ _ _ _ hr2 (by omega) (by omega)).mono ?_
  rintro e v3 ⟨r3, p3, rfl, hs3, hp3, hr3, hg3⟩
  go_wp2_with fail
  go_ret
  refine ⟨r3, rfl, by omega, ?_⟩
  exact hb0.grown (gthen (gthen hg1 hg2) hg3) hb0.size (fun k hk => by injection hk with hk; omega)
theorem spec_DrawDeltaTape (a : Option Addr) (len cap : Nat) (zs : List Int) (w : World) (h : IsRow .u8 w a len cap zs) :
    Calls Try.prog 14 #[.slice a len cap] w (RetAny w 1000) := by
  go_enter Try.func14, Try.ntmps14
  go_wp2_with fail
  refine (spec_DrawTapeValid _ _ _ _ _ h).mono ?_
  rintro e v0 ⟨r, rfl, hr, hb⟩
  go_wp2_with fail
  go_ret
  exact ⟨r, rfl, hr, hb⟩
set_option maxHeartbeats 1000000 in
theorem spec_DrawXorTapes (a : Option Addr) (len cap : Nat) (zs : List Int) (w : World) (h : IsRow .u8 w a len cap zs) :
    Calls Try.prog 6 #[.slice a len cap] w (RetAnyT2 w 1000) := by
  go_enter Try.func6, Try.ntmps6
  go_wp2_with fail
  refine (spec_l21Open _ _ _ _ _ h).mono ?_
  rintro e v0 ⟨rfl, hr0, hb0⟩
  go_wp2_with fail
  refine (spec_pick _ _ _ _ hr0 (by omega) (by omega) (by omega)).mono ?_
  rintro e v1 ⟨m, rfl, hm, hr1, hg1⟩
  have hm' : m ≤ 16 := by omega
  clear hm
  go_wp2_with fail
  refine (spec_l16Tape _ _ m _ hr1 (by omega) (by omega)).mono ?_
  rintro e v2 ⟨r2, rfl, hs2, hr2, hg2⟩
  have hs2' : r2.size ≤ 16 := by omega
  clear hs2
  go_wp2_with fail
  refine (spec_l16Tape _ _ r2.size _ hr2 (by omega) (by omega)).mono ?_
  rintro e v3 ⟨r3, rfl, hs3, hr3, hg3⟩
  have hs3' : r3.size ≤ 16 := by omega
  clear hs3
  go_wp2_with fail
  refine (spec_pick _ _ _ _ hr3 (by omega) (by omega) (by omega)).mono ?_
  rintro e v4 ⟨k, rfl, hk, hr4, hg4⟩
  clear hk
  have hG := gthen (gthen (gthen hg1 hg2) hg3) hg4
  by_cases h0 : k = 0
  · subst h0
    go_wp2_with fail
    refine (spec_pick _ _ _ _ hr4 (by omega) (by omega) (by omega)).mono ?_
    rintro e v5 ⟨j, rfl, hj, hr5, hg5⟩
    have hj' : j ≤ 16 := by omega
    clear hj
    go_wp2_with fail
    refine (spec_l16Tape _ _ j _ hr5 (by omega) (by omega)).mono ?_
    rintro e v6 ⟨r6, rfl, hs6, hr6, hg6⟩
    have hs6' : r6.size ≤ 16 := by omega
    clear hs6
    go_wp2_with fail
    refine (spec_l16Bad _ _ _ _ hr6 (by omega) (by omega)).mono ?_
    rintro e v7 ⟨r7, p7, rfl, hs7, hp7, hr7, hg7⟩
    go_wp2_with fail
    refine (spec_l16Bad _ _ _ _ hr7 (by omega) (by omega)).mono ?_
    rintro e v8 ⟨r8, p8, rfl, hs8, hp8, hr8, hg8⟩
    go_wp2_with fail
    go_ret2
    exact ⟨_, _, rfl, by omega, by omega, hb0.grown (gthen (gthen (gthen (gthen hG hg5) hg6) hg7) hg8) hb0.size (fun k hk => by injection hk with hk; omega)⟩
  · have b0 : ((k : Int) == 0) = false := by rw [beq_eq_false_iff_ne]; omega
    clear h0
    go_wp2_with fail
    refine (spec_l16Bad _ _ _ _ hr4 (by omega) (by omega)).mono ?_
    rintro e v7 ⟨r7, p7, rfl, hs7, hp7, hr7, hg7⟩
    go_wp2_with fail
    refine (spec_l16Bad _ _ _ _ hr7 (by omega) (by omega)).mono ?_
    rintro e v8 ⟨r8, p8, rfl, hs8, hp8, hr8, hg8⟩
    go_wp2_with fail
    go_ret2
    exact ⟨_, _, rfl, by omega, by omega, hb0.grown (gthen (gthen hG hg7) hg8) hb0.size (fun k hk => by injection hk with hk; omega)⟩
end Go.Proofs.Ythbimdcomhoapaa
