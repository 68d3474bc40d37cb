/- The draws of the laws on words with gaps: some strings, not too long. No condition. -/
import Derived.Test.YtilnffidckdadaaDraw18
set_option linter.unusedVariables false
namespace Go.Proofs.Ytilnffidckdadaa
open Go.RowKit

set_option maxHeartbeats 1000000 in
theorem spec_l18Partial (g p : Nat) (a : ByteArray) (w : World) (h : Rd w g p) (hp : p ≤ 80000) (ha : a.size ≤ 1000) :
    Calls Try.prog 50 #[.pointer (some ⟨g, 0, none⟩), .string a] w fun e w' => ∃ r, e = .returned (.string r) ∧ r.size = a.size ∧ Rd w' g (p + a.size) ∧ w.grownBy w' (some g) := by
  have H := Lib.hid h
  clear h
  go_enter Try.func50, Try.ntmps50
  go_wp2
  go_loopw [5, 6] (fun o i wr => ∃ (k : Nat) (s : ByteArray), k ≤ a.size ∧ i = .int .i64 k ∧ o = .string s ∧ s.size = k ∧ Rd wr g (p + k) ∧ w.grownBy wr (some g)) (fun _ i _ => a.size - (intOf i).toNat)
  case atStart => exact ⟨0, ByteArray.empty, Nat.zero_le _, rfl, rfl, rfl, H.out, World.grownBy.refl _ _⟩
  case round =>
    obtain ⟨k, s, hk, rfl, rfl, hs, hr, hg⟩ := hrel
    have hss : s.size ≤ 1000 := by omega
    have Hs := Lib.hid hs
    clear hs
    by_cases hlt : k < a.size
    · go_wp2_with fail
      refine (spec_pick g (p + k) 3 wr hr (by omega) (by omega) (by omega)).mono ?_
      rintro e v1 ⟨m, rfl, hm, hr1, hg1⟩
      clear hm
      have hone : (a.extract k (k + 1)).size = 1 := by rw [← nb_length, nb_one a k hlt]; rfl
      have hone' : (a.extract k (k + 1)).size ≤ 1 := by omega
      have Hone := Lib.hid hone
      clear hone
      by_cases h0 : m = 0
      · subst h0
        go_wp2
        go_roundw
        case rel => exact ⟨k + 1, _, by omega, by go_num, rfl, by rw [ByteArray.size_append, Hs.out]; rfl, hr1, gthen hg hg1⟩
        case measure => simp [intOf]; omega
      · have b0 : ((m : Int) == 0) = false := by rw [beq_eq_false_iff_ne]; omega
        clear h0
        go_wp2
        go_roundw
        case rel => exact ⟨k + 1, _, by omega, by go_num, rfl, by rw [ByteArray.size_append, Hs.out, Hone.out], hr1, gthen hg hg1⟩
        case measure => simp [intOf]; omega
    · go_wp2
      go_ret
      have hkL : k = a.size := by omega
      exact ⟨s, rfl, by rw [Hs.out, hkL], by rw [← hkL]; exact hr, hg⟩

theorem spec_DrawPartialValid (a : Option Addr) (len cap : Nat) (zs : List Int) (w : World) (h : IsRow .u8 w a len cap zs) :
    Calls Try.prog 27 #[.slice a len cap] w (RetAny w 1000) := by
  go_enter Try.func27, Try.ntmps27
  go_wp2_with fail
  refine (spec_l21Open _ _ _ _ _ h).mono ?_
  rintro e v0 ⟨rfl, hr0, hb0⟩
  go_wp2_with fail
  refine (spec_l1Word _ 0 16 _ hr0 (by omega) (by omega)).mono ?_
  rintro e v1 ⟨r1, p1, rfl, hs1, hp1, hr1, hg1⟩
  go_wp2_with fail
  refine (spec_l18Partial _ p1 _ _ hr1 (by omega) (by omega)).mono ?_
  rintro e v2 ⟨r2, rfl, hs2, hr2, hg2⟩
  have hs2' : r2.size ≤ 16 := by omega
  clear hs2
  go_wp2_with fail
  refine (spec_l18Bad _ _ _ _ hr2 (by omega) (by omega)).mono ?_
  rintro e v3 ⟨r3, p3, rfl, hs3, hp3, hr3, hg3⟩
  go_wp2_with fail
  go_ret
  refine ⟨r3, rfl, by omega, ?_⟩
  exact hb0.grown (gthen (gthen hg1 hg2) hg3) hb0.size (fun k hk => by injection hk with hk; omega)

/-- Two strings are drawn. -/
def RetAny2 (w : World) (m : Nat) (e : Ending) (w' : World) : Prop := ∃ r s, e = .returned (.tuple #[.string r, .string s]) ∧ r.size ≤ m ∧ s.size ≤ m ∧ Below w.heap.size w w'

set_option maxHeartbeats 2000000 in
theorem spec_DrawMergePartials (a : Option Addr) (len cap : Nat) (zs : List Int) (w : World) (h : IsRow .u8 w a len cap zs) :
    Calls Try.prog 34 #[.slice a len cap] w (RetAny2 w 1000) := by
  go_enter Try.func34, Try.ntmps34
  go_wp2_with fail
  refine (spec_l21Open _ _ _ _ _ h).mono ?_
  rintro e v0 ⟨rfl, hr0, hb0⟩
  go_wp2_with fail
  refine (spec_l1Word _ 0 10 _ hr0 (by omega) (by omega)).mono ?_
  rintro e v1 ⟨r1, p1, rfl, hs1, hp1, hr1, hg1⟩
  go_wp2_with fail
  refine (spec_l18Partial _ p1 _ _ hr1 (by omega) (by omega)).mono ?_
  rintro e v2 ⟨r2, rfl, hs2, hr2, hg2⟩
  have hs2' : r2.size ≤ 10 := by omega
  clear hs2
  go_wp2_with fail
  refine (spec_l18Partial _ _ _ _ hr2 (by omega) (by omega)).mono ?_
  rintro e v3 ⟨r3, rfl, hs3, hr3, hg3⟩
  have hs3' : r3.size ≤ 10 := by omega
  have hs3'' : r1.size ≤ r3.size := by omega
  clear hs3
  go_wp2_with fail
  refine (spec_pick _ _ _ _ hr3 (by omega) (by omega) (by omega)).mono ?_
  rintro e v4 ⟨k, rfl, hk, hr4, hg4⟩
  have hk' : k ≤ r1.size := by omega
  clear hk
  go_wp2_with fail
  refine (spec_pick _ _ _ _ hr4 (by omega) (by omega) (by omega)).mono ?_
  rintro e v5 ⟨m, rfl, hm, hr5, hg5⟩
  clear hm
  have hG := gthen (gthen (gthen (gthen hg1 hg2) hg3) hg4) hg5
  by_cases hc : m = 0 ∧ k < r1.size
  · obtain ⟨rfl, hkl⟩ := hc
    have hkl3 : k < r3.size := by omega
    have q1 : (r3.extract 0 k).size ≤ 10 := by rw [← nb_length, nb_extract]; simp; have := nb_length r3; omega
    have q2 : (r3.extract (k + 1) r3.size).size ≤ 10 := by rw [← nb_length, nb_extract]; simp; have := nb_length r3; omega
    go_wp2_with fail
    have k1 : IntKind.i64.wrap ((k : Int) + 1) = (k : Int) + 1 := IntWalk.i64_in _ (by omega)
    have k2 : ((k : Int) + 1).toNat = k + 1 := by omega
    have k3 : (0 : Int) ≤ (k : Int) + 1 := by omega
    go_region_with (go_at_call 55; refine (spec_l1Some _ _ 1 _ (by exact hr5) (by omega) (by omega)).mono ?_; rintro e v6 ⟨r6, rfl, hs6, hr6, hg6⟩; have hs6' : r6.size ≤ 1 := (by omega); clear hs6)
    all_goals
      clear k1 k2 k3
      have hg6' : v5.grownBy v6 (some w.heap.size) := ⟨hg6.os, hg6.tape, hg6.output, hg6.size, hg6.block⟩
      have q3 : (r3.extract 0 k ++ r6 ++ r3.extract (k + 1) r3.size).size ≤ 30 := by rw [ByteArray.size_append, ByteArray.size_append]; omega
      go_wp2_with fail
      refine (spec_l18Bad _ _ _ _ hr6 (by omega) (by omega)).mono ?_
      rintro e v7 ⟨r7, p7, rfl, hs7, hp7, hr7, hg7⟩
      go_wp2_with fail
      refine (spec_l18Bad _ _ _ _ hr7 (by omega) (by omega)).mono ?_
      rintro e v8 ⟨r8, p8, rfl, hs8, hp8, hr8, hg8⟩
      go_wp2_with fail
      go_ret2
      exact ⟨_, _, rfl, by omega, by omega, hb0.grown (gthen (gthen (gthen hG hg6') hg7) hg8) hb0.size (fun k hk => by injection hk with hk; omega)⟩
  · have hcase : (m = 0 ∧ r1.size ≤ k) ∨ m ≠ 0 := by omega
    clear hc
    rcases hcase with ⟨rfl, hkk⟩ | hm0
    · go_wp2_with fail
      refine (spec_l18Bad _ _ _ _ hr5 (by omega) (by omega)).mono ?_
      rintro e v7 ⟨r7, p7, rfl, hs7, hp7, hr7, hg7⟩
      go_wp2_with fail
      refine (spec_l18Bad _ _ _ _ hr7 (by omega) (by omega)).mono ?_
      rintro e v8 ⟨r8, p8, rfl, hs8, hp8, hr8, hg8⟩
      go_wp2_with fail
      go_ret2
      exact ⟨_, _, rfl, by omega, by omega, hb0.grown (gthen (gthen hG hg7) hg8) hb0.size (fun k hk => by injection hk with hk; omega)⟩
    · have b0 : ((m : Int) == 0) = false := by rw [beq_eq_false_iff_ne]; omega
      clear hm0
      go_wp2_with fail
      refine (spec_l18Bad _ _ _ _ hr5 (by omega) (by omega)).mono ?_
      rintro e v7 ⟨r7, p7, rfl, hs7, hp7, hr7, hg7⟩
      go_wp2_with fail
      refine (spec_l18Bad _ _ _ _ hr7 (by omega) (by omega)).mono ?_
      rintro e v8 ⟨r8, p8, rfl, hs8, hp8, hr8, hg8⟩
      go_wp2_with fail
      go_ret2
      exact ⟨_, _, rfl, by omega, by omega, hb0.grown (gthen (gthen hG hg7) hg8) hb0.size (fun k hk => by injection hk with hk; omega)⟩
set_option maxHeartbeats 1000000 in
theorem spec_l1Two (g : Nat) (w : World) (h : Rd w g 0) :
    Calls Try.prog 56 #[.pointer (some ⟨g, 0, none⟩)] w fun e w' => ∃ r s, e = .returned (.tuple #[.string r, .string s]) ∧ r.size ≤ 1000 ∧ s.size ≤ 1000 ∧ w.grownBy w' (some g) := by
  go_enter Try.func56, Try.ntmps56
  go_wp2_with fail
  refine (spec_l1Word _ 0 16 _ h (by omega) (by omega)).mono ?_
  rintro e v1 ⟨r1, p1, rfl, hs1, hp1, hr1, hg1⟩
  go_wp2_with fail
  refine (spec_l1Some _ p1 r1.size _ hr1 (by omega) (by omega)).mono ?_
  rintro e v2 ⟨r2, rfl, hs2, hr2, hg2⟩
  have hs2' : r2.size ≤ 16 := by omega
  clear hs2
  go_wp2_with fail
  refine (spec_pick _ _ _ _ hr2 (by omega) (by omega) (by omega)).mono ?_
  rintro e v3 ⟨m, rfl, hm, hr3, hg3⟩
  clear hm
  have hG := gthen (gthen hg1 hg2) hg3
  by_cases h0 : m = 0
  · subst h0
    go_wp2_with fail
    refine (spec_l1Word _ _ 9 _ hr3 (by omega) (by omega)).mono ?_
    rintro e v4 ⟨r4, p4, rfl, hs4, hp4, hr4, hg4⟩
    go_wp2_with fail
    refine (spec_l1Bad _ _ _ _ hr4 (by omega) (by omega)).mono ?_
    rintro e v5 ⟨r5, p5, rfl, hs5, hp5, hr5, hg5⟩
    go_wp2_with fail
    refine (spec_l1Bad _ _ _ _ hr5 (by omega) (by omega)).mono ?_
    rintro e v6 ⟨r6, p6, rfl, hs6, hp6, hr6, hg6⟩
    go_wp2_with fail
    go_ret2
    exact ⟨_, _, rfl, by omega, by omega, gthen (gthen (gthen hG hg4) hg5) hg6⟩
  · have b0 : ((m : Int) == 0) = false := by rw [beq_eq_false_iff_ne]; omega
    clear h0
    go_wp2_with fail
    refine (spec_l1Bad _ _ _ _ hr3 (by omega) (by omega)).mono ?_
    rintro e v5 ⟨r5, p5, rfl, hs5, hp5, hr5, hg5⟩
    go_wp2_with fail
    refine (spec_l1Bad _ _ _ _ hr5 (by omega) (by omega)).mono ?_
    rintro e v6 ⟨r6, p6, rfl, hs6, hp6, hr6, hg6⟩
    go_wp2_with fail
    go_ret2
    exact ⟨_, _, rfl, by omega, by omega, gthen (gthen hG hg5) hg6⟩
theorem spec_DrawAddWords (a : Option Addr) (len cap : Nat) (zs : List Int) (w : World) (h : IsRow .u8 w a len cap zs) :
    Calls Try.prog 37 #[.slice a len cap] w (RetAny2 w 1000) := by
  go_enter Try.func37, Try.ntmps37
  go_wp2_with fail
  refine (spec_l21Open _ _ _ _ _ h).mono ?_
  rintro e v0 ⟨rfl, hr0, hb0⟩
  go_wp2_with fail
  refine (spec_l1Two _ _ hr0).mono ?_
  rintro e v1 ⟨r, s, rfl, hr, hs, hg⟩
  go_wp2_with fail
  go_ret2
  exact ⟨r, s, rfl, hr, hs, hb0.grown hg hb0.size (fun k hk => by injection hk with hk; omega)⟩
end Go.Proofs.Ytilnffidckdadaa
