/- The walk of the law on three joined orders. No condition. Written by mk_laws17o.py. -/
import Derived.Test.YtloihiodddgihaaDraw17b
import Derived.Test.YtloihiodddgihaaRail3
import Derived.Test.YtloihiodddgihaaPlainR2
import Derived.Test.YtloihiodddgihaaPlainJ
import Derived.Test.YtloihiodddgihaaRc
set_option linter.unusedVariables false
namespace Go.Proofs.Ytloihiodddgihaa
open Go.RowKit

set_option maxHeartbeats 2000000 in
theorem walk_FnJoinThree (a0 : Option Addr) (len0 cap0 : Nat) (z0 : List Int) (a1 : Option Addr) (len1 cap1 : Nat) (z1 : List Int) (w : World) (w0 : IsRow .u8 w a0 len0 cap0 z0) (w1 : IsRow .u8 w a1 len1 cap1 z1) :
    Calls Try.prog 6 #[.slice a0 len0 cap0, .slice a1 len1 cap1] w fun e w' => e = .returned (.bool true) ∧ Below w.heap.size w w' := by
  have hl := w0.len_le
  have hl1 := w1.len_le
  by_cases hbig : 1048576 < len0
  · clear w0 w1
    go_enter Try.func6, Try.ntmps6
    go_wp2_with fail
    go_ret
    exact ⟨rfl, Below.refl _ _⟩
  by_cases hbig1 : 1048576 < len1
  · clear w0 w1
    go_enter Try.func6, Try.ntmps6
    go_wp2_with fail
    go_ret
    exact ⟨rfl, Below.refl _ _⟩
  · have W0 := Lib.hid w0
    clear w0 w1
    go_enter Try.func6, Try.ntmps6
    go_wp2_with fail
    refine (spec_DrawJoinPlaces _ _ _ _ _ W0.out).mono ?_
    rintro e v1 ⟨A, n, c, f, B, m, d, s, rfl, hlf, hls, hn, hm, hof, hos, hb1⟩
    have Hf := Lib.hid hlf
    have Hs := Lib.hid hls
    have hF := hof.ints
    have hS := hos.ints
    clear hlf hls hof hos
    go_wp2_with fail
    refine (impl_JoinPlaces _ _ _ _ _ _ _ _ _ hF hS Hf.out Hs.out (by omega) (by omega)).mono ?_
    rintro e v2 ⟨A2, n2, c2, rfl, hl2, ho2, hb2⟩
    have hn2 : n2 ≤ 200 := by
      have : (jp f s).length ≤ s.length := by unfold jp; split; rw [joinL_len]; exact Nat.le_refl _; simp
      have := Hs.out; omega
    have Hl2 := Lib.hid hl2
    have hJ2 := ho2.ints
    have hB2 := bthen hb1 hb2
    have hF2 := hF.next hb2
    have hS2 := hS.next hb2
    clear hl2 ho2 hF hS
    go_wp2_with fail
    refine (spec_JoinPlaces _ _ _ _ _ _ _ _ _ hF2 hS2 Hf.out Hs.out (by omega) (by omega)).mono ?_
    rintro e v3 ⟨A3, n3, c3, rfl, hl3, ho3, hb3⟩
    obtain rfl : n2 = n3 := by have := Hl2.out; omega
    have hB3 := bthen hB2 hb3
    have hF3 := hF2.next hb3
    have hS3 := hS2.next hb3
    have hJ3 := hJ2.next hb3
    have hW3 := ho3.ints
    clear hl3 ho3 hF2 hS2 hJ2
    have hsame := same_refl (jp f s)
    cases hok : jpOk f s
    · go_wp2_with fail
      refine (laws_rcInts _ _ _ _ _ _ _ _ _ hJ3 hW3 Hl2.out Hl2.out (by omega) (by omega)).mono ?_
      rintro e v4 ⟨rfl, hb4⟩
      have hB4 := bthen hB3 hb4
      go_wp2_with fail
      refine (laws_rcInts _ _ _ _ _ _ _ _ _ (hJ3.next hb4) (hW3.next hb4) Hl2.out Hl2.out (by omega) (by omega)).mono ?_
      rintro e v5 ⟨rfl, hb5⟩
      go_wp2_with fail
      go_ret
      exact ⟨rfl, bthen hB4 hb5⟩
    · obtain ⟨pf, ps, hfs⟩ := jpOk_yes hok
      obtain rfl : m = n := by have := Hf.out; have := Hs.out; omega
      have hm200 : m ≤ 100 := hm
      obtain ⟨q, hq, hq12⟩ : ∃ q : Nat, (len1 : Int).tmod 12 = (q : Int) ∧ q < 12 := tmod_nat len1 12 (by omega)
      obtain ⟨R, hR, hR1, hR12⟩ : ∃ R : Nat, (1 : Int) + (q : Int) = (R : Int) ∧ 1 ≤ R ∧ R ≤ 12 := ⟨1 + q, by omega, by omega, by omega⟩
      have hjp : jp f s = joinL f s := (jpOk_of pf ps hfs).2
      have pt : plv (railL R m) = true := plv_rail hR1 (by omega)
      have lt : (railL R m).length = m := railL_len hR1
      have Hrp := Lib.hid (rpl_yes hR1 hR12 (by omega : m ≤ 200))
      have pj : plv (joinL f s) = true := plv_join pf ps hfs
      have Hj1 := Lib.hid (jpOk_of pj pt (by rw [joinL_len, Hs.out, lt]))
      have Hj2 := Lib.hid (jpOk_of ps pt (by rw [Hs.out, lt]))
      have pst : plv (joinL s (railL R m)) = true := plv_join ps pt (by rw [Hs.out, lt])
      have Hj3 := Lib.hid (jpOk_of pf pst (by rw [joinL_len, Hf.out, lt]))
      have Has := Lib.hid (join_assoc (f := f) (s := s) pt (by rw [Hs.out, lt]))
      have hsame2 := same_refl (joinL f (joinL s (railL R m)))
      have Hlt := Lib.hid lt
      have Hjl : Hid ((joinL f s).length = m) := by show _ = _; rw [joinL_len, Hs.out]
      have Hjl2 : Hid ((joinL s (railL R m)).length = m) := by show _ = _; rw [joinL_len, lt]
      have Hjl3 : Hid ((joinL f (joinL s (railL R m))).length = m) := by show _ = _; rw [joinL_len, joinL_len, lt]
      obtain rfl : n2 = m := by have := Hl2.out; rw [hjp] at this; have := Hjl.out; omega
      have Hjp := Lib.hid hjp
      clear pt lt pj pst pf ps hfs hok hjp
      go_wp2_with fail
      refine (laws_rcInts _ _ _ _ _ _ _ _ _ hJ3 hW3 Hl2.out Hl2.out (by omega) (by omega)).mono ?_
      rintro e v4 ⟨rfl, hb4⟩
      have hB4 := bthen hB3 hb4
      have hF4 := hF3.next hb4
      have hS4 := hS3.next hb4
      have hJ4 := hJ3.next hb4
      clear hF3 hS3 hJ3 hW3
      go_wp2_with fail
      refine (impl_RailPlaces _ _ _).mono ?_
      rw [Hrp.out]
      rintro e v5 ⟨A5, n5, c5, rfl, hl5, ho5, hb5⟩
      obtain rfl : n5 = n2 := by have := Hlt.out; omega
      have hB5 := bthen hB4 hb5
      have hF5 := hF4.next hb5
      have hS5 := hS4.next hb5
      have hJ5 := hJ4.next hb5
      have hT5 := ho5.ints
      rw [Hjp.out] at hJ5
      clear hF4 hS4 hJ4 hl5 ho5
      go_wp2_with fail
      refine (impl_JoinPlaces _ _ _ _ _ _ _ _ _ hJ5 hT5 Hjl.out Hlt.out (by omega) (by omega)).mono ?_
      rw [Hj1.out.1, Hj1.out.2, Has.out]
      rintro e v6 ⟨A6, n6, c6, rfl, hl6, ho6, hb6⟩
      obtain rfl : n6 = n5 := by have := Hjl3.out; omega
      have hB6 := bthen hB5 hb6
      have hF6 := hF5.next hb6
      have hS6 := hS5.next hb6
      have hT6 := hT5.next hb6
      have hX6 := ho6.ints
      clear hF5 hS5 hT5 hJ5 hl6 ho6
      go_wp2_with fail
      refine (impl_JoinPlaces _ _ _ _ _ _ _ _ _ hS6 hT6 Hs.out Hlt.out (by omega) (by omega)).mono ?_
      rw [Hj2.out.1, Hj2.out.2]
      rintro e v7 ⟨A7, n7, c7, rfl, hl7, ho7, hb7⟩
      obtain rfl : n7 = n6 := by have := Hjl2.out; omega
      have hB7 := bthen hB6 hb7
      have hF7 := hF6.next hb7
      have hX7 := hX6.next hb7
      have hY7 := ho7.ints
      clear hF6 hS6 hT6 hX6 hl7 ho7
      go_wp2_with fail
      refine (impl_JoinPlaces _ _ _ _ _ _ _ _ _ hF7 hY7 Hf.out Hjl2.out (by omega) (by omega)).mono ?_
      rw [Hj3.out.1, Hj3.out.2]
      rintro e v8 ⟨A8, n8, c8, rfl, hl8, ho8, hb8⟩
      obtain rfl : n8 = n7 := by have := Hjl3.out; omega
      have hB8 := bthen hB7 hb8
      have hX8 := hX7.next hb8
      have hY8 := ho8.ints
      clear hF7 hX7 hY7 hl8 ho8
      go_wp2_with fail
      refine (laws_rcInts _ _ _ _ _ _ _ _ _ hX8 hY8 Hjl3.out Hjl3.out (by omega) (by omega)).mono ?_
      rintro e v9 ⟨rfl, hb9⟩
      go_wp2_with fail
      go_ret
      exact ⟨rfl, bthen hB8 hb9⟩
end Go.Proofs.Ytloihiodddgihaa
