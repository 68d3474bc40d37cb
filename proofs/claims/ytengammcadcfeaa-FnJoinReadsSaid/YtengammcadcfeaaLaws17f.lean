/- The walks of the laws on joined reading and on reading back. No condition. -/
import Derived.Test.YtengammcadcfeaaDraw17b
import Derived.Test.YtengammcadcfeaaCounts
import Derived.Test.YtengammcadcfeaaRc
set_option linter.unusedVariables false
namespace Go.Proofs.Ytengammcadcfeaa
open Go.RowKit

/-- The word that the law reads. -/
def sqW (n m : Nat) : List Nat := (List.range n).map fun i => 97 + (i * i + m) % 10
theorem sqW_len (n m : Nat) : (sqW n m).length = n := by simp [sqW]
theorem sqW_at (n m k : Nat) (h : k < n) : (sqW n m)[k]? = some (97 + (k * k + m) % 10) := by simp [sqW, h]
theorem wv_sqW (n m : Nat) (h : n ≤ 200) : wv (sqW n m) = true := by
  refine wv_ofR (by rw [sqW_len]; exact h) fun x hx => ?_
  simp only [sqW, List.mem_map] at hx
  obtain ⟨i, _, rfl⟩ := hx
  omega

set_option maxHeartbeats 2000000 in
theorem walk_FnJoinReads (a0 : Option Addr) (len0 cap0 : Nat) (z0 : List Int) (a1 : Option Addr) (len1 cap1 : Nat) (z1 : List Int) (w : World) (w0 : IsRow .u8 w a0 len0 cap0 z0) (w1 : IsRow .u8 w a1 len1 cap1 z1) :
    Calls Try.prog 3 #[.slice a0 len0 cap0, .slice a1 len1 cap1] w fun e w' => e = .returned (.bool true) ∧ Below w.heap.size w w' := by
  have hl := w0.len_le
  have hl1 := w1.len_le
  by_cases hbig : 1048576 < len0
  · clear w0 w1
    go_enter Try.func3, Try.ntmps3
    go_wp2_with fail
    go_ret
    exact ⟨rfl, Below.refl _ _⟩
  by_cases hbig1 : 1048576 < len1
  · clear w0 w1
    go_enter Try.func3, Try.ntmps3
    go_wp2_with fail
    go_ret
    exact ⟨rfl, Below.refl _ _⟩
  · have W0 := Lib.hid w0
    clear w0 w1
    go_enter Try.func3, Try.ntmps3
    go_wp2_with fail
    refine (spec_DrawJoinPlaces _ _ _ _ _ W0.out).mono ?_
    rintro e v1 ⟨A, n, c, f, B, m, d, s, rfl, hlf, hls, hn, hm, hof, hos, hb1⟩
    have Hf := Lib.hid hlf
    have Hs := Lib.hid hls
    have hF := hof.ints
    have hS := hos.ints
    clear hlf hls hof hos
    go_wp2_with fail
    refine (impl_JoinPlaces _ _ _ _ _ _ _ _ _ hF hS Hf.out Hs.out (by omega) (by omega)).mono ?_
    rintro e v2 ⟨A2, n2, c2, rfl, hl2, ho2, hb2⟩
    have hn2 : n2 ≤ 200 := by
      have : (jp f s).length ≤ s.length := by unfold jp; split; rw [joinL_len]; exact Nat.le_refl _; simp
      have := Hs.out; omega
    have Hl2 := Lib.hid hl2
    have hJ2 := ho2.ints
    have hB2 := bthen hb1 hb2
    have hF2 := hF.next hb2
    have hS2 := hS.next hb2
    clear hl2 ho2 hF hS
    go_wp2_with fail
    refine (spec_JoinPlaces _ _ _ _ _ _ _ _ _ hF2 hS2 Hf.out Hs.out (by omega) (by omega)).mono ?_
    rintro e v3 ⟨A3, n3, c3, rfl, hl3, ho3, hb3⟩
    obtain rfl : n2 = n3 := by have := Hl2.out; omega
    have hB3 := bthen hB2 hb3
    have hF3 := hF2.next hb3
    have hS3 := hS2.next hb3
    have hJ3 := hJ2.next hb3
    have hW3 := ho3.ints
    clear hl3 ho3 hF2 hS2 hJ2
    have hsame := same_refl (jp f s)
    cases hok : jpOk f s
    · go_wp2_with fail
      refine (laws_rcInts _ _ _ _ _ _ _ _ _ hJ3 hW3 Hl2.out Hl2.out (by omega) (by omega)).mono ?_
      rintro e v4 ⟨rfl, hb4⟩
      have hB4 := bthen hB3 hb4
      go_wp2_with fail
      refine (laws_rcInts _ _ _ _ _ _ _ _ _ (hJ3.next hb4) (hW3.next hb4) Hl2.out Hl2.out (by omega) (by omega)).mono ?_
      rintro e v5 ⟨rfl, hb5⟩
      go_wp2_with fail
      go_ret
      exact ⟨rfl, bthen hB4 hb5⟩
    · obtain ⟨g1, g2, g3⟩ := g3_yes hok
      have hjp : jp f s = joinL f s := by rw [jp, hok]; rfl
      have hnm : n = m := by have := Hf.out; have := Hs.out; omega
      subst hnm
      have hn2n : n2 = n := by have := Hl2.out; rw [hjp, joinL_len, Hs.out] at this; exact this.symm
      subst hn2n
      have G1 := Lib.hid g1
      have G2 := Lib.hid g2
      have Hjp := Lib.hid hjp
      have hpj : plv (jp f s) = true := by rw [hjp]; exact plv_join g1 g2 g3
      clear g3 hjp
      go_wp2_with fail
      refine (laws_rcInts _ _ _ _ _ _ _ _ _ hJ3 hW3 Hl2.out Hl2.out (by omega) (by omega)).mono ?_
      rintro e v4 ⟨rfl, hb4⟩
      have hB4 := bthen hB3 hb4
      have hF4 := hF3.next hb4
      have hS4 := hS3.next hb4
      have hJ4 := hJ3.next hb4
      clear hF3 hS3 hJ3 hW3
      go_wp2_with fail
      go_loopw [11, 12] (fun o i wr => ∃ (k : Nat) (t : ByteArray), k ≤ n2 ∧ i = .int .i64 k ∧ o = .string t ∧ nb t = (sqW n2 len1).take k ∧ Below v4.heap.size v4 wr) (fun _ i _ => n2 - (intOf i).toNat)
      case atStart => exact ⟨0, ByteArray.empty, Nat.zero_le _, rfl, rfl, rfl, Below.refl _ _⟩
      case round =>
        obtain ⟨k, t, hk, rfl, rfl, ht, hbe⟩ := hrel
        have hts : t.size ≤ 1000 := by rw [← nb_length, ht, List.length_take]; omega
        have Ht := Lib.hid ht
        clear ht
        by_cases hlt : k < n2
        · have hkk : k * k ≤ 100 * 100 := Nat.mul_le_mul (by omega) (by omega)
          have hkk0 : (0 : Int) ≤ (k : Int) * (k : Int) := Int.mul_nonneg (by omega) (by omega)
          have hkk1 : (k : Int) * (k : Int) ≤ 10000 := by have : ((k * k : Nat) : Int) = (k : Int) * (k : Int) := Int.natCast_mul _ _; omega
          have Hx := Lib.hid (take_snoc _ _ _ (sqW_at n2 len1 k hlt))
          go_wp2_with fail
          refine (laws_rcLetterI _ (k * k + len1) wr (by rw [Int.natCast_add, Int.natCast_mul]) (by omega)).mono ?_
          rintro e v5 ⟨r, rfl, hr, hb5⟩
          have hrs : r.size ≤ 1 := by rw [← nb_length, hr]; simp
          have Hr := Lib.hid hr
          clear hr
          go_wp2_with fail
          go_roundw
          case rel => exact ⟨k + 1, _, by omega, by go_num, rfl, by rw [nb_append, Ht.out, Hr.out, Hx.out], bthenB hbe hb5 hbe.size⟩
          case measure => simp [intOf]; omega
        · have hkn : k = n2 := by omega
          have hnbt : nb t = sqW n2 len1 := by rw [Ht.out, hkn, List.take_of_length_le (by rw [sqW_len]; exact Nat.le_refl _)]
          have htl : (nb t).length = f.length := by rw [hnbt, sqW_len, Hf.out]
          have hwt : wv (nb t) = true := by rw [hnbt]; exact wv_sqW _ _ (by omega)
          have hfs : f.length = s.length := by rw [Hf.out, Hs.out]
          have htm : t.size ≤ maxLen := by unfold maxLen; omega
          have o1 : rpOk (nb t) f = true := by unfold rpOk g3; rw [hwt, G1.out, htl]; simp
          have o3 : rpOk (nb t) (jp f s) = true := by unfold rpOk g3; rw [hwt, hpj, htl, Hl2.out, Hf.out]; simp
          have HT := Lib.hid (And.intro htl (And.intro hwt hfs))
          have hB5 := bthen hB4 hbe
          have hF5 := hF4.next hbe
          have hS5 := hS4.next hbe
          have hJ5 := hJ4.next hbe
          clear hF4 hS4 hJ4 hnbt htl hfs hkn
          go_wp2_with fail
          refine (impl_ReadPlaces t _ _ _ _ _ htm hF5 Hf.out (by omega)).mono ?_
          rintro e v6 ⟨x, rfl, hx, hb6⟩
          have hx' : nb x = readL (nb t) f := by rw [hx, rp, o1]; rfl
          have hwx : wv (nb x) = true := by rw [hx']; exact wv_readL HT.out.2.1 G1.out HT.out.1
          have hxl : (nb x).length = s.length := by rw [hx', readL_len]; exact HT.out.2.2
          have hxm : x.size ≤ maxLen := by rw [← nb_length, hxl, Hs.out]; unfold maxLen; omega
          have o2 : rpOk (nb x) s = true := by unfold rpOk g3; rw [hwx, G2.out, hxl]; simp
          have Hx := Lib.hid hx'
          have hB6 := bthen hB5 hb6
          have hS6 := hS5.next hb6
          have hJ6 := hJ5.next hb6
          clear hx hx' hwx hxl hF5 hS5 hJ5
          go_wp2_with fail
          refine (impl_ReadPlaces x _ _ _ _ _ hxm hS6 Hs.out (by omega)).mono ?_
          rintro e v7 ⟨y, rfl, hy, hb7⟩
          have Hy : Hid (nb y = readL (nb x) s) := by show _ = _; rw [hy, rp, o2]; rfl
          have hB7 := bthen hB6 hb7
          have hJ7 := hJ6.next hb7
          clear hy hS6 hJ6
          go_wp2_with fail
          refine (impl_ReadPlaces t _ _ _ _ _ htm hJ7 Hl2.out (by omega)).mono ?_
          rintro e v8 ⟨z, rfl, hz, hb8⟩
          obtain rfl : y = z := nb_inj (by
            rw [Hy.out, Hx.out, hz, rp, o3, if_pos rfl, Hjp.out]
            exact readL_join G1.out G2.out HT.out.1 HT.out.2.2)
          have hB8 := bthen hB7 hb8
          have hJ8 := hJ7.next hb8
          clear hz hJ7
          go_wp2_with fail
          refine (impl_PlacesValid _ _ _ _ _ hJ8 Hl2.out (by omega)).mono ?_
          rintro e v9 ⟨rfl, hb9⟩
          go_wp2_with fail
          go_ret
          exact ⟨rfl, bthen hB8 hb9⟩
end Go.Proofs.Ytengammcadcfeaa
