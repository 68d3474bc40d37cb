/- Joined orders and undoing orders: both programs return what the plain functions say. No condition. -/
import Derived.Test.YtofnknfoblkcfaaPlaces
set_option linter.unusedVariables false
namespace Go.Proofs.Ytofnknfoblkcfaa
open Go.RowKit

def joinL (f s : List Int) : List Int := s.map fun z => f.getD z.toNat 0
def jpOk (f s : List Int) : Bool := g3 (plv f) (plv s) f.length s.length
def jp (f s : List Int) : List Int := if jpOk f s then joinL f s else []
theorem joinL_len (f s : List Int) : (joinL f s).length = s.length := by simp [joinL]
theorem joinL_at {f s : List Int} {k : Nat} {z : Int} {y : Int} (hz : s[k]? = some z) (hy : f[z.toNat]? = some y) : (joinL f s)[k]? = some y := by
  simp [joinL, hz, List.getD_eq_getElem?_getD, hy]

set_option maxHeartbeats 1000000 in
theorem impl_JoinPlaces_ok (A B : Option Addr) (n m c d : Nat) (f s : List Int) (w : World) (h1 : Ints w A f) (h2 : Ints w B s) (hn : f.length = n) (hm : s.length = m) (h : jpOk f s = true) :
    Calls Try.prog 14 #[.slice A n c, .slice B m d] w (RetIB w (joinL f s) true) := by
  obtain ⟨ha, hb, hl⟩ := g3_yes h
  have la := plv_len ha
  obtain rfl : n = m := by omega
  have ln : n ≤ 200 := by omega
  have hnn : ((n : Int) != (n : Int)) = false := by simp
  have Hn := Lib.hid hn
  have Hm := Lib.hid hm
  have Hs := Lib.hid hb
  have HL : Hid ((joinL f s).length = (List.replicate n (0 : Int)).length) := by show (joinL f s).length = (List.replicate n (0 : Int)).length; rw [joinL_len, hm]; simp
  clear hl hn hm h la
  go_enter Try.func14, Try.ntmps14
  go_wp2_with fail
  refine (impl_PlacesValid _ _ _ _ _ h1 Hn.out (by omega)).mono ?_
  rintro e v1 ⟨rfl, hb1⟩
  go_wp2_with fail
  refine (impl_PlacesValid _ _ _ _ _ (h2.next hb1) Hm.out (by omega)).mono ?_
  rintro e v2 ⟨rfl, hb2⟩
  obtain ⟨w1, hmk, hbuf, hbel, hsz⟩ := make_ints n (by omega) v2
  have hB2 := bthen hb1 hb2
  go_wp2_with fail
  go_loopw [29] (fun i wr => ∃ k : Nat, k ≤ n ∧ i = .int .i64 k ∧ Buf wr v2.heap.size 3 (icells (mix (joinL f s) (List.replicate n 0) k)) ∧ Below v2.heap.size v2 wr) (fun i _ => n - (intOf i).toNat)
  case atStart => exact ⟨0, Nat.zero_le _, rfl, by rw [mix_zero]; exact hbuf, hbel⟩
  case round =>
    obtain ⟨k, hk, rfl, hbk, hbe⟩ := hrel
    clear hmk hbuf hbel hsz
    have hB3 := bthen hB2 hbe
    by_cases hlt : k < n
    · obtain ⟨z, hz⟩ := get_some s k (by rw [Hm.out]; exact hlt)
      obtain ⟨hz0, hz1⟩ := plv_at Hs.out hz
      rw [Hm.out] at hz1
      obtain ⟨z, rfl⟩ := Int.eq_ofNat_of_zero_le hz0
      have hzn : z < n := by omega
      obtain ⟨y, hy⟩ := get_some f z (by rw [Hn.out]; exact hzn)
      obtain ⟨b, off, rfl, hbl, hc⟩ := (h2.next hB3).at_ hz
      obtain ⟨b2, off2, rfl, hbl2, hc2⟩ := (h1.next hB3).at_ hy
      have hfree := hbk.free (j := k) (by rw [icells_len, mix_len _ _ _ HL.out]; simp; exact hlt)
      obtain ⟨u, hcell⟩ : ∃ u, wr.cell? ⟨v2.heap.size, k, none⟩ = some u := by
        obtain ⟨u, hu⟩ := get_some (icells (mix (joinL f s) (List.replicate n 0) k)) k (by rw [icells_len, mix_len _ _ _ HL.out]; simp; exact hlt)
        exact ⟨u, hbk.cell hu⟩
      have Hj := Lib.hid (joinL_at hz (by simpa using hy : f[((z : Int)).toNat]? = some y))
      have H1 := Lib.hid h1
      have H2 := Lib.hid h2
      clear hz hy h1 h2
      go_wp2
      go_roundw
      case rel => exact ⟨k + 1, by omega, by go_num, hbk.iput HL.out Hj.out, hbe.setCell (Nat.le_refl _) _⟩
      case measure => simp [intOf]; omega
    · have hkn : k = n := by omega
      rw [hkn, mix_end HL.out (by rw [joinL_len, Hm.out])] at hbk
      go_wp2
      go_ret2
      exact ⟨_, _, _, rfl, by rw [joinL_len, Hm.out], .inr ⟨_, rfl, hB2.size, hbk⟩, hB3⟩
theorem impl_JoinPlaces_no (A B : Option Addr) (n m c d : Nat) (f s : List Int) (w : World) (h1 : Ints w A f) (h2 : Ints w B s) (hn : f.length = n) (hm : s.length = m) (hbn : n ≤ 9223372036854775807) (hbm : m ≤ 9223372036854775807) (h : jpOk f s = false) :
    Calls Try.prog 14 #[.slice A n c, .slice B m d] w (RetIB w [] false) := by
  unfold jpOk at h
  rw [hn, hm] at h
  rcases g3_no h with g1 | ⟨g1, g2⟩ | ⟨g1, g2, g3⟩
  · clear h
    have Hn := Lib.hid hn
    clear hn hm
    go_enter Try.func14, Try.ntmps14
    go_wp2_with fail
    refine (impl_PlacesValid _ _ _ _ _ h1 Hn.out hbn).mono ?_
    rintro e v1 ⟨rfl, hb1⟩
    go_wp2_with fail
    go_ret2
    exact ⟨_, _, _, rfl, rfl, .inl rfl, hb1⟩
  all_goals
    clear h
    have Hn := Lib.hid hn
    have Hm := Lib.hid hm
    clear hn hm
    go_enter Try.func14, Try.ntmps14
    go_wp2_with fail
    refine (impl_PlacesValid _ _ _ _ _ h1 Hn.out hbn).mono ?_
    rintro e v1 ⟨rfl, hb1⟩
    go_wp2_with fail
    refine (impl_PlacesValid _ _ _ _ _ (h2.next hb1) Hm.out hbm).mono ?_
    rintro e v2 ⟨rfl, hb2⟩
    go_wp2_with fail
    go_ret2
    exact ⟨_, _, _, rfl, rfl, .inl rfl, bthen hb1 hb2⟩
theorem impl_JoinPlaces (A B : Option Addr) (n m c d : Nat) (f s : List Int) (w : World) (h1 : Ints w A f) (h2 : Ints w B s) (hn : f.length = n) (hm : s.length = m) (hbn : n ≤ 9223372036854775807) (hbm : m ≤ 9223372036854775807) :
    Calls Try.prog 14 #[.slice A n c, .slice B m d] w (RetIB w (jp f s) (jpOk f s)) := by
  unfold jp
  cases h : jpOk f s
  · exact impl_JoinPlaces_no A B n m c d f s w h1 h2 hn hm hbn hbm h
  · exact impl_JoinPlaces_ok A B n m c d f s w h1 h2 hn hm h

theorem empty_row (w : World) (B : Nat) (hB : B ≤ w.heap.size) : (w.alloc (.cells #[] 3)).ownsRow B 3 1 (.slice (some ⟨w.heap.size, 0, none⟩) 0 0) 0 (icells []) :=
  World.ownsRow_lit w #[] 0 hB (Nat.zero_le _) rfl

end Go.Proofs.Ytofnknfoblkcfaa
