/- Reading a word in an order of places: both programs return what the plain function says. No condition. -/
import Derived.Test.YtppdikegmijfgaaPlaces
import Derived.Test.YtppdikegmijfgaaWords
set_option linter.unusedVariables false
namespace Go.Proofs.Ytppdikegmijfgaa
open Go.RowKit

theorem g3_no' {x y : Bool} {n m : Nat} (h : g3 x y n m = false) : x = false ∨ (x = true ∧ y = false) ∨ (x = true ∧ y = true ∧ ((m : Int) != (n : Int)) = true) := by
  rcases g3_no h with h | h | ⟨h1, h2, h3⟩
  · exact .inl h
  · exact .inr (.inl h)
  · exact .inr (.inr ⟨h1, h2, by rw [bne_iff_ne] at h3 ⊢; omega⟩)
/-- The letters of a word in an order of its places. -/
def readL (l : List Nat) (zs : List Int) : List Nat := zs.map fun z => l.getD z.toNat 0
def rpOk (l : List Nat) (zs : List Int) : Bool := g3 (wv l) (plv zs) l.length zs.length
def rp (l : List Nat) (zs : List Int) : List Nat := if rpOk l zs then readL l zs else []
theorem readL_len (l : List Nat) (zs : List Int) : (readL l zs).length = zs.length := by simp [readL]
theorem readL_at {l : List Nat} {zs : List Int} {k z c : Nat} (hz : zs[k]? = some (z : Int)) (hc : l[z]? = some c) : (readL l zs)[k]? = some c := by
  simp [readL, hz, List.getD_eq_getElem?_getD, hc]
theorem readL_lt {l : List Nat} (zs : List Int) (h : ∀ x ∈ l, x < 256) : ∀ x ∈ readL l zs, x < 256 := by
  intro x hx
  simp only [readL, List.mem_map] at hx
  obtain ⟨z, _, rfl⟩ := hx
  rw [List.getD_eq_getElem?_getD]
  cases hc : l[z.toNat]? with
  | none => simp
  | some c => simpa using h c (List.mem_of_getElem? hc)
theorem info_u8 : (Try.prog.info? 5).map (fun i => (i.zero, i.size, i.bytes)) = some (some (.int .u8 0), 1, 1) := by kernel_rfl
theorem make_bytes (n : Nat) (hn : n ≤ 4194304) (w : World) : ∃ w1, (Instr.makeSlice 22 (.int .i64 (n : Int)) (.int .i64 (n : Int))).run Try.prog w = .ok (.slice (some ⟨w.heap.size, 0, none⟩) n n) w1 ∧
    Buf w1 w.heap.size 5 (bcells (List.replicate n 0)) ∧ Below w.heap.size w w1 ∧ w.heap.size < w1.heap.size := by
  obtain ⟨i0, hi, hz0, hz1, hz2⟩ := info_parts info_u8
  have hr := run_make (P := Try.prog) w 22 5 i0 _ Try.underlying22 hi hz0 .i64 .i64 n n (by omega) (by omega) (by rw [hz2]; omega) (by omega)
  rw [hz1] at hr
  simp only [Int.toNat_natCast, Nat.mul_one] at hr
  refine ⟨_, hr, Buf.new w _ _ _ (fun j u hu => ?_) 0 0 (.inl (Nat.le_refl _)), (Below.refl _ _).alloc (Nat.le_refl _) _, by simp⟩
  refine madeOne_at _ _ _ _ ?_
  simpa [bcells] using hu

set_option maxHeartbeats 1000000 in
theorem impl_ReadPlaces_ok (a : ByteArray) (A : Option Addr) (n c : Nat) (zs : List Int) (w : World) (h1 : Ints w A zs) (hn : zs.length = n) (h : rpOk (nb a) zs = true) :
    Calls Try.prog 18 #[.string a, .slice A n c] w (RetSB w (readL (nb a) zs) true) := by
  obtain ⟨ha, hb, hl⟩ := g3_yes h
  have la := wv_len ha
  have hma : a.size ≤ maxLen := by rw [nb_length] at la; unfold maxLen; omega
  have hlen : n = a.size := by rw [← nb_length, ← hn]; exact hl.symm
  subst hlen
  rw [nb_length] at la
  have hnn : ((a.size : Int) != (a.size : Int)) = false := by simp
  have Hn := Lib.hid hn
  have Hs := Lib.hid hb
  have HL : Hid ((readL (nb a) zs).length = (List.replicate a.size 0).length) := by show _ = _; rw [readL_len, hn]; simp
  clear hl hn h
  go_enter Try.func18, Try.ntmps18
  go_wp2_with fail
  refine (impl_WordValid _ _ hma).mono ?_
  rintro e v0 ⟨rfl, rfl⟩
  go_wp2_with fail
  refine (impl_PlacesValid _ _ _ _ _ h1 Hn.out (by omega)).mono ?_
  rintro e v2 ⟨rfl, hB2⟩
  obtain ⟨w1, hmk, hbuf, hbel, hsz⟩ := make_bytes a.size (by omega) v2
  go_wp2_with fail
  go_loopw [29] (fun i wr => ∃ k : Nat, k ≤ a.size ∧ i = .int .i64 k ∧ Buf wr v2.heap.size 5 (bcells (mix (readL (nb a) zs) (List.replicate a.size 0) k)) ∧ Below v2.heap.size v2 wr) (fun i _ => a.size - (intOf i).toNat)
  case atStart => exact ⟨0, Nat.zero_le _, rfl, by rw [mix_zero]; exact hbuf, hbel⟩
  case round =>
    obtain ⟨k, hk, rfl, hbk, hbe⟩ := hrel
    clear hmk hbuf hbel hsz
    have hB3 := bthen hB2 hbe
    by_cases hlt : k < a.size
    · obtain ⟨z, hz⟩ := get_some zs k (by rw [Hn.out]; exact hlt)
      obtain ⟨hz0, hz1⟩ := plv_at Hs.out hz
      rw [Hn.out] at hz1
      obtain ⟨z, rfl⟩ := Int.eq_ofNat_of_zero_le hz0
      have hzn : z < a.size := by omega
      obtain ⟨y, hy⟩ : ∃ y, (nb a)[z]? = some y := ⟨_, nb_get? a z hzn⟩
      have hyk : a[z].toNat = y := by have := nb_get? a z hzn; rw [hy] at this; injection this with this; exact this.symm
      obtain ⟨b, off, rfl, hbl, hc⟩ := (h1.next hB3).at_ hz
      have hfree := hbk.free (j := k) (by rw [bcells_len, mix_len _ _ _ HL.out]; simp; exact hlt)
      obtain ⟨u, hcell⟩ : ∃ u, wr.cell? ⟨v2.heap.size, k, none⟩ = some u := by
        obtain ⟨u, hu⟩ := get_some (bcells (mix (readL (nb a) zs) (List.replicate a.size 0) k)) k (by rw [bcells_len, mix_len _ _ _ HL.out]; simp; exact hlt)
        exact ⟨u, hbk.cell hu⟩
      have Hj := Lib.hid (readL_at hz hy)
      have H1 := Lib.hid h1
      clear hz hy h1
      go_wp2
      go_roundw
      case rel => exact ⟨k + 1, by omega, by go_num, hbk.put HL.out Hj.out rfl, hbe.setCell (Nat.le_refl _) _⟩
      case measure => simp [intOf]; omega
    · have hkn : k = a.size := by omega
      rw [hkn, mix_end HL.out (by rw [readL_len, Hn.out])] at hbk
      obtain ⟨r, hr, hrun⟩ := of_bytes wr v2.heap.size a.size a.size (readL (nb a) zs) hbk (by rw [readL_len, Hn.out]) (readL_lt zs (fun x hx => nb_lt x hx))
      have Hr := Lib.hid hr
      clear hr
      go_wp2
      go_ret2
      exact ⟨r, rfl, Hr.out, hB3⟩
theorem impl_ReadPlaces_no (a : ByteArray) (A : Option Addr) (n c : Nat) (zs : List Int) (w : World) (hma : a.size ≤ maxLen) (h1 : Ints w A zs) (hn : zs.length = n) (hbn : n ≤ 9223372036854775807) (h : rpOk (nb a) zs = false) :
    Calls Try.prog 18 #[.string a, .slice A n c] w (RetSB w [] false) := by
  unfold rpOk at h
  rw [hn, nb_length] at h
  have hma' := hma
  unfold maxLen at hma'
  rcases g3_no h with g1 | ⟨g1, g2⟩ | ⟨g1, g2, g3⟩
  · clear h
    have Hn := Lib.hid hn
    clear hn
    go_enter Try.func18, Try.ntmps18
    go_wp2_with fail
    refine (impl_WordValid _ _ hma).mono ?_
    rintro e v0 ⟨rfl, rfl⟩
    go_wp2_with fail
    go_ret2
    exact ⟨ByteArray.empty, rfl, rfl, Below.refl _ _⟩
  all_goals
    clear h
    have Hn := Lib.hid hn
    clear hn
    go_enter Try.func18, Try.ntmps18
    go_wp2_with fail
    refine (impl_WordValid _ _ hma).mono ?_
    rintro e v0 ⟨rfl, rfl⟩
    go_wp2_with fail
    refine (impl_PlacesValid _ _ _ _ _ h1 Hn.out hbn).mono ?_
    rintro e v2 ⟨rfl, hb2⟩
    go_wp2_with fail
    go_ret2
    exact ⟨ByteArray.empty, rfl, rfl, hb2⟩
theorem impl_ReadPlaces (a : ByteArray) (A : Option Addr) (n c : Nat) (zs : List Int) (w : World) (hma : a.size ≤ maxLen) (h1 : Ints w A zs) (hn : zs.length = n) (hbn : n ≤ 9223372036854775807) :
    Calls Try.prog 18 #[.string a, .slice A n c] w (RetSB w (rp (nb a) zs) (rpOk (nb a) zs)) := by
  unfold rp
  cases h : rpOk (nb a) zs
  · exact impl_ReadPlaces_no a A n c zs w hma h1 hn hbn h
  · exact impl_ReadPlaces_ok a A n c zs w h1 hn h

set_option maxHeartbeats 1000000 in
theorem spec_l17Read (a : ByteArray) (A : Option Addr) (n c : Nat) (zs : List Int) (w : World) (h1 : Ints w A zs) (hn : zs.length = n) (hz : ∀ (k : Nat) (z : Int), zs[k]? = some z → 0 ≤ z ∧ z < a.size) (la : a.size ≤ 1000) (ln : n ≤ 1000) :
    Calls Try.prog 22 #[.string a, .slice A n c] w (RetS w (readL (nb a) zs)) := by
  have Hn := Lib.hid hn
  have Hz := Lib.hid hz
  clear hn hz
  go_enter Try.func22, Try.ntmps22
  go_wp2
  go_loopw [5, 6] (fun o i wr => ∃ (k : Nat) (s : ByteArray), k ≤ n ∧ i = .int .i64 k ∧ o = .string s ∧ nb s = (readL (nb a) zs).take k ∧ Below w.heap.size w wr) (fun _ i _ => n - (intOf i).toNat)
  case atStart => exact ⟨0, ByteArray.empty, Nat.zero_le _, rfl, rfl, rfl, Below.refl _ _⟩
  case round =>
    obtain ⟨k, s, hk, rfl, rfl, hs, hbe⟩ := hrel
    have hss : s.size ≤ 1000 := by rw [← nb_length, hs, List.length_take]; omega
    have Hs := Lib.hid hs
    clear hs
    by_cases hlt : k < n
    · obtain ⟨z, hz⟩ := get_some zs k (by rw [Hn.out]; exact hlt)
      obtain ⟨hz0, hz1⟩ := Hz.out k z hz
      obtain ⟨z, rfl⟩ := Int.eq_ofNat_of_zero_le hz0
      have hzn : z < a.size := by omega
      obtain ⟨b, off, rfl, hbl, hc⟩ := (h1.next hbe).at_ hz
      have Hone := Lib.hid (nb_one a z hzn)
      have hone' : (a.extract z (z + 1)).size ≤ 1 := by rw [← nb_length, nb_one a z hzn]; simp
      have Hx := Lib.hid (take_snoc _ _ _ (readL_at hz (nb_get? a z hzn)))
      have H1 := Lib.hid h1
      clear hz h1
      go_wp2_with fail
      have k1 : IntKind.i64.wrap ((z : Int) + 1) = (z : Int) + 1 := IntWalk.i64_in _ (by omega)
      have k2 : ((z : Int) + 1).toNat = z + 1 := by omega
      have k3 : (0 : Int) ≤ (z : Int) + 1 := by omega
      have k4 : ((z : Int) + 1) ≤ (a.size : Int) := by omega
      go_quiet (fail)
      clear k1 k2 k3 k4
      go_wp2
      go_roundw
      case rel => exact ⟨k + 1, _, by omega, by go_num, rfl, by rw [nb_append, Hs.out, Hone.out, Hx.out], bel_drewN hbe _⟩
      case measure => simp [intOf]; omega
    · go_wp2
      go_ret
      exact ⟨s, rfl, by rw [Hs.out, List.take_of_length_le (by rw [readL_len, Hn.out]; omega)], hbe⟩
end Go.Proofs.Ytppdikegmijfgaa
