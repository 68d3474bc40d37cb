/- Two machines that are compared; the text of a machine is parsed back. No condition. -/
import Derived.Test.YtchjhngfkngljaaDoorDrawF
import Derived.Test.YtchjhngfkngljaaDoorParseI
import Derived.Test.YtchjhngfkngljaaDoorParseS
import Derived.Test.YtchjhngfkngljaaDoorLaws16b
set_option linter.unusedVariables false
namespace Go.Proofs.YtchjhngfkngljaaDoor
open Go.RowKit

set_option maxHeartbeats 400000 in
theorem laws_rcTexts (A B : Option Addr) (n m c d : Nat) (xs ys : List ByteArray) (w : World) (h1 : Strs w A xs) (h2 : Strs w B ys) (hn : xs.length = n) (hm : ys.length = m) (hb : n ≤ 9223372036854775807) (heq : xs = ys) :
    Calls Tryd.prog 22 #[.slice A n c, .slice B m d] w fun e w' => e = .returned (.bool true) ∧ Below w.heap.size w w' := by
  subst heq
  obtain rfl : n = m := by omega
  have Hn := Lib.hid hn
  clear hn hm
  go_enter Tryd.func22, Tryd.ntmps22
  go_wp2
  go_loopw [5] (fun i wr => ∃ k : Nat, k ≤ n ∧ i = .int .i64 k ∧ Below w.heap.size w wr) (fun i _ => n - (intOf i).toNat)
  case atStart => exact ⟨0, Nat.zero_le _, rfl, Below.refl _ _⟩
  case round =>
    obtain ⟨k, hk, rfl, hbe⟩ := hrel
    by_cases hlt : k < n
    · obtain ⟨z, hz⟩ := sget xs k (by rw [Hn.out]; exact hlt)
      obtain ⟨b, off, rfl, hbl, hc⟩ := (h1.next hbe).at_ hz
      obtain ⟨b2, off2, rfl, hbl2, hc2⟩ := (h2.next hbe).at_ hz
      have H1 := Lib.hid h1
      have H2 := Lib.hid h2
      clear hz h1 h2
      go_wp2_with fail
      go_quiet (fail)
      go_wp2
      go_roundw
      case rel => exact ⟨k + 1, by omega, by go_num, bel_drewN hbe _⟩
      case measure => simp [intOf]; omega
    · go_wp2
      go_ret
      exact ⟨rfl, hbe⟩
set_option maxHeartbeats 400000 in
theorem laws_rcTeles (A B A' B' : Option Addr) (n c m d c' d' : Nat) (chi psi : List ByteArray) (mo : ByteArray) (w : World) (h : Mach w A n B m chi psi mo) (h' : Mach w A' n B' m chi psi mo) :
    Calls Tryd.prog 10 #[.agg #[.slice A n c, .slice B m d, .string mo], .agg #[.slice A' n c', .slice B' m d', .string mo]] w fun e w' => e = .returned (.bool true) ∧ Below w.heap.size w w' := by
  have hb := box2_bel w A n c B m d A' n c' B' m d' mo
  have H := Lib.hid (h.next hb)
  have H' := Lib.hid (h'.next hb)
  have hbn := h.bn
  have hbm := h.bm
  clear h h'
  have hx := (tbox w A n c B m d mo).alloc (.cells #[.slice A' n c', .slice B' m d', .string mo] 25)
  have hy := tbox (w.alloc (.cells #[.slice A n c, .slice B m d, .string mo] 25)) A' n c' B' m d' mo
  rw [size_alloc] at hy
  go_enter Tryd.func10, Tryd.ntmps10
  go_wp2_with fail
  refine (laws_rcTexts _ _ _ _ _ _ _ _ _ H.out.sc H'.out.sc H.out.lc H'.out.lc hbn rfl).mono ?_
  rintro e v1 ⟨rfl, hb1⟩
  have hx1 := hx.next hb1
  have hy1 := hy.next hb1
  have a1 : v1.cell? ⟨w.heap.size, 1, none⟩ = some (.slice B m d) := hx1.cell (j := 1) rfl
  have b1 : v1.cell? ⟨w.heap.size + 1, 1, none⟩ = some (.slice B' m d') := hy1.cell (j := 1) rfl
  have HX := Lib.hid (And.intro hx1 hy1)
  clear hx hy hx1 hy1
  go_wp2_with fail
  refine (laws_rcTexts _ _ _ _ _ _ _ _ _ (H.out.sp.next hb1) (H'.out.sp.next hb1) H.out.lp H'.out.lp hbm rfl).mono ?_
  rintro e v2 ⟨rfl, hb2⟩
  have a2 : v2.cell? ⟨w.heap.size, 2, none⟩ = some (.string mo) := (HX.out.1.next hb2).cell (j := 2) rfl
  have b2 : v2.cell? ⟨w.heap.size + 1, 2, none⟩ = some (.string mo) := (HX.out.2.next hb2).cell (j := 2) rfl
  clear a1 b1
  go_wp2_with fail
  go_ret
  exact ⟨rfl, bthen (bthen hb hb1) hb2⟩
theorem wheel_ne {l : List Nat} (h : wheel l = true) {c : Nat} (hc : c < 48) : ∀ x ∈ l, x ≠ c := by
  intro x hx
  obtain ⟨k, hk, rfl⟩ := List.mem_iff_getElem.1 hx
  have := wheel_at h (List.getElem?_eq_getElem hk)
  omega
theorem j3_cut {ss : List ByteArray} (h : wheels3 ss = true) : cutK 32 (j3 ss) = ss.map nb := by
  obtain ⟨x, y, z, rfl, hx, hy, hz⟩ := wheels3_yes h
  show cutK 32 (nb x ++ 32 :: (nb y ++ 32 :: nb z)) = _
  rw [cut_app _ (wheel_ne hx (by decide)), cut_app _ (wheel_ne hy (by decide)), cut_piece (wheel_ne hz (by decide))]
  rfl
theorem j3_ne {ss : List ByteArray} (h : wheels3 ss = true) : ∀ x ∈ j3 ss, x ≠ 47 := by
  obtain ⟨a, b, c, rfl, ha, hb, hc⟩ := wheels3_yes h
  intro x hx
  simp only [j3, List.mem_append, List.mem_cons] at hx
  rcases hx with hx | hx | hx | hx | hx
  · exact wheel_ne ha (by decide) x hx
  · omega
  · exact wheel_ne hb (by decide) x hx
  · omega
  · exact wheel_ne hc (by decide) x hx
/-- Cut behind join. -/
theorem pt_ft {chi psi : List ByteArray} {mo : ByteArray} (h : tvld chi psi mo = true) : ptOk (ftL chi psi mo) = true ∧ PtV (ftL chi psi mo) chi psi mo := by
  obtain ⟨h1, h2, h3⟩ := tvld_yes h
  have e : cutK 47 (ftL chi psi mo) = [j3 chi, j3 psi, nb mo] := by
    rw [ftL, h, if_pos rfl, cut_app _ (j3_ne h1), cut_app _ (j3_ne h2), cut_piece (wheel_ne h3 (by decide))]
  have ok : ptOk (ftL chi psi mo) = true := by
    unfold ptOk
    rw [e]
    show (wN (cutK 32 (j3 chi)) && wN (cutK 32 (j3 psi)) && wheel (nb mo)) = true
    rw [j3_cut h1, j3_cut h2, wN_map, wN_map, h1, h2, h3]
    rfl
  exact ⟨ok, .inl ⟨ok, j3 chi, j3 psi, e, (j3_cut h1).symm, (j3_cut h2).symm⟩⟩
/-- What is parsed is written as the text. -/
theorem ft_back {l : List Nat} {chi psi : List ByteArray} {mo : ByteArray} (h : PtV l chi psi mo) (hk : ptOk l = true) : ftL chi psi mo = l := by
  have hv := h.valid hk
  rcases h with ⟨_, a, b, h1, h2, h3⟩ | ⟨h0, _⟩
  · obtain ⟨k1, k2, _⟩ := tvld_yes hv
    have e1 : j3 chi = a := by
      obtain ⟨x, y, z, rfl, _⟩ := wheels3_yes k1
      rw [← join_cut 32 a, ← h2]
      rfl
    have e2 : j3 psi = b := by
      obtain ⟨x, y, z, rfl, _⟩ := wheels3_yes k2
      rw [← join_cut 32 b, ← h3]
      rfl
    rw [ftL, hv, if_pos rfl, e1, e2, ← join_cut 47 l, h1]
    rfl
  · rw [hk] at h0; cases h0
end Go.Proofs.YtchjhngfkngljaaDoor
