/- A word with some letters taken away is as long. No condition. -/
import Derived.Test.YtilnffidckdadaaConv
import Derived.OpenShut
set_option linter.unusedVariables false
namespace Go.Proofs.Ytilnffidckdadaa
open Go.RowKit

/-- Every cell of a slice of bytes that came in holds a byte. -/
def URow (w : World) (A : Option Addr) (n : Nat) : Prop :=
  n = 0 ∨ ∃ b off, A = some ⟨b, off, none⟩ ∧ b < w.heap.size ∧ ∀ j, j < n → ∃ z : Int, w.cell? ⟨b, off + j, none⟩ = some (.int .u8 z) ∧ 0 ≤ z ∧ z ≤ 255
theorem URow.of_row {w : World} {a : Option Addr} {len cap : Nat} {zs : List Int} (h : IsRow .u8 w a len cap zs) : URow w a len := by
  rcases h with ⟨rfl, rfl, rfl, rfl⟩ | ⟨x, rfl, hl, hm, hz, hc, hw⟩
  · exact .inl rfl
  · by_cases h0 : len = 0
    · exact .inl h0
    · obtain ⟨b, off, spot⟩ := x
      have hc0 := hc 0 (by omega)
      have hs : spot = none := by simpa [Addr.add] using World.cell?_spot hc0
      subst hs
      have hadd : ∀ j, (⟨b, off, none⟩ : Addr).add j = ⟨b, off + j, none⟩ := fun j => by unfold Addr.add; split <;> simp_all
      rw [hadd] at hc0
      refine .inr ⟨b, off, rfl, block_lt_of_cell hc0, fun j hj => ?_⟩
      have := hc j (by omega)
      rw [hadd] at this
      refine ⟨zs.getD j 0, this, ?_⟩
      have hmem : zs.getD j 0 ∈ zs := by
        rw [List.getD_eq_getElem?_getD, List.getElem?_eq_getElem (by omega : j < zs.length)]
        exact List.getElem_mem _
      exact bounds_u8 (hw _ hmem)
theorem URow.next {w w' : World} {A : Option Addr} {n : Nat} (h : URow w A n) (hb : Below w.heap.size w w') : URow w' A n := by
  rcases h with h | ⟨b, off, hA, hlt, hc⟩
  · exact .inl h
  · refine .inr ⟨b, off, hA, Nat.lt_of_lt_of_le hlt hb.size, fun j hj => ?_⟩
    obtain ⟨z, hz, h0, h1⟩ := hc j hj
    exact ⟨z, by rw [hb.cell (p := ⟨b, off + j, none⟩) hlt]; exact hz, h0, h1⟩
theorem URow.byte {w : World} {A : Option Addr} {n k : Nat} (h : URow w A n) (hk : k < n) : ∃ b off z, A = some ⟨b, off, none⟩ ∧ w.cell? ⟨b, off + k, none⟩ = some (.int .u8 z) ∧ 0 ≤ z ∧ z ≤ 255 := by
  rcases h with h | ⟨b, off, hA, hlt, hc⟩
  · omega
  · obtain ⟨z, hz, h0, h1⟩ := hc k hk
    exact ⟨b, off, z, hA, hz, h0, h1⟩

set_option maxHeartbeats 1000000 in
theorem laws_rcPartly (a : ByteArray) (A : Option Addr) (n c : Nat) (w : World) (h : URow w A n) (hn : n ≤ 2000000) (ha : a.size ≤ 1000) :
    Calls Try.prog 35 #[.string a, .slice A n c] w fun e w' => ∃ r, e = .returned (.string r) ∧ r.size = a.size ∧ w = w' := by
  go_enter Try.func35, Try.ntmps35
  go_wp2
  go_loop [5, 6] (fun o i => ∃ (k : Nat) (s : ByteArray), k ≤ a.size ∧ i = .int .i64 k ∧ o = .string s ∧ s.size = k) (fun _ i => a.size - (intOf i).toNat)
  case atStart => exact ⟨0, ByteArray.empty, Nat.zero_le _, rfl, rfl, rfl⟩
  case round =>
    obtain ⟨k, s, hk, rfl, rfl, hs⟩ := hrel
    have hss : s.size ≤ 1000 := by omega
    have Hs := Lib.hid hs
    clear hs
    by_cases hlt : k < a.size
    · have hone : (a.extract k (k + 1)).size = 1 := by rw [← nb_length, nb_one a k hlt]; rfl
      have hone' : (a.extract k (k + 1)).size ≤ 1 := by omega
      have Hone := Lib.hid hone
      clear hone
      by_cases h0 : n = 0
      · subst h0
        go_wp2
        go_round
        case rel => exact ⟨k + 1, _, by omega, by go_num, rfl, by rw [ByteArray.size_append, Hs.out, Hone.out]⟩
        case measure => simp [intOf]; omega
      · have hmod : k % n < n := Nat.mod_lt _ (by omega)
        obtain ⟨b, off, z, rfl, hz, hz0, hz1⟩ := h.byte hmod
        have hn0 : (0 : Int) < (n : Int) := by omega
        have H := Lib.hid h
        clear h h0
        cases hq : (z % 3 == 0)
        · go_wp2
          go_round
          case rel => exact ⟨k + 1, _, by omega, by go_num, rfl, by rw [ByteArray.size_append, Hs.out, Hone.out]⟩
          case measure => simp [intOf]; omega
        · go_wp2
          go_round
          case rel => exact ⟨k + 1, _, by omega, by go_num, rfl, by rw [ByteArray.size_append, Hs.out]; rfl⟩
          case measure => simp [intOf]; omega
    · go_wp2
      go_ret
      have hkL : k = a.size := by omega
      exact ⟨s, rfl, by rw [Hs.out, hkL], rfl⟩
end Go.Proofs.Ytilnffidckdadaa
