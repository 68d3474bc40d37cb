/- A machine that came in is a machine. No condition. -/
import Derived.Test.YtchjhngfkngljaaDoorTele2
import Derived.Lib.SmallJoins
import Derived.SliceStrings
import Derived.OpenShut
import Derived.ShutString
set_option linter.unusedVariables false
namespace Go.Proofs.YtchjhngfkngljaaDoor
open Go.Joins Go.ChangeShapes Go.WideShapes Go.RowKit Go.Deep

section
variable {H : Type} {enc : TypeId × Value → H} {w : World} {base : Nat} {spare : Nat → Bool} {held : Bool}
theorem row_strs {a : Addr} {len cap : Nat} {ss : List ByteArray} (hl : len ≤ ss.length) (hc : ∀ i, i < ss.length → w.cell? (a.add i) = some (.string (ss.getD i ByteArray.empty))) :
    Strs w (some a) (ss.take len) := by
  by_cases h0 : len = 0
  · subst h0; exact .inl rfl
  · obtain ⟨b, off, spot⟩ := a
    have hc0 := hc 0 (by omega)
    have hs : spot = none := by simpa [Addr.add] using World.cell?_spot hc0
    subst hs
    have hadd : ∀ j, (⟨b, off, none⟩ : Addr).add j = ⟨b, off + j, none⟩ := fun j => by unfold Addr.add; split <;> simp_all
    rw [hadd] at hc0
    have hb : b < w.heap.size := block_lt_of_cell hc0
    refine .inr ⟨b, off, rfl, hb, fun k z hk => ?_⟩
    have hkl : k < (ss.take len).length := (List.getElem?_eq_some_iff.1 hk).1
    rw [List.length_take] at hkl
    have h1 := hc k (by omega)
    rw [hadd] at h1
    rw [h1]
    rw [List.getElem?_take_of_lt (by omega)] at hk
    rw [List.getD_eq_getElem?_getD, hk]
    rfl
theorem open_row {fuel : Nat} {v : Value} {x : DataW H × List MemPlace} (h : DataW.trod enc Tryd.prog w base spare held fuel 23 [v] = some x) :
    ∃ A n c ss, v = .slice A n c ∧ Strs w A ss ∧ ss.length = n ∧ n ≤ 9223372036854775807 ∧ smallS ss := by
  rcases open_strings Tryd.underlying23 Tryd.underlying9 (by kernel_rfl) h with ⟨hcs, _⟩ | ⟨a, len, cap, ss, hcs, _, hl, hm, hz, _, hcell, hsm⟩
  · simp at hcs
    exact ⟨none, 0, 0, [], hcs, .inl rfl, rfl, by omega, by intro s hs; cases hs⟩
  · simp at hcs
    have hl2 : len ≤ ss.length := by rw [hz]; split <;> omega
    refine ⟨some a, len, cap, ss.take len, hcs, row_strs (cap := cap) hl2 hcell, by rw [List.length_take]; omega, by unfold maxLen at hm; omega, fun s hs => hsm s (List.mem_of_mem_take hs)⟩
end
end Go.Proofs.YtchjhngfkngljaaDoor
