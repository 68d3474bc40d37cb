/- The tapes of the second wheels: both programs return what the plain functions say. No condition. -/
import Derived.Test.YtchjhngfkngljaaDoorTele3
set_option linter.unusedVariables false
namespace Go.Proofs.YtchjhngfkngljaaDoor
open Go.RowKit

theorem own_next {w w' : World} {B n : Nat} {v : Value} {xs : List Value} (h : w.ownsRow B 5 1 v n xs) (hb : Below w.heap.size w w') : w'.ownsRow B 5 1 v n xs := by
  obtain ⟨hl, h⟩ := h
  refine ⟨hl, ?_⟩
  rcases h with h | ⟨g, cap, cur, hv, hB, hh, r⟩
  · exact .inl h
  · have hlt : g < w.heap.size := by
      rcases Nat.lt_or_ge g w.heap.size with h1 | h1
      · exact h1
      · rw [Array.getElem?_eq_none h1] at hh; cases hh
    exact .inr ⟨g, cap, cur, hv, hB, (hb.block g hlt).trans hh, r⟩
end Go.Proofs.YtchjhngfkngljaaDoor
