/- Words with gaps, and pairs of words, that are drawn. No condition. -/
import Derived.Test.YtchjhngfkngljaaDoorDraw1
import Derived.Deep.RegionWith
set_option linter.unusedVariables false
namespace Go.Proofs.YtchjhngfkngljaaDoor
open Go.RowKit

theorem DrS.more {w : World} {g p q m q' m' : Nat} {e : Ending} {w' : World} (h : DrS w g p q m e w') (hq : q ≤ q') (hm : m ≤ m') : DrS w g p q' m' e w' := by
  obtain ⟨r, p', he, h1, h2, h3⟩ := h
  exact ⟨r, p', he, by omega, by omega, h3⟩
def S1 (c : UInt8) : ByteArray := ⟨#[c]⟩
theorem S1_size (c : UInt8) : (S1 c).size = 1 := rfl

end Go.Proofs.YtchjhngfkngljaaDoor
