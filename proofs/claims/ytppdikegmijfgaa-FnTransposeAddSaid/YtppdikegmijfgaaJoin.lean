/- Joined orders and undoing orders: both programs return what the plain functions say. No condition. -/
import Derived.Test.YtppdikegmijfgaaPlaces
set_option linter.unusedVariables false
namespace Go.Proofs.Ytppdikegmijfgaa
open Go.RowKit

def joinL (f s : List Int) : List Int := s.map fun z => f.getD z.toNat 0
def jpOk (f s : List Int) : Bool := g3 (plv f) (plv s) f.length s.length
def jp (f s : List Int) : List Int := if jpOk f s then joinL f s else []
theorem joinL_len (f s : List Int) : (joinL f s).length = s.length := by simp [joinL]
theorem joinL_at {f s : List Int} {k : Nat} {z : Int} {y : Int} (hz : s[k]? = some z) (hy : f[z.toNat]? = some y) : (joinL f s)[k]? = some y := by
  simp [joinL, hz, List.getD_eq_getElem?_getD, hy]

theorem empty_row (w : World) (B : Nat) (hB : B ≤ w.heap.size) : (w.alloc (.cells #[] 3)).ownsRow B 3 1 (.slice (some ⟨w.heap.size, 0, none⟩) 0 0) 0 (icells []) :=
  World.ownsRow_lit w #[] 0 hB (Nat.zero_le _) rfl

end Go.Proofs.Ytppdikegmijfgaa
