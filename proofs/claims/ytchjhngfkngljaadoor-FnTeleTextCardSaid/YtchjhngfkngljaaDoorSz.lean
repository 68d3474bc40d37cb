/- The copies, the sizes and the comparisons of machines. No condition. -/
import Derived.Test.YtchjhngfkngljaaDoorTele5
set_option linter.unusedVariables false
namespace Go.Proofs.YtchjhngfkngljaaDoor
open Go.RowKit

def SzR (ss : List ByteArray) (L : Nat) (w : World) (e : Ending) (w' : World) : Prop :=
  w = w' ∧ (e = .returned (.int .i64 (-1)) ∨ ∃ r : Nat, e = .returned (.int .i64 (r : Int)) ∧ r ≤ L ∧ ss.length ≤ L)
def SzT (n m L : Nat) (w : World) (e : Ending) (w' : World) : Prop :=
  Below w.heap.size w w' ∧ (e = .returned (.int .i64 (-1)) ∨ ∃ r : Nat, e = .returned (.int .i64 (r : Int)) ∧ n ≤ L ∧ m ≤ L)
abbrev zcells : List Value := [.slice none 0 0, .slice none 0 0, .string ⟨#[]⟩]
theorem size_alloc (w : World) (o : Obj) : (w.alloc o).heap.size = w.heap.size + 1 := by simp
theorem zbox (w : World) : Buf (w.alloc (.cells #[.slice none 0 0, .slice none 0 0, .string ⟨#[]⟩] 25)) w.heap.size 25 zcells :=
  Buf.new w _ _ _ (fun j u hu => by simpa [zcells] using hu) 0 0 (.inl (Nat.le_refl _))
end Go.Proofs.YtchjhngfkngljaaDoor
