/- The library's stable sort of at most twelve places by the letters of a key. No condition. -/
import Derived.Test.YtofnknfoblkcfaaPlainK
import Derived.Test.YtofnknfoblkcfaaUndo
import Derived.Test.YtofnknfoblkcfaaConv
import Derived.Deep.QuietTactic
import Derived.BigQuiet
import Derived.BigRegion
set_option linter.unusedVariables false
namespace Go.Proofs.Ytofnknfoblkcfaa
open Go.RowKit

def cfI (x y : Int) : Int := if x < y then -1 else if y < x then 1 else 0
theorem sink_start {S : List Int} {i n : Nat} (hS : S.length = i) (hi : i < n) : S ++ (iota n).drop i = sink S (i : Int) ((iota n).drop (i + 1)) i := by
  unfold sink
  have h := iota_at n i hi
  obtain ⟨hl, he⟩ := List.getElem?_eq_some_iff.1 h
  rw [List.drop_eq_getElem_cons hl, he, List.take_of_length_le (by omega), show List.drop i S = [] from List.drop_eq_nil_of_le (by omega)]
  rfl
theorem Kept.drewN {w wr : World} {lo hi : Nat} (h : Kept w wr lo hi) (q : Nat) : Kept w (wr.drewN q) lo hi := ⟨h.os, h.tape, h.output, h.size, h.block⟩
theorem Kept.setCell {w wr : World} {g : Nat} (h : Kept w wr g (g + 1)) (k : Nat) (u : Value) : Kept w (wr.setCell ⟨g, k, none⟩ u) g (g + 1) :=
  ⟨h.os, h.tape, h.output, by simpa [World.setCell] using h.size, fun i hi' hne => (Below.heap_setCell wr _ _ i (by show i ≠ g; omega)).trans (h.block i hi' hne)⟩
theorem sorted_at {ks : List Nat} {i j : Nat} {S : List Int} (h : sorted ks i S) (hj : j < i) : ∃ x : Nat, S[j]? = some (x : Int) ∧ x < i := by
  have hl := sorted_len h
  obtain ⟨z, hz⟩ := get_some S j (by omega)
  have := h.2.subset (List.mem_of_getElem? hz)
  rw [iota_mem] at this
  exact ⟨z.toNat, by rw [hz]; congr 1; omega, by omega⟩
end Go.Proofs.Ytofnknfoblkcfaa
