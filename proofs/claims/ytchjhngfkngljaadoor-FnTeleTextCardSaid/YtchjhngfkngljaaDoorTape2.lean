/- Sums and changes of tapes: both programs return what the plain ones say. No condition. -/
import Derived.Test.YtchjhngfkngljaaDoorTape
set_option linter.unusedVariables false
namespace Go.Proofs.YtchjhngfkngljaaDoor
open Go.RowKit

theorem xt_bds {v w : List Nat} (h : xtOk v w = true) : ∀ (k c d : Nat), v[k]? = some c → w[k]? = some d → 97 ≤ c ∧ c ≤ 104 ∧ 97 ≤ d ∧ d ≤ 104 := by
  obtain ⟨h1, h2, _⟩ := g3_yes h
  intro k c d hc hd
  obtain ⟨a1, a2⟩ := tv_at h1 hc
  obtain ⟨b1, b2⟩ := tv_at h2 hd
  exact ⟨a1, a2, b1, b2⟩
theorem toList_emptyT {x : ByteArray} (h : x.size = 0) : x.toList.isEmpty = true := by
  rw [ByteArray.toList_eq, List.isEmpty_iff]
  exact List.eq_nil_of_length_eq_zero (by rw [Array.length_toList]; exact h)
theorem toList_someT {x : ByteArray} (h : ¬ x.size = 0) : x.toList.isEmpty = false := by
  rw [ByteArray.toList_eq, ← Bool.not_eq_true, List.isEmpty_iff]
  intro e
  have := congrArg List.length e
  rw [Array.length_toList] at this
  exact h this
theorem xorL_len {v w : List Nat} (h : v.length = w.length) : (xorL v w).length = v.length := by simp [xorL]; omega
theorem xor_mod {c d : Nat} (hc1 : 97 ≤ c) (hc : c ≤ 104) (hd1 : 97 ≤ d) (hd : d ≤ 104) : [(97 + bits .xor .i64 ((c : Int) - 97) ((d : Int) - 97) % 10).toNat] = [xor1 c d] := by
  have := xor1_int hc1 hc hd1 hd
  obtain ⟨h1, h2⟩ := xor1_bd hc1 hc hd1 hd
  rw [this]
  congr 1
  omega
theorem deltaL_len (l : List Nat) : (deltaL l).length = l.length - 1 := by simp [deltaL, xorL]
theorem deltaL_at {l : List Nat} {k c d : Nat} (hc : l[k]? = some c) (hd : l[k + 1]? = some d) : (deltaL l)[k]? = some (xor1 c d) := by
  refine zipWith_at (f := xor1) ?_ ?_
  · have : k + 1 < l.length := (List.getElem?_eq_some_iff.1 hd).1
    rw [List.getElem?_take_of_lt (by omega)]; exact hc
  · rw [List.getElem?_drop, Nat.add_comm]; exact hd
end Go.Proofs.YtchjhngfkngljaaDoor
