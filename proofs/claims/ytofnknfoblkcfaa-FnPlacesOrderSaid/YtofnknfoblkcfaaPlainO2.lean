/- Plain laws: an order that is repeated; the undoing order. No condition. -/
import Derived.Test.YtofnknfoblkcfaaPlainO
import Derived.Test.YtofnknfoblkcfaaInts
set_option linter.unusedVariables false
namespace Go.Proofs.Ytofnknfoblkcfaa

theorem po_zero {zs : List Int} (h : po zs ≠ 0) : plv zs = true ∧ zs.length ≤ 44 := by
  unfold po at h
  by_cases hc : (plv zs && decide (zs.length ≤ 44)) = true
  · simpa using hc
  · rw [if_neg hc] at h; exact absurd rfl h
theorem po_pos {zs : List Int} (h : plv zs = true) (hl : zs.length ≤ 44) : 1 ≤ po zs := by rw [po_yes h hl]; exact lcmK_pos _
theorem po_le (zs : List Int) : po zs ≤ 17592186044416 := by
  by_cases h : po zs = 0
  · omega
  · obtain ⟨h1, h2⟩ := po_zero h
    rw [po_yes h1 h2]
    exact lcmK_le h1 (Nat.le_refl _) h2
/-- The order, repeated k times. -/
def pw (zs : List Int) (k : Nat) : List Int := (List.range zs.length).map fun i => ((itr zs k i : Nat) : Int)
theorem pw_len (zs : List Int) (k : Nat) : (pw zs k).length = zs.length := by simp [pw]
theorem pw_at {zs : List Int} {k i : Nat} (hi : i < zs.length) : (pw zs k)[i]? = some ((itr zs k i : Nat) : Int) := by simp [pw, hi]
theorem pw_zero (zs : List Int) : pw zs 0 = iota zs.length := rfl
theorem pw_succ {zs : List Int} (h : plv zs = true) (k : Nat) : joinL (pw zs k) zs = pw zs (k + 1) := by
  apply List.ext_getElem?
  intro i
  rcases Nat.lt_or_ge i zs.length with hi | hi
  · obtain ⟨h1, h2⟩ := nx_at h hi
    rw [pw_at hi]
    refine (joinL_at h1 (y := ((itr zs k (nx zs i) : Nat) : Int)) (by rw [Int.toNat_natCast]; exact pw_at h2)).trans ?_
    rw [show itr zs (k + 1) i = itr zs k (itr zs 1 i) from itr_add k 1 i]
    rfl
  · rw [List.getElem?_eq_none (by rw [joinL_len]; exact hi), List.getElem?_eq_none (by rw [pw_len]; exact hi)]
theorem pw_plv {zs : List Int} (h : plv zs = true) : ∀ k, plv (pw zs k) = true
  | 0 => by rw [pw_zero]; exact plv_iota (plv_len h)
  | k + 1 => by rw [← pw_succ h]; exact plv_join (pw_plv h k) h (pw_len zs k)
theorem pw_id {zs : List Int} (h : plv zs = true) (k : Nat) : pw zs k = iota zs.length ↔ lcmK zs zs.length ∣ k := by
  constructor
  · intro e
    refine lcmK_least _ fun j hj => (itr_dvd h hj k).1 ?_
    have := pw_at (k := k) hj
    rw [e, iota_at _ j hj] at this
    injection this with this
    omega
  · intro hd
    apply List.ext_getElem?
    intro i
    rcases Nat.lt_or_ge i zs.length with hi | hi
    · rw [pw_at hi, iota_at _ i hi, (itr_dvd h hi k).2 (Nat.dvd_trans (lcmK_dvd _ hi) hd)]
    · rw [List.getElem?_eq_none (by rw [pw_len]; exact hi), List.getElem?_eq_none (by rw [iota_len]; exact hi)]
theorem pw_first {zs : List Int} (h : plv zs = true) (hl : zs.length ≤ 44) {k : Nat} (h1 : 1 ≤ k) (h2 : k ≤ po zs) : Same (pw zs k) (iota zs.length) = ((k : Int) == (po zs : Int)) := by
  unfold Same
  rw [Bool.eq_iff_iff, decide_eq_true_eq, beq_iff_eq, pw_id h, ← po_yes h hl]
  constructor
  · intro hd
    have := Nat.le_of_dvd h1 hd
    omega
  · intro e
    have : k = po zs := by omega
    rw [this]
    exact Nat.dvd_refl _
section
variable {zs : List Int} (h : plv zs = true)
include h
theorem nx_undo {i : Nat} (hi : i < zs.length) : nx (undoL zs) (nx zs i) = i := by
  have := undo_at h (nx_at h hi).1
  rw [nx, List.getD_eq_getElem?_getD, this]; simp
theorem itr_undo {i : Nat} (hi : i < zs.length) : ∀ k, itr (undoL zs) k (itr zs k i) = i
  | 0 => rfl
  | k + 1 => by
    have e : itr (undoL zs) (k + 1) (itr zs (k + 1) i) = itr (undoL zs) k (itr (undoL zs) 1 (itr zs (k + 1) i)) := itr_add k 1 _
    rw [e]
    have e2 : itr (undoL zs) 1 (itr zs (k + 1) i) = itr zs k i := nx_undo h (itr_lt h hi k)
    rw [e2]
    exact itr_undo hi k
theorem cyc_undo_dvd {i : Nat} (hi : i < zs.length) : cyc (undoL zs) i ∣ cyc zs i := by
  have hu := plv_undo h
  refine (itr_dvd hu (by rw [undoL_len]; exact hi) _).1 ?_
  have := itr_undo h hi (cyc zs i)
  rwa [(cyc_spec h hi).2.1] at this
theorem cyc_undo {i : Nat} (hi : i < zs.length) : cyc (undoL zs) i = cyc zs i := by
  refine Nat.dvd_antisymm (cyc_undo_dvd h hi) ?_
  have := cyc_undo_dvd (plv_undo h) (i := i) (by rw [undoL_len]; exact hi)
  rwa [undo_undo h] at this
theorem lcmK_undo : ∀ k, k ≤ zs.length → lcmK (undoL zs) k = lcmK zs k
  | 0, _ => rfl
  | k + 1, hk => by rw [lcmK, lcmK, lcmK_undo k (by omega), cyc_undo h (by omega)]
theorem po_undo (hl : zs.length ≤ 44) : po (undoL zs) = po zs := by
  rw [po_yes h hl, po_yes (plv_undo h) (by rw [undoL_len]; exact hl), undoL_len, lcmK_undo h _ (Nat.le_refl _)]
end
end Go.Proofs.Ytofnknfoblkcfaa
