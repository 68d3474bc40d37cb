/- Plain laws: undoing orders and joined orders. No condition. -/
import Derived.Test.YtppdikegmijfgaaPlain17b
import Derived.Test.YtppdikegmijfgaaUndo
import Derived.Test.YtppdikegmijfgaaJoin
set_option linter.unusedVariables false
namespace Go.Proofs.Ytppdikegmijfgaa

theorem plv_nat {zs : List Int} {k : Nat} (h : plv zs = true) (hk : k < zs.length) : ∃ z : Nat, zs[k]? = some (z : Int) ∧ z < zs.length := by
  obtain ⟨z, hz⟩ := get_some zs k hk
  obtain ⟨h0, h1⟩ := plv_at h hz
  exact ⟨z.toNat, by rw [Int.toNat_of_nonneg h0]; exact hz, by omega⟩
theorem plv_inj {zs : List Int} {j k : Nat} {z : Int} (h : plv zs = true) (hj : zs[j]? = some z) (hk : zs[k]? = some z) : j = k := by
  obtain ⟨hj1, hj2⟩ := List.getElem?_eq_some_iff.1 hj
  obtain ⟨hk1, hk2⟩ := List.getElem?_eq_some_iff.1 hk
  have hn := plv_nodup h
  rcases Nat.lt_trichotomy j k with h1 | h1 | h1
  · exact absurd (hj2.trans hk2.symm) (List.pairwise_iff_getElem.1 hn j k hj1 hk1 h1)
  · exact h1
  · exact absurd (hk2.trans hj2.symm) (List.pairwise_iff_getElem.1 hn k j hk1 hj1 h1)
theorem plv_onto {zs : List Int} {i : Nat} (h : plv zs = true) (hi : i < zs.length) : ∃ k, k < zs.length ∧ zs[k]? = some (i : Int) := by
  have hm : (i : Int) ∈ zs := (perm_of_plv h).mem_iff.2 (iota_mem.2 (by omega))
  obtain ⟨k, hk, hkz⟩ := List.mem_iff_getElem.1 hm
  exact ⟨k, hk, by rw [List.getElem?_eq_getElem hk, hkz]⟩
theorem undoK_at {zs : List Int} (h : plv zs = true) : ∀ (k j : Nat), j < k → k ≤ zs.length → ∀ z : Nat, zs[j]? = some (z : Int) → (undoK zs k)[z]? = some (j : Int)
  | 0, j, hj, _, _, _ => absurd hj (by omega)
  | k + 1, j, hj, hk, z, hz => by
    obtain ⟨y, hy, hyl⟩ := plv_nat h (by omega : k < zs.length)
    have e : (zs.getD k 0).toNat = y := by rw [List.getD_eq_getElem?_getD, hy]; simp
    rw [undoK, e, List.getElem?_set, undoK_len]
    by_cases hyz : y = z
    · subst hyz
      have : j = k := plv_inj h hz hy
      rw [if_pos rfl, if_pos hyl, this]
    · rw [if_neg hyz]
      have hjk : j ≠ k := by
        intro e
        subst e
        rw [hz] at hy
        injection hy with hy
        exact hyz (by omega)
      exact undoK_at h k j (by omega) (by omega) z hz
theorem undo_at {zs : List Int} {k z : Nat} (h : plv zs = true) (hz : zs[k]? = some (z : Int)) : (undoL zs)[z]? = some (k : Int) :=
  undoK_at h _ k (List.getElem?_eq_some_iff.1 hz).1 (Nat.le_refl _) z hz
theorem undo_back {zs : List Int} {i k : Nat} (h : plv zs = true) (hi : (undoL zs)[i]? = some (k : Int)) : zs[k]? = some (i : Int) := by
  have hl : i < zs.length := by have := (List.getElem?_eq_some_iff.1 hi).1; rwa [undoL_len] at this
  obtain ⟨j, hj, hjz⟩ := plv_onto h hl
  have := undo_at h hjz
  rw [hi] at this
  injection this with this
  have : k = j := by omega
  rw [this]; exact hjz
theorem undo_nat {zs : List Int} {i : Nat} (h : plv zs = true) (hi : i < zs.length) : ∃ k : Nat, (undoL zs)[i]? = some (k : Int) ∧ k < zs.length := by
  obtain ⟨k, hk, hkz⟩ := plv_onto h hi
  exact ⟨k, undo_at h hkz, hk⟩
theorem plv_undo {zs : List Int} (h : plv zs = true) : plv (undoL zs) = true := by
  rw [plv_full]
  simp only [full, Bool.and_eq_true, decide_eq_true_eq]
  rw [undoL_len]
  refine ⟨plv_len h, fun i hi => ?_⟩
  obtain ⟨z, hz, hzl⟩ := plv_nat h hi
  exact List.mem_of_getElem? (undo_at h hz)
theorem undo_undo {zs : List Int} (h : plv zs = true) : undoL (undoL zs) = zs := by
  apply List.ext_getElem?
  intro k
  by_cases hk : k < zs.length
  · obtain ⟨z, hz, hzl⟩ := plv_nat h hk
    rw [hz]
    exact undo_at (plv_undo h) (undo_at h hz)
  · rw [List.getElem?_eq_none (by rw [undoL_len, undoL_len]; omega), List.getElem?_eq_none (by omega)]
theorem join_undo {zs : List Int} (h : plv zs = true) : joinL zs (undoL zs) = iota zs.length := by
  apply List.ext_getElem?
  intro k
  by_cases hk : k < zs.length
  · obtain ⟨j, hj, hjl⟩ := undo_nat h hk
    rw [iota_at _ _ hk]
    exact joinL_at hj (by simpa using undo_back h hj)
  · rw [List.getElem?_eq_none (by rw [joinL_len, undoL_len]; omega), List.getElem?_eq_none (by rw [iota_len]; omega)]
theorem undo_join {zs : List Int} (h : plv zs = true) : joinL (undoL zs) zs = iota zs.length := by
  apply List.ext_getElem?
  intro k
  by_cases hk : k < zs.length
  · obtain ⟨z, hz, hzl⟩ := plv_nat h hk
    rw [iota_at _ _ hk]
    exact joinL_at hz (by simpa using undo_at h hz)
  · rw [List.getElem?_eq_none (by rw [joinL_len]; omega), List.getElem?_eq_none (by rw [iota_len]; omega)]
theorem plv_iota {n : Nat} (hn : n ≤ 200) : plv (iota n) = true := plv_of_perm hn (List.Perm.refl _)
theorem plv_join {f s : List Int} (hf : plv f = true) (hs : plv s = true) (hl : f.length = s.length) : plv (joinL f s) = true := by
  rw [plv_full]
  simp only [full, Bool.and_eq_true, decide_eq_true_eq]
  rw [joinL_len]
  refine ⟨plv_len hs, fun i hi => ?_⟩
  obtain ⟨j, hj, hjz⟩ := plv_onto hf (by omega : i < f.length)
  obtain ⟨k, hk, hkz⟩ := plv_onto hs (by omega : j < s.length)
  exact List.mem_of_getElem? (joinL_at hkz (by simpa using hjz))
end Go.Proofs.Ytppdikegmijfgaa
